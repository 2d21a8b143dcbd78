import Derived.Test.YtcilfgedcnehfaaAud2
import Derived.Deep.RegionLaw
set_option linter.unusedVariables false
set_option linter.unusedSectionVars false
set_option linter.unusedSimpArgs false
namespace Go.Proofs.Ytcilfgedcnehfaa
open Go.RowKit

set_option maxHeartbeats 2000000 in
set_option maxRecDepth 100000 in
theorem auditLess_any (w : World) (A B : Option Addr) (n m c d : Nat) (l : List Ev) (r : List Rc) (h : Rd w 6 A n (evs l)) (g : Rd w 6 B m (rcs r)) (q : Int) (hq0 : 0 ≤ q) (hq : q < 256) (x : Ev) (hnc : n ≤ c) (hmd : m ≤ d) (hn : n ≤ 40) (hm : m ≤ 40) :
    Calls Try.prog 3 #[.slice A n c, .slice B m d, .int .u8 q, x.val] w fun en w' => en = .returned (.bool true) ∧ Below w.heap.size w w' := by
  have hb := h.big
  have gb := g.big
  have HL := Lib.hid h.ev_len
  obtain ⟨x0, x1, x2, x3, x4, x5⟩ := x
  dsimp only [Ev.val]
  go_enter Try.func3, Try.ntmps3
  go_wp2_with fail
  refine (auditLive_any _).mono ?_
  rintro e w1 ⟨rfl, hB⟩
  have hB1 := bafter hB
  go_wp2_with fail
  refine (match_any w1 A B n m c d l r (h.below hB1) (g.below hB1) (by omega) (by omega)).mono ?_
  rintro e w2 ⟨rfl, hC⟩
  have hB2 := bthen hB1 hC
  have hX := bthen hB hC
  generalize hok : matches_ l r = ok
  have HOK := Lib.hid hok
  clear hok
  go_upto_if 44 with (first | (at_builtin; refine wpList_append_rd _ rfl _ _ _ rfl w2.heap.size 34 _ 6 48 (by kernel_rfl) infoRc rfl (by omega) (.slice none 0 0) 0 [] rfl (World.ownsRow_nil _ _ _ _) B m d (rcs r) rfl (g.below hB2) (rcs_one _) (by omega) (by omega) (Nat.le_refl _) ?_; intro v1 w3 hown1 hg1 hat1))
  have hB3 : Below w.heap.size w w3 := hB2.grown hg1 hB2.size (by simp [Value.ownBlock])
  have hC3 : Below w1.heap.size w1 w3 := hC.grown hg1 hC.size (by simp [Value.ownBlock])
  have hz0 : 0 + m = m := Nat.zero_add m
  rw [hz0, List.nil_append] at hown1
  clear hz0
  go_cut [] (fun wx => Below w1.heap.size w1 wx)
  case first =>
    by_cases h0 : 0 < n
    · go_wp2
      go_loopw [12, 47] (fun vi v wr => ∃ k : Nat, k ≤ n ∧ v = .int .i64 k ∧ vi = .int .i64 (bumps l k 0) ∧ w3.grownBy wr none) (fun _ v _ => n - (intOf v).toNat)
      case atStart => exact ⟨0, Nat.zero_le _, rfl, rfl, World.grownBy.refl _ _⟩
      case round =>
        obtain ⟨k, hk, rfl, rfl, hG⟩ := hrel
        have hbk := (bumps_facts l k).1
        have hbk2 := (bumps_facts l k).2.1
        by_cases hlt : k < n
        · generalize hi0 : bumps l k 0 = i0 at *
          have HI0 := Lib.hid hi0
          clear hi0
          go_wp2
          obtain ⟨wo, rfl⟩ : ∃ wo : World, wo = wr := ⟨_, rfl⟩
          go_loopw [12, 51] (fun vi v wr => ∃ j : Nat, j ≤ n ∧ v = .int .i64 j ∧ vi = .int .i64 (bump (l.take j) i0) ∧ w3.grownBy wr none) (fun _ v _ => n - (intOf v).toNat)
          case atStart => exact ⟨0, Nat.zero_le _, rfl, rfl, hG⟩
          case round =>
            obtain ⟨j, hj, rfl, rfl, hG2⟩ := hrel
            have hbj := bump_ge (l.take j) i0
            have htj : (l.take j).length ≤ 40 := by have := List.length_take_le j l; omega
            have hkk : (k : Int) * l.length ≤ 1600 := by rw [HL.out]; have : k * n ≤ 40 * 40 := Nat.mul_le_mul (by omega) hn; omega
            by_cases hlj : j < n
            · obtain ⟨y, hy⟩ : ∃ y, l[j]? = some y := ⟨_, List.getElem?_eq_getElem (by rw [HL.out]; exact hlj)⟩
              have hs : bump (l.take (j + 1)) i0 = if y.it = bump (l.take j) i0 then bump (l.take j) i0 + 1 else bump (l.take j) i0 := by rw [← bump_snoc, List.take_add_one, hy]; rfl
              have HS := Lib.hid hs
              obtain ⟨b, o, rfl, hbl, g0, g1, g2, g3, g4, g5⟩ := ((h.below hB3).grown hG2 (by simp)).ev j y hy
              clear hs hy
              generalize bump (l.take j) i0 = i1 at *
              have hi1 : 0 ≤ i1 := by omega
              have hi2 : i1 ≤ 2000 := by omega
              clear hbj hkk htj
              by_cases hyi : y.it = i1
              · have HY := Lib.hid hyi
                have hye : (y.it == i1) = true := by simpa using hyi
                clear hyi
                go_wp2
                go_roundw
                case rel => exact ⟨j + 1, by omega, by go_num, by rw [HS.out, if_pos HY.out], hG2.trans (World.grownBy_alloc _ _ _)⟩
                case measure => simp [intOf]; omega
              · have HY := Lib.hid hyi
                have hye : (y.it == i1) = false := by simpa using hyi
                clear hyi
                go_wp2
                go_roundw
                case rel => exact ⟨j + 1, by omega, by go_num, by rw [HS.out, if_neg HY.out], hG2.trans (World.grownBy_alloc _ _ _)⟩
                case measure => simp [intOf]; omega
            · obtain rfl : j = n := by omega
              have ht : bump (l.take j) i0 = bumps l (k + 1) 0 := by rw [List.take_of_length_le (by rw [HL.out]; exact Nat.le_refl _), ← HI0.out]; rfl
              rw [ht]
              go_wp2
              go_roundw
              case rel => exact ⟨k + 1, by omega, by go_num, rfl, hG2⟩
              case measure => simp [intOf]; omega
        · obtain rfl : n = k := by omega
          have hnone := bumps_none l
          rw [HL.out] at hnone
          have hle : (n : Int) * l.length ≤ 1600 := by rw [HL.out]; have : n * n ≤ 40 * 40 := Nat.mul_le_mul hn hn; omega
          generalize bumps l n 0 = it at *
          have HN := Lib.hid hnone
          clear hnone
          have h4 := (h.below hB3).grown hG (by simp)
          have hown2 := hown1.kept hG (by cases v1.ownBlock <;> simp)
          go_wp2_with (first | (at_builtin; refine wpList_append_rd _ rfl _ _ _ rfl w2.heap.size 34 _ 6 48 (by kernel_rfl) infoRc rfl (by omega) v1 m (rcs r) rfl (hown2.alloc _) _ 1 1 (rcs [⟨it, 0, 0, 0, 0, 1⟩]) rfl (rd_new wr _ _ 6 1 rfl (by omega)) (rcs_one _) (by omega) (by omega) (by have := hG.size; have := hg1.size; simp; omega) ?_; intro v2 w4 hown3 hg3 hat3))
          rw [rcs_append] at hown3
          obtain ⟨A2, c2, hv2, hc2, hrd, _⟩ := Rd.of_own hown3 (by omega)
          rw [hv2]
          have hbw4 : Below w1.heap.size w1 w4 := ((hC3.grown hG hC3.size (by simp)).alloc (by have := hG.size; have := hC3.size; omega) _).grown hg3 (by have := hG.size; have := hC3.size; simp; omega) (by
            intro k hk
            have := hown2.lt k hk
            have := hC.size
            omega)
          have hnm := matches_none l r ⟨it, 0, 0, 0, 0, 1⟩ HN.out
          refine (match_any w4 A A2 n (m + 1) c c2 l (r ++ [⟨it, 0, 0, 0, 0, 1⟩]) ((h.below hB1).below hbw4) hrd (by omega) (by omega)).mono ?_
          rintro e w5 ⟨rfl, hD⟩
          rw [hnm]
          clear hnm
          go_wp2
          go_meet
          exact bthen hbw4 hD
    · go_wp2
      go_meet
      exact hC3
  case rest =>
    obtain ⟨wa, rfl⟩ : ∃ wa : World, wa = wc := ⟨_, rfl⟩
    have hcutA := hcut
    clear hcut
    have hcut := hcutA
    clear hcutA
    have hBc := bthen hB1 hcut
    have hl := (h.below hB1).below hcut
    have hr := (g.below hB1).below hcut
    have hx0 := (hcut.cell (p := ⟨w.heap.size, 0, none⟩) (new_lt hB)).trans (new_cell hB 0)
    have hx1 := (hcut.cell (p := ⟨w.heap.size, 1, none⟩) (new_lt hB)).trans (new_cell hB 1)
    have hx2 := (hcut.cell (p := ⟨w.heap.size, 2, none⟩) (new_lt hB)).trans (new_cell hB 2)
    have hx3 := (hcut.cell (p := ⟨w.heap.size, 3, none⟩) (new_lt hB)).trans (new_cell hB 3)
    have hx4 := (hcut.cell (p := ⟨w.heap.size, 4, none⟩) (new_lt hB)).trans (new_cell hB 4)
    have hx5 := (hcut.cell (p := ⟨w.heap.size, 5, none⟩) (new_lt hB)).trans (new_cell hB 5)
    have hmr := matches_more l r ⟨x0, x1, x2, x3, x4, x5⟩
    cases ok with
    | false =>
      clear hmr
      go_wp2
      go_ret
      exact ⟨rfl, hBc⟩
    | true =>
      have HMR := Lib.hid (hmr HOK.out)
      have HML := Lib.hid (fun k => matches_less l r k HOK.out)
      clear hmr
      go_upto_region 25 with fail
      go_cut [17, 18] (fun s17 s18 wx => s17 = .bool true ∧ s18 = .int .i64 0 ∧ Below wa.heap.size wa wx)
      case first =>
        go_region_law (first
          | (refine step_append_rd _ rfl (.const (.slice none 0 0)) (.tmp 82) 22 rfl wa.heap.size 26 _ 6 48 (by kernel_rfl) infoEv rfl (by omega) (.slice none 0 0) 0 [] rfl (World.ownsRow_nil _ _ _ _) A n c (evs l) (by simp [Act.eval, Act.put]) ?_ (evs_one _) (by omega) (by omega) (by simp) ?_; (repeat (first | exact hl | refine Rd.drew ?_ | refine Rd.alloc ?_ _)); intro v4 w4 hown4 hg4 hat4; have hb4 : Below wa.heap.size wa w4 := bgrown (by repeat (first | exact Below.refl _ _ | refine Below.drew ?_ | refine balloc ?_ _)) hg4 none_own; (try (have y0 := hg4.cell hx0 (by simp [Value.ownBlock]); have y1 := hg4.cell hx1 (by simp [Value.ownBlock]); have y2 := hg4.cell hx2 (by simp [Value.ownBlock]); have y3 := hg4.cell hx3 (by simp [Value.ownBlock]); have y4 := hg4.cell hx4 (by simp [Value.ownBlock]); have y5 := hg4.cell hx5 (by simp [Value.ownBlock]))))
          | (refine step_append_rd _ rfl (.tmp 83) (.tmp 85) 22 rfl wa.heap.size 26 _ 6 48 (by kernel_rfl) infoEv rfl (by omega) v4 (0 + n) ([] ++ evs l) (by simp [Act.eval, Act.put]) ?_ _ 1 1 (evs [⟨x0, x1, x2, x3, x4, x5⟩]) (by simp [Act.eval, Act.put]; rfl) ?_ (evs_one _) (by omega) (by omega) ?_ ?_; (repeat (first | exact hown4 | refine odrew ?_ | refine World.ownsRow.alloc ?_ _)); (first | exact rd_new _ _ _ 6 1 rfl (by omega) | exact (rd_new _ _ _ 6 1 rfl (by omega)).grown hg4 (by simp [Value.ownBlock]) | exact (rd_new _ _ _ 6 1 rfl (by omega)).drew.grown hg4 (by simp [Value.ownBlock])); (first | exact hb4.size | exact Nat.le_trans hb4.size (by simp)); intro v5 w5 hown5 hg5 hat5; have hb5 : Below wa.heap.size wa w5 := bgrown (by repeat (first | exact hb4 | refine Below.drew ?_ | refine balloc ?_ _)) hg5 (obase hown4); have hv5 : RdV w5 6 v5 (0 + n + 1) (evs (l ++ [⟨x0, x1, x2, x3, x4, x5⟩])) := (by have h5 := RdV.of_own hown5 (by omega); rwa [List.nil_append, evs_append] at h5))
          | (go_simp; go_at_call 13; refine (match_v _ _ _ _ _ _ r hv5 (RdV.mk (hr.below hb5) hmd) (by omega) (by omega)).mono ?_; rintro e w6 ⟨rfl, hD⟩; rw [HMR.out]))
        all_goals (go_wp2_with fail; go_meet; exact ⟨rfl, rfl, bthen hb5 hD⟩)
      case rest =>
        obtain ⟨rfl, rfl, hcut2⟩ := hcut
        have hBd := bthen hBc hcut2
        have hl := hl.below hcut2
        have hr := hr.below hcut2
        clear hx0 hx1 hx2 hx3 hx4 hx5
        by_cases hm0 : m = 0
        · subst hm0
          go_wp2
          go_ret
          exact ⟨rfl, hBd⟩
        · have hm0' : ((m : Int) == 0) = false := by simp; omega
          obtain ⟨k, hk⟩ : ∃ k : Nat, q % (m : Int) = k := ⟨(q % (m : Int)).toNat, by have := Int.emod_nonneg q (b := (m : Int)) (by omega); omega⟩
          have hkm : k < m := by have := Int.emod_lt_of_pos q (b := (m : Int)) (by omega); omega
          have HMK := Lib.hid (HML.out k)
          have hmp : 0 < (m : Int) := by omega
          obtain ⟨A1, hcut1, hrd1⟩ := cut_to (P := Try.prog) 23 34 _ 6 48 (by kernel_rfl) infoRc B m d hmd (k : Int) k rfl (by omega)
          obtain ⟨A2, hcut3, hrd2⟩ := cut_from (P := Try.prog) 23 34 _ 6 48 (by kernel_rfl) infoRc B m d hmd ((k : Int) + 1) (k + 1) (by omega) (by omega)
          have hr1 := hrd1 _ _ hr
          have hr2 := hrd2 _ _ hr
          rw [rcs_take] at hr1
          rw [rcs_drop] at hr2
          clear hrd1 hrd2
          have hwr : IntKind.i64.wrap ((k : Int) + 1) = (k : Int) + 1 := IntWalk.i64_in _ (by omega)
          go_upto_region 31 with fail
          rw [hk]
          clear hk
          go_cut [20, 21] (fun s20 s21 wx => s20 = .bool true ∧ s21 = .int .i64 0 ∧ Below wc.heap.size wc wx)
          case first =>
            go_region_law (first
              | (refine step_append_rd _ rfl (.const (.slice none 0 0)) (.tmp 109) 23 rfl wc.heap.size 34 _ 6 48 (by kernel_rfl) infoRc rfl (by omega) (.slice none 0 0) 0 [] rfl (World.ownsRow_nil _ _ _ _) A1 k d (rcs (r.take k)) (by simp [Act.eval, Act.put]) ?_ (rcs_one _) (by omega) (by omega) (by simp) ?_; (repeat (first | exact hr1 | refine Rd.drew ?_ | refine Rd.alloc ?_ _)); intro v4 w4 hown4 hg4 hat4; have hb4 : Below wc.heap.size wc w4 := bgrown (by repeat (first | exact Below.refl _ _ | refine Below.drew ?_ | refine balloc ?_ _)) hg4 none_own)
              | (refine step_append_rd _ rfl (.tmp 110) (.tmp 114) 23 rfl wc.heap.size 34 _ 6 48 (by kernel_rfl) infoRc rfl (by omega) v4 (0 + k) ([] ++ rcs (r.take k)) (by simp [Act.eval, Act.put]) ?_ A2 (m - (k + 1)) (d - (k + 1)) (rcs (r.drop (k + 1))) (by simp [Act.eval, Act.put]) ?_ (rcs_one _) (by omega) (by omega) ?_ ?_; (repeat (first | exact hown4 | refine odrew ?_ | refine World.ownsRow.alloc ?_ _)); exact hr2.below hb4; exact hb4.size; intro v5 w5 hown5 hg5 hat5; have hb5 : Below wc.heap.size wc w5 := bgrown (by repeat (first | exact hb4 | refine Below.drew ?_ | refine balloc ?_ _)) hg5 (obase hown4); have hv5 : RdV w5 6 v5 (0 + k + (m - (k + 1))) (rcs (r.take k ++ r.drop (k + 1))) := (by have h5 := RdV.of_own hown5 (by omega); rwa [List.nil_append, rcs_append] at h5))
              | (go_simp; go_at_call 13; refine (match_v _ _ _ _ _ l (r.take k ++ r.drop (k + 1)) (RdV.mk (hl.below hb5) hnc) hv5 (by omega) (by omega)).mono ?_; rintro e w6 ⟨rfl, hD⟩; rw [HMK.out]))
            all_goals (go_wp2_with fail; go_meet; exact ⟨rfl, rfl, bthen hb5 hD⟩)
          case rest =>
            obtain ⟨rfl, rfl, hcut4⟩ := hcut
            clear hwr
            go_wp2
            go_ret
            exact ⟨rfl, bthen hBd hcut4⟩
end Go.Proofs.Ytcilfgedcnehfaa
