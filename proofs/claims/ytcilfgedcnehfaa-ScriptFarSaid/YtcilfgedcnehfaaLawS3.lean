import Derived.Test.YtcilfgedcnehfaaPFar
import Derived.Test.YtcilfgedcnehfaaLawS1
import Derived.Test.YtcilfgedcnehfaaLawT1
import Derived.Deep.RegionLaw
set_option linter.unusedVariables false
set_option linter.unusedSectionVars false
set_option linter.unusedSimpArgs false
namespace Go.Proofs.Ytcilfgedcnehfaa
open Go.RowKit

set_option maxRecDepth 100000 in
theorem scriptFar_far (w : World) (A : Option Addr) (n c : Nat) (hn : n ≤ 140737488355328) (q : Int) (hf : 60 < n ∨ n = 0) :
    Calls Try.prog 9 #[.slice A n c, .int .u8 q] w fun en w' => en = .returned (.bool true) ∧ Below w.heap.size w w' := by
  rcases hf with hf | hf
  · go_enter Try.func9, Try.ntmps9
    go_wp2_with fail
    refine (live10_any _).mono ?_
    rintro e w1 ⟨rfl, hB⟩
    go_wp2
    go_ret
    exact ⟨rfl, hB⟩
  · subst hf
    go_enter Try.func9, Try.ntmps9
    go_wp2_with fail
    refine (live10_any _).mono ?_
    rintro e w1 ⟨rfl, hB⟩
    go_wp2
    go_ret
    exact ⟨rfl, hB⟩

theorem of_v (w : World) (u : Value) (n : Nat) (l : List Ev) (h : RdV w 6 u n (evs l)) (hn : n ≤ 1024) (it tr wi : Int) (R : List Ev) (hR : ofL l it tr wi = R) (h1 : R.length ≤ 1) :
    Calls Try.prog 22 #[u, .int .i64 it, .int .i64 tr, .int .i64 wi] w fun en w' => ∃ v, en = .returned (.tuple #[v, .int .i64 0]) ∧ RdV w' 6 v R.length (evs R) ∧ Below w.heap.size w w' := by
  obtain ⟨A, c, rfl, _, h⟩ := h
  exact of_tiny w A n c l h hn it tr wi R hR h1

set_option maxHeartbeats 2000000 in
set_option maxRecDepth 100000 in
theorem scriptFar_any (w : World) (A : Option Addr) (n c : Nat) (l : List Ev) (h : Rd w 6 A n (evs l)) (hnc : n ≤ c) (hn0 : 0 < n) (hn : n ≤ 60) (q : Int) (hq0 : 0 ≤ q) (hq : q < 256) (hl : ∀ x ∈ l, i64r x.wi) :
    Calls Try.prog 9 #[.slice A n c, .int .u8 q] w fun en w' => en = .returned (.bool true) ∧ Below w.heap.size w w' := by
  have hb := h.big
  have HL := Lib.hid h.ev_len
  have HFL := Lib.hid (far_laws l hl)
  have HRG := Lib.hid hl
  clear hl
  go_enter Try.func9, Try.ntmps9
  go_wp2_with fail
  refine (live10_any _).mono ?_
  rintro e w1 ⟨rfl, hB1⟩
  have hn0' : ((n : Int) == 0) = false := by simp; omega
  go_wp2_with fail
  refine (sparse_v _ _ n l (RdV.mk (h.below hB1) hnc) (by omega)).mono ?_
  rintro e w2 ⟨rfl, hB2'⟩
  have hB2 := bthen hB1 hB2'
  obtain ⟨k, hk⟩ : ∃ k : Nat, q % (n : Int) = k := ⟨(q % (n : Int)).toNat, by have := Int.emod_nonneg q (b := (n : Int)) (by omega); omega⟩
  have hkn : k < n := by have := Int.emod_lt_of_pos q (b := (n : Int)) (by omega); omega
  have hnp : 0 < (n : Int) := by omega
  obtain ⟨x, hx⟩ : ∃ x, l[k]? = some x := ⟨_, List.getElem?_eq_getElem (by rw [HL.out]; exact hkn)⟩
  obtain ⟨p1, p2⟩ := HFL.out k x hx
  have HP1 := Lib.hid p1
  have HP2 := Lib.hid p2
  clear p1 p2
  have hr2 := h.below hB2
  obtain ⟨bb, oo, rfl, hbl, hx0, hx1, hx2, hx3, hx4, hx5⟩ := hr2.ev k x hx
  have HX := Lib.hid hx
  clear hx
  generalize hsb : sparseB l = sb at *
  have HSB := Lib.hid hsb
  clear hsb
  go_upto_region 9 with fail
  rw [hk]
  clear hk
  go_cut [8, 9] (fun s8 s9 wx => s8 = .bool false ∧ s9 = .int .i64 0 ∧ Below w2.heap.size w2 wx)
  case first =>
    go_region_law (first
      | (refine step_append_rd _ rfl (.const (.slice none 0 0)) (.tmp 41) 22 rfl w2.heap.size 26 _ 6 48 (by kernel_rfl) infoEv rfl (by omega) (.slice none 0 0) 0 [] rfl (World.ownsRow_nil _ _ _ _) (some ⟨bb, oo, none⟩) n c (evs (l)) (by simp [Act.eval, Act.put]) ?_ (evs_one _) (by omega) (by omega) (by simp) ?_; (repeat (first | exact hr2 | refine Rd.drew ?_ | refine Rd.alloc ?_ _)); intro v4 w4 hown4 hg4 hat4; have hb4 : Below w2.heap.size w2 w4 := bgrown (by repeat (first | exact Below.refl _ _ | refine Below.drew ?_ | refine balloc ?_ _)) hg4 none_own; (try (have y0 := hg4.cell hx0 (by simp [Value.ownBlock]); have y1 := hg4.cell hx1 (by simp [Value.ownBlock]); have y2 := hg4.cell hx2 (by simp [Value.ownBlock]); have y3 := hg4.cell hx3 (by simp [Value.ownBlock]); have y4 := hg4.cell hx4 (by simp [Value.ownBlock]); have y5 := hg4.cell hx5 (by simp [Value.ownBlock]))))
      | (refine step_append_rd _ rfl (.tmp 42) (.tmp 47) 22 rfl w2.heap.size 26 _ 6 48 (by kernel_rfl) infoEv rfl (by omega) v4 (0 + n) ([] ++ evs (l)) (by simp [Act.eval, Act.put]) ?_ _ 1 1 (evs [x]) (by simp [Act.eval, Act.put]; rfl) ?_ (evs_one _) (by omega) (by omega) ?_ ?_; (repeat (first | exact hown4 | refine odrew ?_ | refine World.ownsRow.alloc ?_ _)); (first | exact rd_new _ _ _ 6 1 rfl (by omega) | exact (rd_new _ _ _ 6 1 rfl (by omega)).grown hg4 (by simp [Value.ownBlock]) | exact (rd_new _ _ _ 6 1 rfl (by omega)).drew.grown hg4 (by simp [Value.ownBlock])); (first | exact hb4.size | exact Nat.le_trans hb4.size (by simp)); intro v5 w5 hown5 hg5 hat5; have hb5 : Below w2.heap.size w2 w5 := bgrown (by repeat (first | exact hb4 | refine Below.drew ?_ | refine balloc ?_ _)) hg5 (obase hown4); have hv5 : RdV w5 6 v5 (0 + n + 1) (evs (l ++ [x])) := (by have h5 := RdV.of_own hown5 (by omega); rwa [List.nil_append, evs_append] at h5))
      | (go_simp; go_at_call 16; refine (sparse_v _ _ _ (l ++ [x]) hv5 (by omega)).mono ?_; rintro e w6 ⟨rfl, hD⟩; rw [HP1.out]))
    all_goals (go_wp2_with fail; go_meet; exact ⟨rfl, rfl, bthen hb5 hD⟩)
  case rest =>
    obtain ⟨rfl, rfl, hcut⟩ := hcut
    obtain ⟨w3, rfl⟩ : ∃ w3 : World, w3 = wc := ⟨_, rfl⟩
    have hB3 := bthen hB2 hcut
    have hr3 := hr2.below hcut
    clear hx0 hx1 hx2 hx3 hx4 hx5
    clear hcut
    cases sb with
    | false =>
      go_wp2
      go_ret
      exact ⟨rfl, hB3⟩
    | true =>
      obtain ⟨q1, q2, q3⟩ := HP2.out rfl
      have HQ1 := Lib.hid q1
      have HQ2 := Lib.hid q2
      have HQ3 := Lib.hid q3
      clear q1 q2 q3
      obtain ⟨A1, hcut1, hrd1⟩ := cut_to (P := Try.prog) 22 26 _ 6 48 (by kernel_rfl) infoEv (some ⟨bb, oo, none⟩) n c hnc (k : Int) k rfl (by omega)
      obtain ⟨A2, hcut3, hrd2⟩ := cut_from (P := Try.prog) 22 26 _ 6 48 (by kernel_rfl) infoEv (some ⟨bb, oo, none⟩) n c hnc ((k : Int) + 1) (k + 1) (by omega) (by omega)
      have hs1 := hrd1 _ _ hr3
      have hs2 := hrd2 _ _ hr3
      rw [evs_take] at hs1
      rw [evs_drop] at hs2
      clear hrd1 hrd2
      have hwr : IntKind.i64.wrap ((k : Int) + 1) = (k : Int) + 1 := IntWalk.i64_in _ (by omega)
      go_upto_region 14 with fail
      go_cut [10, 11] (fun s10 s11 wx => s10 = .bool true ∧ s11 = .int .i64 0 ∧ Below w3.heap.size w3 wx)
      case first =>
        go_region_law (first
          | (refine step_append_rd _ rfl (.const (.slice none 0 0)) (.tmp 62) 22 rfl w3.heap.size 26 _ 6 48 (by kernel_rfl) infoEv rfl (by omega) (.slice none 0 0) 0 [] rfl (World.ownsRow_nil _ _ _ _) A1 k c (evs (l.take k)) (by simp [Act.eval, Act.put]) ?_ (evs_one _) (by omega) (by omega) (by simp) ?_; (repeat (first | exact hs1 | refine Rd.drew ?_ | refine Rd.alloc ?_ _)); intro v4 w4 hown4 hg4 hat4; have hb4 : Below w3.heap.size w3 w4 := bgrown (by repeat (first | exact Below.refl _ _ | refine Below.drew ?_ | refine balloc ?_ _)) hg4 none_own)
          | (refine step_append_rd _ rfl (.tmp 63) (.tmp 67) 22 rfl w3.heap.size 26 _ 6 48 (by kernel_rfl) infoEv rfl (by omega) v4 (0 + k) ([] ++ evs (l.take k)) (by simp [Act.eval, Act.put]) ?_ A2 (n - (k + 1)) (c - (k + 1)) (evs (l.drop (k + 1))) (by simp [Act.eval, Act.put]) ?_ (evs_one _) (by omega) (by omega) ?_ ?_; (repeat (first | exact hown4 | refine odrew ?_ | refine World.ownsRow.alloc ?_ _)); exact hs2.below hb4; exact hb4.size; intro v5 w5 hown5 hg5 hat5; have hb5 : Below w3.heap.size w3 w5 := bgrown (by repeat (first | exact hb4 | refine Below.drew ?_ | refine balloc ?_ _)) hg5 (obase hown4); have hv5 : RdV w5 6 v5 (0 + k + (n - (k + 1))) (evs (l.take k ++ l.drop (k + 1))) := (by have h5 := RdV.of_own hown5 (by omega); rwa [List.nil_append, evs_append] at h5))
          | (go_simp; go_at_call 16; refine (sparse_v _ _ _ (l.take k ++ l.drop (k + 1)) hv5 (by omega)).mono ?_; rintro e w6 ⟨rfl, hD⟩; rw [HQ1.out]))
        all_goals (go_wp2_with fail; go_meet; exact ⟨rfl, rfl, bthen hb5 hD⟩)
      case rest =>
        obtain ⟨rfl, rfl, hcut⟩ := hcut
        obtain ⟨w4, rfl⟩ : ∃ w4 : World, w4 = wc := ⟨_, rfl⟩
        have hB4 := bthen hB3 hcut
        have hr4 := hr3.below hcut
        clear hcut hcut1 hcut3 hwr
        clear hs1 hs2
        go_wp2
        go_loopg [80] n (fun g v wr => ∃ (j : Nat), j + g = n ∧ v = .int .i64 j ∧ Below w4.heap.size w4 wr)
        case atStart => exact ⟨0, by omega, rfl, Below.refl _ _⟩
        case round =>
          obtain ⟨j, hj, rfl, hB⟩ := hrel
          by_cases hlt : j < n
          · obtain ⟨y, hy⟩ : ∃ y, l[j]? = some y := ⟨_, List.getElem?_eq_getElem (by rw [HL.out]; exact hlt)⟩
            obtain ⟨b2, o2, e2, hbl2, g0, g1, g2, g3, g4, g5⟩ := (hr4.below hB).ev j y hy
            injection e2 with e2; injection e2 with e2 e3; subst e2; subst e3
            have hym : y ∈ l := List.mem_of_getElem? hy
            have HO1 := Lib.hid (HQ2.out y hym)
            have HO2 := Lib.hid (HQ3.out y hym)
            have hyw := HRG.out y hym
            clear hy
            clear hym
            have hBa := balloc hB (.cells #[.int .i64 y.it, .int .i64 y.tr, .int .i64 y.wi, .int .i64 y.ti, .int .i64 y.ad, .int .u64 y.ma] 26)
            have k0 : (wr.alloc (.cells #[.int .i64 y.it, .int .i64 y.tr, .int .i64 y.wi, .int .i64 y.ti, .int .i64 y.ad, .int .u64 y.ma] 26)).cell? ⟨wr.heap.size, 0, none⟩ = some (.int .i64 y.it) := new_cell (Below.refl _ _) 0
            have k1 : (wr.alloc (.cells #[.int .i64 y.it, .int .i64 y.tr, .int .i64 y.wi, .int .i64 y.ti, .int .i64 y.ad, .int .u64 y.ma] 26)).cell? ⟨wr.heap.size, 1, none⟩ = some (.int .i64 y.tr) := new_cell (Below.refl _ _) 1
            have k2 : (wr.alloc (.cells #[.int .i64 y.it, .int .i64 y.tr, .int .i64 y.wi, .int .i64 y.ti, .int .i64 y.ad, .int .u64 y.ma] 26)).cell? ⟨wr.heap.size, 2, none⟩ = some (.int .i64 y.wi) := new_cell (Below.refl _ _) 2
            have k3 : (wr.alloc (.cells #[.int .i64 y.it, .int .i64 y.tr, .int .i64 y.wi, .int .i64 y.ti, .int .i64 y.ad, .int .u64 y.ma] 26)).cell? ⟨wr.heap.size, 3, none⟩ = some (.int .i64 y.ti) := new_cell (Below.refl _ _) 3
            have k4 : (wr.alloc (.cells #[.int .i64 y.it, .int .i64 y.tr, .int .i64 y.wi, .int .i64 y.ti, .int .i64 y.ad, .int .u64 y.ma] 26)).cell? ⟨wr.heap.size, 4, none⟩ = some (.int .i64 y.ad) := new_cell (Below.refl _ _) 4
            have k5 : (wr.alloc (.cells #[.int .i64 y.it, .int .i64 y.tr, .int .i64 y.wi, .int .i64 y.ti, .int .i64 y.ad, .int .u64 y.ma] 26)).cell? ⟨wr.heap.size, 5, none⟩ = some (.int .u64 y.ma) := new_cell (Below.refl _ _) 5
            have hgs : wr.heap.size < (wr.alloc (.cells #[.int .i64 y.it, .int .i64 y.tr, .int .i64 y.wi, .int .i64 y.ti, .int .i64 y.ad, .int .u64 y.ma] 26)).heap.size := by simp
            go_wp2_with fail
            generalize wr.alloc (.cells #[.int .i64 y.it, .int .i64 y.tr, .int .i64 y.wi, .int .i64 y.ti, .int .i64 y.ad, .int .u64 y.ma] 26) = wa at *
            generalize wr.heap.size = gx at *
            clear g0 g1 g2 g3 g4 g5
            refine (of_v _ _ n l (RdV.mk (hr4.below hBa) hnc) (by omega) _ _ _ [y] HO1.out (by simp)).mono ?_
            rintro e w5 ⟨own, rfl, hown, hB5⟩
            obtain ⟨A5, c5, rfl, hc5, hown⟩ := hown
            obtain ⟨b5, o5, rfl, hbl5, y0, y1, y2, y3, y4, y5⟩ := hown.ev 0 y rfl
            have m0 := (hB5.cell (p := ⟨gx, 0, none⟩) hgs).trans k0
            have m1 := (hB5.cell (p := ⟨gx, 1, none⟩) hgs).trans k1
            have m2 := (hB5.cell (p := ⟨gx, 2, none⟩) hgs).trans k2
            have m3 := (hB5.cell (p := ⟨gx, 3, none⟩) hgs).trans k3
            have m4 := (hB5.cell (p := ⟨gx, 4, none⟩) hgs).trans k4
            have m5 := (hB5.cell (p := ⟨gx, 5, none⟩) hgs).trans k5
            have hgs5 := Nat.lt_of_lt_of_le hgs hB5.size
            clear k0 k1 k2 k3 k4 k5
            simp only [Nat.zero_mul, Nat.add_zero] at y0 y1 y2 y3 y4 y5
            have hBb := bthen hBa hB5
            have hne := neqEv_run y y
            rw [decide_eq_true rfl] at hne
            have hlen1 : [y].length = 1 := rfl
            rw [hlen1]
            clear hlen1
            clear hown
            by_cases hmax : y.wi < 9223372036854775807
            · have hwr : IntKind.i64.wrap (y.wi + 1) = y.wi + 1 := IntWalk.i64_in _ (by unfold i64r at hyw; omega)
              go_wp2
              go_quiet (fail)
              go_wp2_with fail
              refine (of_v _ _ n l (RdV.mk ((hr4.below hBb).drewN _) hnc) (by omega) _ _ _ [] HO2.out (by simp)).mono ?_
              rintro e w7 ⟨v7, rfl, hv7, hB7⟩
              obtain ⟨A7, c7, rfl, hc7, hv7⟩ := hv7
              have hlen0 : ([] : List Ev).length = 0 := rfl
              rw [hlen0]
              clear hlen0
              have hBc := bthen (below_drewN hBb _) hB7
              go_wp2
              go_roundg (n - (j + 1))
              case measure => omega
              case rel => exact ⟨j + 1, by omega, by go_num, hBc⟩
            · go_wp2
              go_quiet (fail)
              go_wp2
              go_roundg (n - (j + 1))
              case measure => omega
              case rel => exact ⟨j + 1, by omega, by go_num, below_drewN hBb _⟩
          · obtain rfl : j = n := by omega
            go_wp2
            go_ret
            exact ⟨rfl, bthen hB4 hB⟩
end Go.Proofs.Ytcilfgedcnehfaa
