import Derived.Test.YtcilfgedcnehfaaLawT1
set_option linter.unusedVariables false
set_option linter.unusedSectionVars false
set_option linter.unusedSimpArgs false
namespace Go.Proofs.Ytcilfgedcnehfaa
open Go.RowKit

set_option maxRecDepth 100000 in
theorem sparseMost_far (w : World) (A : Option Addr) (n c : Nat) (hn : n ≤ 140737488355328) (hf : 40 < n) :
    Calls Try.prog 5 #[.slice A n c] w fun en w' => en = .returned (.bool true) ∧ Below w.heap.size w w' := by
  go_enter Try.func5, Try.ntmps5
  go_wp2_with fail
  refine (live23_any _).mono ?_
  rintro e w1 ⟨rfl, hB⟩
  go_wp2
  go_ret
  exact ⟨rfl, hB⟩

set_option maxHeartbeats 2000000 in
set_option maxRecDepth 100000 in
theorem sparseMost_any (w : World) (A : Option Addr) (n c : Nat) (l : List Ev) (h : Rd w 6 A n (evs l)) (hnc : n ≤ c) (hn : n ≤ 40) (hl : ∀ x ∈ l, i64r x.wi) :
    Calls Try.prog 5 #[.slice A n c] w fun en w' => en = .returned (.bool true) ∧ Below w.heap.size w w' := by
  have hb := h.big
  have HL := Lib.hid h.ev_len
  have htl := (thin_sub l).length_le
  rw [h.ev_len] at htl
  have HML := Lib.hid (most_laws l hl)
  have HTT := Lib.hid (thin_take l)
  have HTF : Hid (thin (l.take n) = thin l) := by
    show _ = _
    rw [List.take_of_length_le (by rw [HL.out]; exact Nat.le_refl _)]
  go_enter Try.func5, Try.ntmps5
  go_wp2_with fail
  refine (live23_any _).mono ?_
  rintro e w1 ⟨rfl, hB1⟩
  go_wp2_with fail
  refine (thin_v _ _ n l (RdV.mk (h.below hB1) hnc) (by omega)).mono ?_
  rintro e w2 ⟨a, rfl, hra, hB2'⟩
  have hB2 := bthen hB1 hB2'
  obtain ⟨A2, c2, rfl, hc2, hra⟩ := hra
  have hat : ∀ k, (thin (l.take k)).length ≤ (thin l).length := fun k => by
    obtain ⟨sub, hs⟩ := HTT.out k
    rw [hs, List.length_append]; omega
  have HAT := Lib.hid hat
  clear hat
  generalize thin l = T at *
  go_wp2
  go_loopg [5, 28] n (fun g v5 v wr => ∃ (k : Nat), k + g = n ∧ v = .int .i64 k ∧ v5 = .int .i64 ((thin (l.take k)).length : Nat) ∧ Below w2.heap.size w2 wr)
  case atStart => exact ⟨0, by omega, rfl, rfl, Below.refl _ _⟩
  case round =>
    obtain ⟨k, hk, rfl, rfl, hB⟩ := hrel
    have hatk := HAT.out k
    by_cases hlt : k < n
    · obtain ⟨x, hx⟩ : ∃ x, l[k]? = some x := ⟨_, List.getElem?_eq_getElem (by rw [HL.out]; exact hlt)⟩
      obtain ⟨b, o, rfl, hbl, g0, g1, g2, g3, g4, g5⟩ := ((h.below hB2).below hB).ev k x hx
      obtain ⟨p1, p2, p3, p4⟩ := HML.out k x hx
      have HX := Lib.hid hx
      have HP1 := Lib.hid p1
      have HP2 := Lib.hid p2
      have HP3 := Lib.hid p3
      have HP4 := Lib.hid p4
      clear p1 p2 p3 p4 hx
      generalize hcur : thin (l.take k) = cur at *
      generalize hcl : cur.length = at_ at *
      have HCUR := Lib.hid hcur
      have HCL := Lib.hid hcl
      clear hcur hcl
      have hBa := balloc hB (.cells #[.int .i64 x.it, .int .i64 x.tr, .int .i64 x.wi, .int .i64 x.ti, .int .i64 x.ad, .int .u64 x.ma] 26)
      have hx0 : (wr.alloc (.cells #[.int .i64 x.it, .int .i64 x.tr, .int .i64 x.wi, .int .i64 x.ti, .int .i64 x.ad, .int .u64 x.ma] 26)).cell? ⟨wr.heap.size, 0, none⟩ = some (.int .i64 x.it) := new_cell (Below.refl _ _) 0
      have hx1 : (wr.alloc (.cells #[.int .i64 x.it, .int .i64 x.tr, .int .i64 x.wi, .int .i64 x.ti, .int .i64 x.ad, .int .u64 x.ma] 26)).cell? ⟨wr.heap.size, 1, none⟩ = some (.int .i64 x.tr) := new_cell (Below.refl _ _) 1
      have hx2 : (wr.alloc (.cells #[.int .i64 x.it, .int .i64 x.tr, .int .i64 x.wi, .int .i64 x.ti, .int .i64 x.ad, .int .u64 x.ma] 26)).cell? ⟨wr.heap.size, 2, none⟩ = some (.int .i64 x.wi) := new_cell (Below.refl _ _) 2
      have hx3 : (wr.alloc (.cells #[.int .i64 x.it, .int .i64 x.tr, .int .i64 x.wi, .int .i64 x.ti, .int .i64 x.ad, .int .u64 x.ma] 26)).cell? ⟨wr.heap.size, 3, none⟩ = some (.int .i64 x.ti) := new_cell (Below.refl _ _) 3
      have hx4 : (wr.alloc (.cells #[.int .i64 x.it, .int .i64 x.tr, .int .i64 x.wi, .int .i64 x.ti, .int .i64 x.ad, .int .u64 x.ma] 26)).cell? ⟨wr.heap.size, 4, none⟩ = some (.int .i64 x.ad) := new_cell (Below.refl _ _) 4
      have hx5 : (wr.alloc (.cells #[.int .i64 x.it, .int .i64 x.tr, .int .i64 x.wi, .int .i64 x.ti, .int .i64 x.ad, .int .u64 x.ma] 26)).cell? ⟨wr.heap.size, 5, none⟩ = some (.int .u64 x.ma) := new_cell (Below.refl _ _) 5
      have hgs : wr.heap.size < (wr.alloc (.cells #[.int .i64 x.it, .int .i64 x.tr, .int .i64 x.wi, .int .i64 x.ti, .int .i64 x.ad, .int .u64 x.ma] 26)).heap.size := by simp
      go_upto_region 12 with fail
      generalize wr.alloc (.cells #[.int .i64 x.it, .int .i64 x.tr, .int .i64 x.wi, .int .i64 x.ti, .int .i64 x.ad, .int .u64 x.ma] 26) = wa at *
      generalize wr.heap.size = gx at *
      have hrT := hra.below hBa
      generalize hTn : T.length = tn at *
      have HTN := Lib.hid hTn
      clear hTn
      go_cut [8, 9] (fun s8 s9 wx => s8 = .bool false ∧ s9 = .int .i64 0 ∧ Below wa.heap.size wa wx)
      case first =>
        go_region_law (first
          | (refine step_append_rd _ rfl (.const (.slice none 0 0)) (.tmp 33) 22 rfl wa.heap.size 26 _ 6 48 (by kernel_rfl) infoEv rfl (by omega) (.slice none 0 0) 0 [] rfl (World.ownsRow_nil _ _ _ _) A2 tn c2 (evs T) (by simp [Act.eval, Act.put]) ?_ (evs_one _) (by omega) (by omega) (by simp) ?_; (repeat (first | exact hrT | refine Rd.drew ?_ | refine Rd.alloc ?_ _)); intro v4 w4 hown4 hg4 hat4; have hb4 : Below wa.heap.size wa w4 := bgrown (by repeat (first | exact Below.refl _ _ | refine Below.drew ?_ | refine balloc ?_ _)) hg4 none_own; (try (have y0 := hg4.cell hx0 (by simp [Value.ownBlock]); have y1 := hg4.cell hx1 (by simp [Value.ownBlock]); have y2 := hg4.cell hx2 (by simp [Value.ownBlock]); have y3 := hg4.cell hx3 (by simp [Value.ownBlock]); have y4 := hg4.cell hx4 (by simp [Value.ownBlock]); have y5 := hg4.cell hx5 (by simp [Value.ownBlock]))))
          | (refine step_append_rd _ rfl (.tmp 34) (.tmp 36) 22 rfl wa.heap.size 26 _ 6 48 (by kernel_rfl) infoEv rfl (by omega) v4 (0 + tn) ([] ++ evs T) (by simp [Act.eval, Act.put]) ?_ _ 1 1 (evs [x]) (by simp [Act.eval, Act.put]; rfl) ?_ (evs_one _) (by omega) (by omega) ?_ ?_; (repeat (first | exact hown4 | refine odrew ?_ | refine World.ownsRow.alloc ?_ _)); (first | exact rd_new _ _ _ 6 1 rfl (by omega) | exact (rd_new _ _ _ 6 1 rfl (by omega)).grown hg4 (by simp [Value.ownBlock]) | exact (rd_new _ _ _ 6 1 rfl (by omega)).drew.grown hg4 (by simp [Value.ownBlock])); (first | exact hb4.size | exact Nat.le_trans hb4.size (by simp)); intro v5 w5 hown5 hg5 hat5; have hb5 : Below wa.heap.size wa w5 := bgrown (by repeat (first | exact hb4 | refine Below.drew ?_ | refine balloc ?_ _)) hg5 (obase hown4); have hv5 : RdV w5 6 v5 (0 + tn + 1) (evs (T ++ [x])) := (by have h5 := RdV.of_own hown5 (by omega); rwa [List.nil_append, evs_append] at h5))
          | (go_simp; go_at_call 16; refine (sparse_v _ _ _ (T ++ [x]) hv5 (by omega)).mono ?_; rintro e w6 ⟨rfl, hD⟩; rw [HP1.out]))
        all_goals (go_wp2_with fail; go_meet; exact ⟨rfl, rfl, bthen hb5 hD⟩)
      case rest =>
        obtain ⟨rfl, rfl, hcut⟩ := hcut
        obtain ⟨wb, rfl⟩ : ∃ wb : World, wb = wc := ⟨_, rfl⟩
        have hx0 := (hcut.cell (p := ⟨gx, 0, none⟩) hgs).trans hx0
        have hx1 := (hcut.cell (p := ⟨gx, 1, none⟩) hgs).trans hx1
        have hx2 := (hcut.cell (p := ⟨gx, 2, none⟩) hgs).trans hx2
        have hx3 := (hcut.cell (p := ⟨gx, 3, none⟩) hgs).trans hx3
        have hx4 := (hcut.cell (p := ⟨gx, 4, none⟩) hgs).trans hx4
        have hx5 := (hcut.cell (p := ⟨gx, 5, none⟩) hgs).trans hx5
        have hgs := Nat.lt_of_lt_of_le hgs hcut.size
        have hBb := bthen hBa hcut
        have hrT := hrT.below hcut
        clear hBa
        clear hcut
        go_upto_region 15 with fail
        go_cut [57] (fun s57 wx => s57 = .bool (decide (T[at_]? = some x)) ∧ Below wb.heap.size wb wx)
        case first =>
          by_cases hlt2 : at_ < tn
          · obtain ⟨y, hy⟩ : ∃ y, T[at_]? = some y := ⟨_, List.getElem?_eq_getElem (by rw [HTN.out]; exact hlt2)⟩
            obtain ⟨b', o', rfl, hbl', k0, k1, k2, k3, k4, k5⟩ := hrT.ev at_ y hy
            have hty : decide (T[at_]? = some x) = decide (y = x) := by rw [hy]; simp
            have heq := eqlEv_run y x
            have HTY := Lib.hid hty
            clear hy hty
            go_wp2
            go_quiet (fail)
            go_wp2
            go_meet
            exact ⟨by rw [HTY.out], below_drewN (Below.refl _ _) _⟩
          · have hno : decide (T[at_]? = some x) = false := by
              have := HTN.out
              rw [List.getElem?_eq_none (by omega)]; rfl
            have HNO := Lib.hid hno
            clear hno
            go_wp2
            go_quiet (fail)
            go_wp2
            go_meet
            exact ⟨by rw [HNO.out], below_drewN (Below.refl _ _) _⟩
        case rest =>
          obtain ⟨rfl, hcut⟩ := hcut
          obtain ⟨wd, rfl⟩ : ∃ wd : World, wd = wc := ⟨_, rfl⟩
          have hx0 := (hcut.cell (p := ⟨gx, 0, none⟩) hgs).trans hx0
          have hx1 := (hcut.cell (p := ⟨gx, 1, none⟩) hgs).trans hx1
          have hx2 := (hcut.cell (p := ⟨gx, 2, none⟩) hgs).trans hx2
          have hx3 := (hcut.cell (p := ⟨gx, 3, none⟩) hgs).trans hx3
          have hx4 := (hcut.cell (p := ⟨gx, 4, none⟩) hgs).trans hx4
          have hx5 := (hcut.cell (p := ⟨gx, 5, none⟩) hgs).trans hx5
          have hgs := Nat.lt_of_lt_of_le hgs hcut.size
          have hBd := bthen hBb hcut
          have hrT := hrT.below hcut
          clear hBb
          clear hcut
          obtain ⟨A3, hcutS, hrd3⟩ := cut_to (P := Try.prog) 22 26 _ 6 48 (by kernel_rfl) infoEv A2 tn c2 hc2 (at_ : Int) at_ rfl (by omega)
          have hr3 := hrd3 _ _ hrT
          rw [evs_take, HP2.out] at hr3
          clear hrd3
          have HDEC : Hid (decide (T[at_]? = some x) = decide (T[at_]? = some x)) := rfl
          cases hdec : decide (T[at_]? = some x) with
          | true =>
            have hq := HP3.out (of_decide_eq_true hdec)
            have HQ := Lib.hid hq.1
            have HN := Lib.hid hq.2
            clear hdec HDEC hq
            go_upto_region 16 with fail
            go_cut [10, 11] (fun s10 s11 wx => s10 = .bool true ∧ s11 = .int .i64 0 ∧ Below wd.heap.size wd wx)
            case first =>
              go_region_law (first
                | (refine step_append_rd _ rfl (.const (.slice none 0 0)) (.tmp 61) 22 rfl wd.heap.size 26 _ 6 48 (by kernel_rfl) infoEv rfl (by omega) (.slice none 0 0) 0 [] rfl (World.ownsRow_nil _ _ _ _) A3 at_ c2 (evs cur) (by simp [Act.eval, Act.put]) ?_ (evs_one _) (by omega) (by omega) (by simp) ?_; (repeat (first | exact hr3 | refine Rd.drew ?_ | refine Rd.alloc ?_ _)); intro v4 w4 hown4 hg4 hat4; have hb4 : Below wd.heap.size wd w4 := bgrown (by repeat (first | exact Below.refl _ _ | refine Below.drew ?_ | refine balloc ?_ _)) hg4 none_own; (try (have y0 := hg4.cell hx0 (by simp [Value.ownBlock]); have y1 := hg4.cell hx1 (by simp [Value.ownBlock]); have y2 := hg4.cell hx2 (by simp [Value.ownBlock]); have y3 := hg4.cell hx3 (by simp [Value.ownBlock]); have y4 := hg4.cell hx4 (by simp [Value.ownBlock]); have y5 := hg4.cell hx5 (by simp [Value.ownBlock]))))
                | (refine step_append_rd _ rfl (.tmp 62) (.tmp 64) 22 rfl wd.heap.size 26 _ 6 48 (by kernel_rfl) infoEv rfl (by omega) v4 (0 + at_) ([] ++ evs cur) (by simp [Act.eval, Act.put]) ?_ _ 1 1 (evs [x]) (by simp [Act.eval, Act.put]; rfl) ?_ (evs_one _) (by omega) (by omega) ?_ ?_; (repeat (first | exact hown4 | refine odrew ?_ | refine World.ownsRow.alloc ?_ _)); (first | exact rd_new _ _ _ 6 1 rfl (by omega) | exact (rd_new _ _ _ 6 1 rfl (by omega)).grown hg4 (by simp [Value.ownBlock]) | exact (rd_new _ _ _ 6 1 rfl (by omega)).drew.grown hg4 (by simp [Value.ownBlock])); (first | exact hb4.size | exact Nat.le_trans hb4.size (by simp)); intro v5 w5 hown5 hg5 hat5; have hb5 : Below wd.heap.size wd w5 := bgrown (by repeat (first | exact hb4 | refine Below.drew ?_ | refine balloc ?_ _)) hg5 (obase hown4); have hv5 : RdV w5 6 v5 (0 + at_ + 1) (evs (cur ++ [x])) := (by have h5 := RdV.of_own hown5 (by omega); rwa [List.nil_append, evs_append] at h5))
                | (go_simp; go_at_call 16; refine (sparse_v _ _ _ (cur ++ [x]) hv5 (by omega)).mono ?_; rintro e w6 ⟨rfl, hD⟩; rw [HQ.out]))
              all_goals (go_wp2_with fail; go_meet; exact ⟨rfl, rfl, bthen hb5 hD⟩)
            case rest =>
              obtain ⟨rfl, rfl, hcut⟩ := hcut
              clear hcutS
              go_wp2
              go_roundg (n - (k + 1))
              case measure => omega
              case rel => exact ⟨k + 1, by omega, by go_num, by rw [HN.out, List.length_append, HCL.out]; go_num, bthen hBd hcut⟩
          | false =>
            have hq := HP4.out (of_decide_eq_false hdec)
            have HQ := Lib.hid hq.1
            have HN := Lib.hid hq.2
            clear hdec HDEC hq
            go_upto_region 20 with fail
            go_cut [12, 13] (fun s12 s13 wx => s12 = .bool false ∧ s13 = .int .i64 0 ∧ Below wd.heap.size wd wx)
            case first =>
              go_region_law (first
                | (refine step_append_rd _ rfl (.const (.slice none 0 0)) (.tmp 80) 22 rfl wd.heap.size 26 _ 6 48 (by kernel_rfl) infoEv rfl (by omega) (.slice none 0 0) 0 [] rfl (World.ownsRow_nil _ _ _ _) A3 at_ c2 (evs cur) (by simp [Act.eval, Act.put]) ?_ (evs_one _) (by omega) (by omega) (by simp) ?_; (repeat (first | exact hr3 | refine Rd.drew ?_ | refine Rd.alloc ?_ _)); intro v4 w4 hown4 hg4 hat4; have hb4 : Below wd.heap.size wd w4 := bgrown (by repeat (first | exact Below.refl _ _ | refine Below.drew ?_ | refine balloc ?_ _)) hg4 none_own; (try (have y0 := hg4.cell hx0 (by simp [Value.ownBlock]); have y1 := hg4.cell hx1 (by simp [Value.ownBlock]); have y2 := hg4.cell hx2 (by simp [Value.ownBlock]); have y3 := hg4.cell hx3 (by simp [Value.ownBlock]); have y4 := hg4.cell hx4 (by simp [Value.ownBlock]); have y5 := hg4.cell hx5 (by simp [Value.ownBlock]))))
                | (refine step_append_rd _ rfl (.tmp 81) (.tmp 83) 22 rfl wd.heap.size 26 _ 6 48 (by kernel_rfl) infoEv rfl (by omega) v4 (0 + at_) ([] ++ evs cur) (by simp [Act.eval, Act.put]) ?_ _ 1 1 (evs [x]) (by simp [Act.eval, Act.put]; rfl) ?_ (evs_one _) (by omega) (by omega) ?_ ?_; (repeat (first | exact hown4 | refine odrew ?_ | refine World.ownsRow.alloc ?_ _)); (first | exact rd_new _ _ _ 6 1 rfl (by omega) | exact (rd_new _ _ _ 6 1 rfl (by omega)).grown hg4 (by simp [Value.ownBlock]) | exact (rd_new _ _ _ 6 1 rfl (by omega)).drew.grown hg4 (by simp [Value.ownBlock])); (first | exact hb4.size | exact Nat.le_trans hb4.size (by simp)); intro v5 w5 hown5 hg5 hat5; have hb5 : Below wd.heap.size wd w5 := bgrown (by repeat (first | exact hb4 | refine Below.drew ?_ | refine balloc ?_ _)) hg5 (obase hown4); have hv5 : RdV w5 6 v5 (0 + at_ + 1) (evs (cur ++ [x])) := (by have h5 := RdV.of_own hown5 (by omega); rwa [List.nil_append, evs_append] at h5))
                | (go_simp; go_at_call 16; refine (sparse_v _ _ _ (cur ++ [x]) hv5 (by omega)).mono ?_; rintro e w6 ⟨rfl, hD⟩; rw [HQ.out]))
              all_goals (go_wp2_with fail; go_meet; exact ⟨rfl, rfl, bthen hb5 hD⟩)
            case rest =>
              obtain ⟨rfl, rfl, hcut⟩ := hcut
              clear hcutS
              go_wp2
              go_roundg (n - (k + 1))
              case measure => omega
              case rel => exact ⟨k + 1, by omega, by go_num, by rw [HN.out, HCL.out], bthen hBd hcut⟩
    · obtain rfl : k = n := by omega
      have hfin : (thin (l.take k)).length = T.length := by rw [HTF.out]
      rw [hfin]
      clear hfin
      go_wp2
      go_ret
      refine ⟨by simp, bthen hB2 hB⟩
end Go.Proofs.Ytcilfgedcnehfaa
