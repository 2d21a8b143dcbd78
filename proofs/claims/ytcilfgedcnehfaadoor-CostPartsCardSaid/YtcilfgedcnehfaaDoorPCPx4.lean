-- Written by a program (wip/pr.py) over the kit's printer and contracts of my own
import Derived.Test.YtcilfgedcnehfaaDoorPCPx0
import Derived.Test.YtcilfgedcnehfaaDoorPCPx2
import Derived.Test.YtcilfgedcnehfaaDoorPCPx3
namespace Go.Proofs.YtcilfgedcnehfaaDoor.PCP
open Go.RowKit Go.Proofs.YtcilfgedcnehfaaDoorW.PrintWords Go.Proofs.YtcilfgedcnehfaaDoorW.PrintLast Go.Proofs.YtcilfgedcnehfaaDoorW.PrintMore
attribute [local go_sem] max2_int min2_int max_two min_two max_three min_three max_four min_four   -- for this text's walks alone
set_option linter.unusedVariables false
set_option linter.unusedSimpArgs false

/-! ### step_Check: function 30 -/
def step_Check.j0 : Nat → List (S33) → Bool → Int → Bool → Int → Int → Int → Option (Int)
  | 0, _, _, _, _, _, _, _ => none
  | k + 1, x1, x26, x141000, x141001, x141002, x141003, x141004 => if x26 = true then (some 1) else (if x141001 = true then ((api_Stage_49.f k (([(⟨0, 0, 0⟩ : S35)] : List (S35))) x141002 x141003 x141004).bind fun t145 => (if t145 = true then (some 0) else (some 1))) else (if 0 ≤ x141000 then (if x141000 < (x1.length : Int) then ((factor_Stages.f k ((rd_T33 x1 x141000).f0)).bind fun bt147 => (if bt147.2 = 0 then ((api_Stage_49.f k bt147.1 x141002 x141003 x141004).bind fun t151 => (if t151 = true then (some 0) else (some 1))) else (some bt147.2))) else (none)) else (none)))
def step_Check.f (k : Nat) (a0 : Int) (l1 : List (S33)) (a2_0 : Int) (a2_1 : Bool) (a2_2 : Int) (a2_3 : Int) (a2_4 : Int) : Option (Int) := (grid_Check.f k a0 l1).bind fun t141 => (if t141 = 0 then (if a2_0 < 0 then (step_Check.j0 k l1 true a2_0 a2_1 a2_2 a2_3 a2_4) else (step_Check.j0 k l1 (decide (a2_0 ≥ (l1.length : Int))) a2_0 a2_1 a2_2 a2_3 a2_4)) else (some t141))
theorem step_Check.mono_l : ∀ k, (∀ y0 y1 y2 y3 y4 y5 y6, LeO (step_Check.j0 k y0 y1 y2 y3 y4 y5 y6) (step_Check.j0 (k + 1) y0 y1 y2 y3 y4 y5 y6))
  | 0 => fun _ _ _ _ _ _ _ r h => by simp [step_Check.j0] at h
  | k + 1 => by
    have ih0 := step_Check.mono_l k
    · intro y0 y1 y2 y3 y4 y5 y6
      unfold step_Check.j0
      repeat' first
      | (with_reducible exact ih0 _ _ _ _ _ _ _)
      | (with_reducible exact api_Stage_49.mono _ _ _ _ _)
      | (with_reducible exact factor_Stages.mono _ _)
      | (with_reducible exact grid_Check.mono _ _ _)
      | (with_reducible exact LeO.refl _)
      | (with_reducible exact LeO.none _)
      | (with_reducible refine LeO.ite ?_ ?_)
      | (with_reducible refine LeO.bind ?_ (fun _ => ?_))
      | exact ih0 _ _ _ _ _ _ _
      | exact api_Stage_49.mono _ _ _ _ _
      | exact factor_Stages.mono _ _
      | exact grid_Check.mono _ _ _
      | exact LeO.none _
      | refine LeO.ite ?_ ?_
      | refine LeO.bind ?_ (fun _ => ?_)
theorem step_Check.mono : ∀ a0 a1 a2 a3 a4 a5 a6 k, LeO (step_Check.f k a0 a1 a2 a3 a4 a5 a6) (step_Check.f (k + 1) a0 a1 a2 a3 a4 a5 a6) := by
  intro a0 a1 a2 a3 a4 a5 a6 k
  have ih0 := step_Check.mono_l k
  unfold step_Check.f
  repeat' first
      | (with_reducible exact ih0 _ _ _ _ _ _ _)
      | (with_reducible exact api_Stage_49.mono _ _ _ _ _)
      | (with_reducible exact factor_Stages.mono _ _)
      | (with_reducible exact grid_Check.mono _ _ _)
      | (with_reducible exact LeO.refl _)
      | (with_reducible exact LeO.none _)
      | (with_reducible refine LeO.ite ?_ ?_)
      | (with_reducible refine LeO.bind ?_ (fun _ => ?_))
      | exact ih0 _ _ _ _ _ _ _
      | exact api_Stage_49.mono _ _ _ _ _
      | exact factor_Stages.mono _ _
      | exact grid_Check.mono _ _ _
      | exact LeO.none _
      | refine LeO.ite ?_ ?_
      | refine LeO.bind ?_ (fun _ => ?_)
set_option maxHeartbeats 8000000 in
set_option maxRecDepth 100000 in
theorem step_Check.calls (k : Nat) (a0 : Int) (A1 : Option Addr) (c1 : Nat) (l1 : List (S33)) (a2_0 : Int) (a2_1 : Bool) (a2_2 : Int) (a2_3 : Int) (a2_4 : Int) (r : Int) (w : World) (hG : Tab w) (hr1 : Kd.C k33 w A1 l1.length l1) (hc1 : l1.length ≤ c1) (h : step_Check.f k a0 l1 a2_0 a2_1 a2_2 a2_3 a2_4 = some r) :
    Calls Tryd.prog 30 #[.int .u64 a0, .slice A1 l1.length c1, .agg #[.int .i64 a2_0, .bool a2_1, .int .i64 a2_2, .int .i64 a2_3, .int .i64 a2_4]] w fun e w' => e = .returned (.int .i64 r) ∧ Below w.heap.size w w' := by
  have HG := Aside0.mk hG
  clear hG
  have hu37 := Tryd.underlying37
  have hu35 := Tryd.underlying35
  have HR1 := Aside0.mk hr1
  have HC1 := Aside0.mk hc1
  clear hr1 hc1
  have HB := Aside0.mk (Below.refl w.heap.size w)
  have H : ((grid_Check.f k a0 l1).bind fun t141 => (if t141 = 0 then (if a2_0 < 0 then (step_Check.j0 k l1 true a2_0 a2_1 a2_2 a2_3 a2_4) else (step_Check.j0 k l1 (decide (a2_0 ≥ (l1.length : Int))) a2_0 a2_1 a2_2 a2_3 a2_4)) else (some t141))) = some r := h
  clear h
  replace H := Option.bind_eq_some_iff.mp H
  obtain ⟨t141, A40, H⟩ := H
  replace H : (if t141 = 0 then (if a2_0 < 0 then (step_Check.j0 k l1 true a2_0 a2_1 a2_2 a2_3 a2_4) else (step_Check.j0 k l1 (decide (a2_0 ≥ (l1.length : Int))) a2_0 a2_1 a2_2 a2_3 a2_4)) else (some t141)) = some r := H
  have A4 := Aside0.mk A40
  clear A40
  by_cases c5 : t141 = 0
  · rw [if_pos c5] at H
    have c5b0 : (t141 == 0) = true := beq_iff_eq.mpr c5
    have c5b1 : (t141 != 0) = false := bne_eq_false_iff_eq.mpr c5
    clear c5
    have HC6 := Aside0.mk H
    clear H
    go_enter Tryd.func30, Tryd.ntmps30
    go_upto_region 4 with (first | ((with_reducible refine gate_dst (N := 5) rfl ?_); (try (refine gate_guard (by rfl) ?_; dsimp only)); refine box_event ?hg (N := 5) ?hd (cs := #[.int .i64 a2_0, .bool a2_1, .int .i64 a2_2, .int .i64 a2_3, .int .i64 a2_4]) (t := 37) ?hr ?_; (case hd => rfl); (case hg => rfl); (case hr => first | (go_simp; done) | (go_simp; rfl)); intro gb140 hg w7 hbox hb; have n0_ := Aside0.mk (below_step (by repeat (first | (with_reducible first | exact HB.out | apply below_alloc | apply pw_below_drewN | apply below_drew1) | exact HB.out)) hb); have n1_ := Aside0.mk (hbox); have n2_ := Aside0.mk ((by rw [hg]; exact (below_size (by repeat (first | (with_reducible first | exact HB.out | apply below_alloc | apply pw_below_drewN | apply below_drew1) | exact HB.out))) : w.heap.size ≤ gb140)); have n3_ := Aside0.mk ((by rw [hg]; exact (below_size (by repeat (first | (with_reducible first | exact HB.out | apply below_alloc | apply pw_below_drewN | apply below_drew1) | exact HB.out))) : w.heap.size ≤ gb140)); clear HB; have HB := n0_; have BK140 := n1_; have GW140 := n2_; have GE140 := n3_; clear n0_ n1_ n2_ n3_; clear hb hbox hg) | ((with_reducible refine gate_callee (f := 28) rfl ?_); refine goesL_ (some 13) rfl rfl Tryd.func28 (by kernel_rfl) rfl #[.int .u64 a0, .slice A1 l1.length c1] rfl (by (try simp only [List.map_toArray, List.map_cons, List.map_nil]); first | done | rfl | (simp only [List.length_drop, List.length_take]; rfl)) ?_; (with_reducible refine (grid_Check.calls (hG := ?sideG) k a0 _ _ l1 t141 _ ?side1 ?side2 A4.out).mono ?_); (case sideG => exact tab_below HG.out (by repeat (first | (with_reducible first | exact HB.out | apply below_alloc | apply pw_below_drewN | apply below_drew1 | refine below_set ?_ GE140.out) | exact HB.out))); (case side1 => repeat (first | exact (Kd.C_below HR1.out HB.out) | (with_reducible refine Kd.C_alloc ?_ _) | (with_reducible refine Kd.C_drewN ?_ _) | (with_reducible refine Kd.C_drew ?_))); (case side2 => exact HC1.out); rintro e w8 ⟨rfl, hb⟩; refine ⟨_, rfl, ?_⟩; have n0_ := Aside0.mk (blk_below (g := gb140) (o := .cells #[.int .i64 a2_0, .bool a2_1, .int .i64 a2_2, .int .i64 a2_3, .int .i64 a2_4] 37 (0, 0)) (by (with_reducible repeat (first | refine blk_drewN ?_ _ | refine blk_drew ?_ | refine blk_alloc ?_ _)); exact BK140.out) hb); have n1_ := Aside0.mk (below_step (by repeat (first | (with_reducible first | exact HB.out | apply below_alloc | apply pw_below_drewN | apply below_drew1 | refine below_set ?_ GE140.out) | exact HB.out)) hb); clear BK140; clear HB; have BK140 := n0_; have HB := n1_; clear n0_ n1_; (try clear hb); (try clear hb2); (try clear hk); (try clear hi)))
    (try simp only [Act.put, List.setIfInBounds_toArray, List.set_cons_zero, List.set_cons_succ])
    go_cut [26] (fun v26 wc => ∃ (kq : Nat) (x26_5 : Bool), v26 = .bool x26_5 ∧ Aside0 (step_Check.j0 kq l1 x26_5 a2_0 a2_1 a2_2 a2_3 a2_4 = some r) ∧ Aside0 (kq ≤ k) ∧ Aside0 (wc.heap[gb140]? = some (.cells #[.int .i64 a2_0, .bool a2_1, .int .i64 a2_2, .int .i64 a2_3, .int .i64 a2_4] 37 (0, 0))) ∧ Aside0 (Below w.heap.size w wc))
    case first =>
      have H := HC6.out
      clear HC6
      by_cases c9 : a2_0 < 0
      · rw [if_pos c9] at H
        have c9b0 : decide (a2_0 < 0) = true := decide_eq_true c9
        clear c9
        (first | rw [c9b0] | (simp only [i64_w, i32_w]; rw [c9b0]) | skip)
        have H' := Aside0.mk H
        clear H
        have hcz10_0 : w8.cell? ⟨gb140, 0, none⟩ = some (.int .i64 a2_0) := (blk_cell BK140.out 0).trans rfl
        have hcz10_1 : w8.cell? ⟨gb140, 1, none⟩ = some (.bool a2_1) := (blk_cell BK140.out 1).trans rfl
        have hcz10_2 : w8.cell? ⟨gb140, 2, none⟩ = some (.int .i64 a2_2) := (blk_cell BK140.out 2).trans rfl
        have hcz10_3 : w8.cell? ⟨gb140, 3, none⟩ = some (.int .i64 a2_3) := (blk_cell BK140.out 3).trans rfl
        have hcz10_4 : w8.cell? ⟨gb140, 4, none⟩ = some (.int .i64 a2_4) := (blk_cell BK140.out 4).trans rfl
        have hfz10_0 := blk_frozen BK140.out 0
        have hfz10_1 := blk_frozen BK140.out 1
        have hfz10_2 := blk_frozen BK140.out 2
        have hfz10_3 := blk_frozen BK140.out 3
        have hfz10_4 := blk_frozen BK140.out 4
        go_wp2
        go_meet
        case rel => exact ⟨_, (true), (by first | rfl | (simp; done) | (simp [*]; done)), H', ⟨by first | omega | exact Nat.le_refl _⟩, ⟨by (with_reducible repeat (first | refine blk_drewN ?_ _ | refine blk_drew ?_ | refine blk_alloc ?_ _)); exact BK140.out⟩, ⟨by repeat (first | (with_reducible first | exact HB.out | apply below_alloc | apply pw_below_drewN | apply below_drew1 | refine below_set ?_ GE140.out) | exact HB.out)⟩⟩
      · rw [if_neg c9] at H
        have c9b0 : decide (a2_0 < 0) = false := decide_eq_false c9
        clear c9
        (first | rw [c9b0] | (simp only [i64_w, i32_w]; rw [c9b0]) | skip)
        have H' := Aside0.mk H
        clear H
        have hcz11_0 : w8.cell? ⟨gb140, 0, none⟩ = some (.int .i64 a2_0) := (blk_cell BK140.out 0).trans rfl
        have hcz11_1 : w8.cell? ⟨gb140, 1, none⟩ = some (.bool a2_1) := (blk_cell BK140.out 1).trans rfl
        have hcz11_2 : w8.cell? ⟨gb140, 2, none⟩ = some (.int .i64 a2_2) := (blk_cell BK140.out 2).trans rfl
        have hcz11_3 : w8.cell? ⟨gb140, 3, none⟩ = some (.int .i64 a2_3) := (blk_cell BK140.out 3).trans rfl
        have hcz11_4 : w8.cell? ⟨gb140, 4, none⟩ = some (.int .i64 a2_4) := (blk_cell BK140.out 4).trans rfl
        have hfz11_0 := blk_frozen BK140.out 0
        have hfz11_1 := blk_frozen BK140.out 1
        have hfz11_2 := blk_frozen BK140.out 2
        have hfz11_3 := blk_frozen BK140.out 3
        have hfz11_4 := blk_frozen BK140.out 4
        go_wp2
        go_meet
        case rel => exact ⟨_, (decide (a2_0 ≥ (l1.length : Int))), (by first | rfl | (simp; done) | (simp [*]; done)), H', ⟨by first | omega | exact Nat.le_refl _⟩, ⟨by (with_reducible repeat (first | refine blk_drewN ?_ _ | refine blk_drew ?_ | refine blk_alloc ?_ _)); exact BK140.out⟩, ⟨by repeat (first | (with_reducible first | exact HB.out | apply below_alloc | apply pw_below_drewN | apply below_drew1 | refine below_set ?_ GE140.out) | exact HB.out)⟩⟩
    case rest =>
      clear HC6
      try clear c1
      try clear c2
      try clear p2
      try clear c3
      try clear c5
      try clear c5b0
      try clear c5b1
      try clear c9
      try clear c9b0
      try clear hcz10_0
      try clear hcz10_1
      try clear hcz10_2
      try clear hcz10_3
      try clear hcz10_4
      try clear hcz11_0
      try clear hcz11_1
      try clear hcz11_2
      try clear hcz11_3
      try clear hcz11_4
      try clear hfz10_0
      try clear hfz10_1
      try clear hfz10_2
      try clear hfz10_3
      try clear hfz10_4
      try clear hfz11_0
      try clear hfz11_1
      try clear hfz11_2
      try clear hfz11_3
      try clear hfz11_4
      obtain ⟨kq, x26_5, rfl, HA, HJ5, BK140, HB⟩ := hcut
      cases kq with
      | zero => exact absurd HA.out (by simp [step_Check.j0])
      | succ kj5 =>
        have H := HA.out
        clear HA
        simp only [step_Check.j0] at H
        by_cases c12 : x26_5 = true
        · subst c12
          have H1 : (some 1) = some r := by rw [if_pos rfl] at H; exact H
          clear H
          have H := H1
          clear H1
          obtain rfl := Option.some.inj H
          go_wp2
          go_ret
          exact ⟨by first | rfl | (simp [errW_none, errW_some] <;> rfl) | (simp [*, errW_none, errW_some] <;> rfl), by repeat (first | (with_reducible first | exact HB.out | apply below_alloc | apply pw_below_drewN | apply below_drew1 | refine below_set ?_ GE140.out) | exact HB.out)⟩
        · replace c12 := Bool.eq_false_iff.mpr c12
          subst c12
          have H1 : (if a2_1 = true then ((api_Stage_49.f kj5 (([(⟨0, 0, 0⟩ : S35)] : List (S35))) a2_2 a2_3 a2_4).bind fun t145 => (if t145 = true then (some 0) else (some 1))) else (if 0 ≤ a2_0 then (if a2_0 < (l1.length : Int) then ((factor_Stages.f kj5 ((rd_T33 l1 a2_0).f0)).bind fun bt147 => (if bt147.2 = 0 then ((api_Stage_49.f kj5 bt147.1 a2_2 a2_3 a2_4).bind fun t151 => (if t151 = true then (some 0) else (some 1))) else (some bt147.2))) else (none)) else (none))) = some r := by rw [if_neg (show ¬ (false = true) by decide)] at H; exact H
          clear H
          have H := H1
          clear H1
          obtain ⟨y142, hy142⟩ : ∃ y_ : List (S35), y_ = (([(⟨0, 0, 0⟩ : S35)] : List (S35))) := ⟨_, rfl⟩
          replace H : (if a2_1 = true then ((api_Stage_49.f kj5 y142 a2_2 a2_3 a2_4).bind fun t145 => (if t145 = true then (some 0) else (some 1))) else (if 0 ≤ a2_0 then (if a2_0 < (l1.length : Int) then ((factor_Stages.f kj5 ((rd_T33 l1 a2_0).f0)).bind fun bt147 => (if bt147.2 = 0 then ((api_Stage_49.f kj5 bt147.1 a2_2 a2_3 a2_4).bind fun t151 => (if t151 = true then (some 0) else (some 1))) else (some bt147.2))) else (none)) else (none))) = some r := by first | (rw [hy142]; with_reducible exact H) | (have H2_ := (Option.bind_some _ _).symm.trans H; rw [hy142]; with_reducible exact H2_) | (have H2_ := (Option.bind_some _ _).symm.trans H; with_reducible exact H2_) | with_reducible exact H | (rw [hy142]; exact H) | exact H
          have Ny142 := Aside0.mk hy142
          clear hy142
          by_cases c13 : a2_1 = true
          · subst c13
            have H1 : ((api_Stage_49.f kj5 y142 a2_2 a2_3 a2_4).bind fun t145 => (if t145 = true then (some 0) else (some 1))) = some r := by rw [if_pos rfl] at H; exact H
            clear H
            have H := H1
            clear H1
            replace H := Option.bind_eq_some_iff.mp H
            obtain ⟨t145, A140, H⟩ := H
            replace H : (if t145 = true then (some 0) else (some 1)) = some r := H
            have A14 := Aside0.mk A140
            clear A140
            by_cases c15 : t145 = true
            · subst c15
              have H1 : (some 0) = some r := by rw [if_pos rfl] at H; exact H
              clear H
              have H := H1
              clear H1
              obtain rfl := Option.some.inj H
              go_wp2_with (first | ((with_reducible refine gate_dst (N := 28) rfl ?_); (try (refine gate_guard (by rfl) ?_; dsimp only)); refine Kd.R_lit k35 _ 35 ?hg (N := 28) ?hd (xs := ([(⟨0, 0, 0⟩ : S35)] : List (S35))) (inner := [.int .i64 0, .int .i64 0, .int .i64 0]) (ok := fun _ => True) (okp := fun _ => True) ?hr ?hp (fun _ hk => hk) trivial (Below.refl _ _) (Nat.le_refl _) (by simp) ?_; (case hd => rfl); (case hg => rfl); (case hr => first | (go_simp; done) | (go_simp; rfl)); (case hp => exact (Reps.c3 (show Kd.M k35 _ _ _ (⟨0, 0, 0⟩ : S35) [.int .i64 0, .int .i64 0, .int .i64 0] from (k35_mkM _ _ _ (⟨0, 0, 0⟩ : S35) )) (Reps.none _ _))); intro v143 w16 ho17 hb hg_ hnew_; clear hg_ hnew_; (first | rw [← Ny142.out] at ho17 | (simp only [Int.reduceToNat] at ho17; rw [← Ny142.out] at ho17)); have n0_ := Aside0.mk (Kd.R_lower ho17 (below_size (by repeat (first | (with_reducible first | exact HB.out | apply below_alloc | apply pw_below_drewN | apply below_drew1 | refine below_set ?_ GE140.out) | exact HB.out)))); have n1_ := Aside0.mk (blk_below (g := gb140) (o := .cells #[.int .i64 a2_0, .bool true, .int .i64 a2_2, .int .i64 a2_3, .int .i64 a2_4] 37 (0, 0)) (by (with_reducible repeat (first | refine blk_drewN ?_ _ | refine blk_drew ?_ | refine blk_alloc ?_ _)); exact BK140.out) hb); have n2_ := Aside0.mk (below_step (by repeat (first | (with_reducible first | exact HB.out | apply below_alloc | apply pw_below_drewN | apply below_drew1 | refine below_set ?_ GE140.out) | exact HB.out)) hb); clear BK140; clear HB; have HO144 := n0_; have BK140 := n1_; have HB := n2_; clear n0_ n1_ n2_; clear hb ho17; have hcz18_0 : w16.cell? ⟨gb140, 0, none⟩ = some (.int .i64 a2_0) := (blk_cell BK140.out 0).trans rfl; have hcz18_1 : w16.cell? ⟨gb140, 1, none⟩ = some (.bool true) := (blk_cell BK140.out 1).trans rfl; have hcz18_2 : w16.cell? ⟨gb140, 2, none⟩ = some (.int .i64 a2_2) := (blk_cell BK140.out 2).trans rfl; have hcz18_3 : w16.cell? ⟨gb140, 3, none⟩ = some (.int .i64 a2_3) := (blk_cell BK140.out 3).trans rfl; have hcz18_4 : w16.cell? ⟨gb140, 4, none⟩ = some (.int .i64 a2_4) := (blk_cell BK140.out 4).trans rfl; have hfz18_0 := blk_frozen BK140.out 0; have hfz18_1 := blk_frozen BK140.out 1; have hfz18_2 := blk_frozen BK140.out 2; have hfz18_3 := blk_frozen BK140.out 3; have hfz18_4 := blk_frozen BK140.out 4; obtain ⟨Ao19, co19, eo19⟩ := Kd.R_slice HO144.out; subst eo19) | ((with_reducible refine gate_callee (f := 49) rfl ?_); refine goesL_ (some 49) rfl rfl Tryd.func49 (by kernel_rfl) rfl #[.slice Ao19 y142.length co19, .agg #[.int .i64 a2_2, .int .i64 a2_3, .int .i64 a2_4]] rfl (by (try simp only [List.map_toArray, List.map_cons, List.map_nil]); first | done | rfl | (simp only [List.length_drop, List.length_take]; rfl)) ?_; (with_reducible refine (api_Stage_49.calls kj5 _ _ y142 a2_2 a2_3 a2_4 true _ ?side1 ?side2 A14.out).mono ?_); (case side1 => repeat (first | exact (Kd.R_reads' HO144.out).2.2 | (with_reducible refine Kd.C_alloc ?_ _) | (with_reducible refine Kd.C_drewN ?_ _) | (with_reducible refine Kd.C_drew ?_))); (case side2 => exact (Kd.R_reads' HO144.out).2.1); rintro e w20 ⟨rfl, hb⟩; refine ⟨_, rfl, ?_⟩; have n0_ := Aside0.mk (Kd.R_below (by (with_reducible repeat (first | apply Kd.R_alloc | apply Kd.R_drewN | apply Kd.R_drew)); exact HO144.out) hb); have n1_ := Aside0.mk (blk_below (g := gb140) (o := .cells #[.int .i64 a2_0, .bool true, .int .i64 a2_2, .int .i64 a2_3, .int .i64 a2_4] 37 (0, 0)) (by (with_reducible repeat (first | refine blk_drewN ?_ _ | refine blk_drew ?_ | refine blk_alloc ?_ _)); exact BK140.out) hb); have n2_ := Aside0.mk (below_step (by repeat (first | (with_reducible first | exact HB.out | apply below_alloc | apply pw_below_drewN | apply below_drew1 | refine below_set ?_ GE140.out) | exact HB.out)) hb); clear HO144; clear BK140; clear HB; have HO144 := n0_; have BK140 := n1_; have HB := n2_; clear n0_ n1_ n2_; (try clear hb); (try clear hb2); (try clear hk); (try clear hi)))
              go_ret
              exact ⟨by first | rfl | (simp [errW_none, errW_some] <;> rfl) | (simp [*, errW_none, errW_some] <;> rfl), by repeat (first | (with_reducible first | exact HB.out | apply below_alloc | apply pw_below_drewN | apply below_drew1 | refine below_set ?_ GE140.out) | exact HB.out)⟩
            · replace c15 := Bool.eq_false_iff.mpr c15
              subst c15
              have H1 : (some 1) = some r := by rw [if_neg (show ¬ (false = true) by decide)] at H; exact H
              clear H
              have H := H1
              clear H1
              obtain rfl := Option.some.inj H
              go_wp2_with (first | ((with_reducible refine gate_dst (N := 28) rfl ?_); (try (refine gate_guard (by rfl) ?_; dsimp only)); refine Kd.R_lit k35 _ 35 ?hg (N := 28) ?hd (xs := ([(⟨0, 0, 0⟩ : S35)] : List (S35))) (inner := [.int .i64 0, .int .i64 0, .int .i64 0]) (ok := fun _ => True) (okp := fun _ => True) ?hr ?hp (fun _ hk => hk) trivial (Below.refl _ _) (Nat.le_refl _) (by simp) ?_; (case hd => rfl); (case hg => rfl); (case hr => first | (go_simp; done) | (go_simp; rfl)); (case hp => exact (Reps.c3 (show Kd.M k35 _ _ _ (⟨0, 0, 0⟩ : S35) [.int .i64 0, .int .i64 0, .int .i64 0] from (k35_mkM _ _ _ (⟨0, 0, 0⟩ : S35) )) (Reps.none _ _))); intro v143 w21 ho22 hb hg_ hnew_; clear hg_ hnew_; (first | rw [← Ny142.out] at ho22 | (simp only [Int.reduceToNat] at ho22; rw [← Ny142.out] at ho22)); have n0_ := Aside0.mk (Kd.R_lower ho22 (below_size (by repeat (first | (with_reducible first | exact HB.out | apply below_alloc | apply pw_below_drewN | apply below_drew1 | refine below_set ?_ GE140.out) | exact HB.out)))); have n1_ := Aside0.mk (blk_below (g := gb140) (o := .cells #[.int .i64 a2_0, .bool true, .int .i64 a2_2, .int .i64 a2_3, .int .i64 a2_4] 37 (0, 0)) (by (with_reducible repeat (first | refine blk_drewN ?_ _ | refine blk_drew ?_ | refine blk_alloc ?_ _)); exact BK140.out) hb); have n2_ := Aside0.mk (below_step (by repeat (first | (with_reducible first | exact HB.out | apply below_alloc | apply pw_below_drewN | apply below_drew1 | refine below_set ?_ GE140.out) | exact HB.out)) hb); clear BK140; clear HB; have HO144 := n0_; have BK140 := n1_; have HB := n2_; clear n0_ n1_ n2_; clear hb ho22; have hcz23_0 : w21.cell? ⟨gb140, 0, none⟩ = some (.int .i64 a2_0) := (blk_cell BK140.out 0).trans rfl; have hcz23_1 : w21.cell? ⟨gb140, 1, none⟩ = some (.bool true) := (blk_cell BK140.out 1).trans rfl; have hcz23_2 : w21.cell? ⟨gb140, 2, none⟩ = some (.int .i64 a2_2) := (blk_cell BK140.out 2).trans rfl; have hcz23_3 : w21.cell? ⟨gb140, 3, none⟩ = some (.int .i64 a2_3) := (blk_cell BK140.out 3).trans rfl; have hcz23_4 : w21.cell? ⟨gb140, 4, none⟩ = some (.int .i64 a2_4) := (blk_cell BK140.out 4).trans rfl; have hfz23_0 := blk_frozen BK140.out 0; have hfz23_1 := blk_frozen BK140.out 1; have hfz23_2 := blk_frozen BK140.out 2; have hfz23_3 := blk_frozen BK140.out 3; have hfz23_4 := blk_frozen BK140.out 4; obtain ⟨Ao24, co24, eo24⟩ := Kd.R_slice HO144.out; subst eo24) | ((with_reducible refine gate_callee (f := 49) rfl ?_); refine goesL_ (some 49) rfl rfl Tryd.func49 (by kernel_rfl) rfl #[.slice Ao24 y142.length co24, .agg #[.int .i64 a2_2, .int .i64 a2_3, .int .i64 a2_4]] rfl (by (try simp only [List.map_toArray, List.map_cons, List.map_nil]); first | done | rfl | (simp only [List.length_drop, List.length_take]; rfl)) ?_; (with_reducible refine (api_Stage_49.calls kj5 _ _ y142 a2_2 a2_3 a2_4 false _ ?side1 ?side2 A14.out).mono ?_); (case side1 => repeat (first | exact (Kd.R_reads' HO144.out).2.2 | (with_reducible refine Kd.C_alloc ?_ _) | (with_reducible refine Kd.C_drewN ?_ _) | (with_reducible refine Kd.C_drew ?_))); (case side2 => exact (Kd.R_reads' HO144.out).2.1); rintro e w25 ⟨rfl, hb⟩; refine ⟨_, rfl, ?_⟩; have n0_ := Aside0.mk (Kd.R_below (by (with_reducible repeat (first | apply Kd.R_alloc | apply Kd.R_drewN | apply Kd.R_drew)); exact HO144.out) hb); have n1_ := Aside0.mk (blk_below (g := gb140) (o := .cells #[.int .i64 a2_0, .bool true, .int .i64 a2_2, .int .i64 a2_3, .int .i64 a2_4] 37 (0, 0)) (by (with_reducible repeat (first | refine blk_drewN ?_ _ | refine blk_drew ?_ | refine blk_alloc ?_ _)); exact BK140.out) hb); have n2_ := Aside0.mk (below_step (by repeat (first | (with_reducible first | exact HB.out | apply below_alloc | apply pw_below_drewN | apply below_drew1 | refine below_set ?_ GE140.out) | exact HB.out)) hb); clear HO144; clear BK140; clear HB; have HO144 := n0_; have BK140 := n1_; have HB := n2_; clear n0_ n1_ n2_; (try clear hb); (try clear hb2); (try clear hk); (try clear hi)))
              go_ret
              exact ⟨by first | rfl | (simp [errW_none, errW_some] <;> rfl) | (simp [*, errW_none, errW_some] <;> rfl), by repeat (first | (with_reducible first | exact HB.out | apply below_alloc | apply pw_below_drewN | apply below_drew1 | refine below_set ?_ GE140.out) | exact HB.out)⟩
          · replace c13 := Bool.eq_false_iff.mpr c13
            subst c13
            have H1 : (if 0 ≤ a2_0 then (if a2_0 < (l1.length : Int) then ((factor_Stages.f kj5 ((rd_T33 l1 a2_0).f0)).bind fun bt147 => (if bt147.2 = 0 then ((api_Stage_49.f kj5 bt147.1 a2_2 a2_3 a2_4).bind fun t151 => (if t151 = true then (some 0) else (some 1))) else (some bt147.2))) else (none)) else (none)) = some r := by rw [if_neg (show ¬ (false = true) by decide)] at H; exact H
            clear H
            have H := H1
            clear H1
            by_cases c26 : 0 ≤ a2_0
            · rw [if_pos c26] at H
              have c26b0 : decide (0 ≤ a2_0) = true := decide_eq_true c26
              clear c26
              by_cases c27 : a2_0 < (l1.length : Int)
              · rw [if_pos c27] at H
                have c27b0 : decide (a2_0 < (l1.length : Int)) = true := decide_eq_true c27
                clear c27
                replace H := Option.bind_eq_some_iff.mp H
                obtain ⟨⟨t147, t148⟩, A280, H⟩ := H
                replace H : (if t148 = 0 then ((api_Stage_49.f kj5 t147 a2_2 a2_3 a2_4).bind fun t151 => (if t151 = true then (some 0) else (some 1))) else (some t148)) = some r := H
                have A28 := Aside0.mk A280
                clear A280
                by_cases c29 : t148 = 0
                · rw [if_pos c29] at H
                  have c29b0 : (t148 == 0) = true := beq_iff_eq.mpr c29
                  have c29b1 : (t148 != 0) = false := bne_eq_false_iff_eq.mpr c29
                  clear c29
                  replace H := Option.bind_eq_some_iff.mp H
                  obtain ⟨t151, A300, H⟩ := H
                  replace H : (if t151 = true then (some 0) else (some 1)) = some r := H
                  have A30 := Aside0.mk A300
                  clear A300
                  by_cases c31 : t151 = true
                  · subst c31
                    have H1 : (some 0) = some r := by rw [if_pos rfl] at H; exact H
                    clear H
                    have H := H1
                    clear H1
                    obtain rfl := Option.some.inj H
                    go_wp2_with (first | ((with_reducible refine gate_dst (N := 28) rfl ?_); (try (refine gate_guard (by rfl) ?_; dsimp only)); refine Kd.R_lit k35 _ 35 ?hg (N := 28) ?hd (xs := ([(⟨0, 0, 0⟩ : S35)] : List (S35))) (inner := [.int .i64 0, .int .i64 0, .int .i64 0]) (ok := fun _ => True) (okp := fun _ => True) ?hr ?hp (fun _ hk => hk) trivial (Below.refl _ _) (Nat.le_refl _) (by simp) ?_; (case hd => rfl); (case hg => rfl); (case hr => first | (go_simp; done) | (go_simp; rfl)); (case hp => exact (Reps.c3 (show Kd.M k35 _ _ _ (⟨0, 0, 0⟩ : S35) [.int .i64 0, .int .i64 0, .int .i64 0] from (k35_mkM _ _ _ (⟨0, 0, 0⟩ : S35) )) (Reps.none _ _))); intro v143 w32 ho33 hb hg_ hnew_; clear hg_ hnew_; (first | rw [← Ny142.out] at ho33 | (simp only [Int.reduceToNat] at ho33; rw [← Ny142.out] at ho33)); have n0_ := Aside0.mk (Kd.R_lower ho33 (below_size (by repeat (first | (with_reducible first | exact HB.out | apply below_alloc | apply pw_below_drewN | apply below_drew1 | refine below_set ?_ GE140.out) | exact HB.out)))); have n1_ := Aside0.mk (blk_below (g := gb140) (o := .cells #[.int .i64 a2_0, .bool false, .int .i64 a2_2, .int .i64 a2_3, .int .i64 a2_4] 37 (0, 0)) (by (with_reducible repeat (first | refine blk_drewN ?_ _ | refine blk_drew ?_ | refine blk_alloc ?_ _)); exact BK140.out) hb); have n2_ := Aside0.mk (below_step (by repeat (first | (with_reducible first | exact HB.out | apply below_alloc | apply pw_below_drewN | apply below_drew1 | refine below_set ?_ GE140.out) | exact HB.out)) hb); clear BK140; clear HB; have HO144 := n0_; have BK140 := n1_; have HB := n2_; clear n0_ n1_ n2_; clear hb ho33; have hcz34_0 : w32.cell? ⟨gb140, 0, none⟩ = some (.int .i64 a2_0) := (blk_cell BK140.out 0).trans rfl; have hcz34_1 : w32.cell? ⟨gb140, 1, none⟩ = some (.bool false) := (blk_cell BK140.out 1).trans rfl; have hcz34_2 : w32.cell? ⟨gb140, 2, none⟩ = some (.int .i64 a2_2) := (blk_cell BK140.out 2).trans rfl; have hcz34_3 : w32.cell? ⟨gb140, 3, none⟩ = some (.int .i64 a2_3) := (blk_cell BK140.out 3).trans rfl; have hcz34_4 : w32.cell? ⟨gb140, 4, none⟩ = some (.int .i64 a2_4) := (blk_cell BK140.out 4).trans rfl; have hfz34_0 := blk_frozen BK140.out 0; have hfz34_1 := blk_frozen BK140.out 1; have hfz34_2 := blk_frozen BK140.out 2; have hfz34_3 := blk_frozen BK140.out 3; have hfz34_4 := blk_frozen BK140.out 4; have p146 : 0 ≤ (a2_0 : Int) := of_decide_eq_true (by first | (with_reducible assumption) | assumption); have q146 : a2_0 < (l1.length : Int) := of_decide_eq_true (by first | (with_reducible assumption) | assumption); obtain ⟨ad146, e146, hx146_0, hx146_1⟩ := at_T33 HR1.out a2_0 p146 q146; cases e146; replace hx146_0 := (HB.out.cell (World.block_lt_of_cell? w _ hx146_0)).trans hx146_0; replace hx146_1 := (HB.out.cell (World.block_lt_of_cell? w _ hx146_1)).trans hx146_1; replace p146 := eq_true p146; replace q146 := eq_true q146) | ((with_reducible refine gate_callee (f := 29) rfl ?_); refine goesL_ (some 39) rfl rfl Tryd.func29 (by kernel_rfl) rfl #[.int .i64 ((rd_T33 l1 a2_0).f0)] rfl (by (try simp only [List.map_toArray, List.map_cons, List.map_nil]); first | done | rfl | (simp only [List.length_drop, List.length_take]; rfl)) ?_; (with_reducible refine (factor_Stages.calls (hG := ?sideG) kj5 ((rd_T33 l1 a2_0).f0) t147 t148 _ A28.out).mono ?_); (case sideG => exact tab_below HG.out (by repeat (first | (with_reducible first | exact HB.out | apply below_alloc | apply pw_below_drewN | apply below_drew1 | refine below_set ?_ GE140.out) | exact HB.out))); rintro e w35 ⟨v149, rfl, ho0, hb⟩; refine ⟨_, rfl, ?_⟩; have n0_ := Aside0.mk (Kd.R_elder' (by (with_reducible repeat (first | apply Kd.R_alloc | apply Kd.R_drewN | apply Kd.R_drew)); exact HO144.out) (Kd.R_base ho0) hb); have n1_ := Aside0.mk (Kd.R_lower (Kd.R_new' ho0 (Kd.R_lt (by (with_reducible repeat (first | apply Kd.R_alloc | apply Kd.R_drewN | apply Kd.R_drew)); exact HO144.out))) (below_size (by repeat (first | (with_reducible first | exact HB.out | apply below_alloc | apply pw_below_drewN | apply below_drew1 | refine below_set ?_ GE140.out) | exact HB.out)))); have n2_ := Aside0.mk (blk_below (g := gb140) (o := .cells #[.int .i64 a2_0, .bool false, .int .i64 a2_2, .int .i64 a2_3, .int .i64 a2_4] 37 (0, 0)) (by (with_reducible repeat (first | refine blk_drewN ?_ _ | refine blk_drew ?_ | refine blk_alloc ?_ _)); exact BK140.out) hb); have n3_ := Aside0.mk (below_step (by repeat (first | (with_reducible first | exact HB.out | apply below_alloc | apply pw_below_drewN | apply below_drew1 | refine below_set ?_ GE140.out) | exact HB.out)) hb); clear HO144; clear BK140; clear HB; have HO144 := n0_; have HO150 := n1_; have BK140 := n2_; have HB := n3_; clear n0_ n1_ n2_ n3_; (try clear hb); (try clear hb2); (try clear hk); (try clear hi); (try clear ho0); have hcz36_0 : w35.cell? ⟨gb140, 0, none⟩ = some (.int .i64 a2_0) := (blk_cell BK140.out 0).trans rfl; have hcz36_1 : w35.cell? ⟨gb140, 1, none⟩ = some (.bool false) := (blk_cell BK140.out 1).trans rfl; have hcz36_2 : w35.cell? ⟨gb140, 2, none⟩ = some (.int .i64 a2_2) := (blk_cell BK140.out 2).trans rfl; have hcz36_3 : w35.cell? ⟨gb140, 3, none⟩ = some (.int .i64 a2_3) := (blk_cell BK140.out 3).trans rfl; have hcz36_4 : w35.cell? ⟨gb140, 4, none⟩ = some (.int .i64 a2_4) := (blk_cell BK140.out 4).trans rfl; have hfz36_0 := blk_frozen BK140.out 0; have hfz36_1 := blk_frozen BK140.out 1; have hfz36_2 := blk_frozen BK140.out 2; have hfz36_3 := blk_frozen BK140.out 3; have hfz36_4 := blk_frozen BK140.out 4; obtain ⟨Ao37, co37, eo37⟩ := Kd.R_slice HO150.out; subst eo37) | ((with_reducible refine gate_callee (f := 49) rfl ?_); refine goesL_ (some 49) rfl rfl Tryd.func49 (by kernel_rfl) rfl #[.slice Ao37 t147.length co37, .agg #[.int .i64 a2_2, .int .i64 a2_3, .int .i64 a2_4]] rfl (by (try simp only [List.map_toArray, List.map_cons, List.map_nil]); first | done | rfl | (simp only [List.length_drop, List.length_take]; rfl)) ?_; (with_reducible refine (api_Stage_49.calls kj5 _ _ t147 a2_2 a2_3 a2_4 true _ ?side1 ?side2 A30.out).mono ?_); (case side1 => repeat (first | exact (Kd.R_reads' HO150.out).2.2 | (with_reducible refine Kd.C_alloc ?_ _) | (with_reducible refine Kd.C_drewN ?_ _) | (with_reducible refine Kd.C_drew ?_))); (case side2 => exact (Kd.R_reads' HO150.out).2.1); rintro e w38 ⟨rfl, hb⟩; refine ⟨_, rfl, ?_⟩; have n0_ := Aside0.mk (Kd.R_below (by (with_reducible repeat (first | apply Kd.R_alloc | apply Kd.R_drewN | apply Kd.R_drew)); exact HO144.out) hb); have n1_ := Aside0.mk (Kd.R_below (by (with_reducible repeat (first | apply Kd.R_alloc | apply Kd.R_drewN | apply Kd.R_drew)); exact HO150.out) hb); have n2_ := Aside0.mk (blk_below (g := gb140) (o := .cells #[.int .i64 a2_0, .bool false, .int .i64 a2_2, .int .i64 a2_3, .int .i64 a2_4] 37 (0, 0)) (by (with_reducible repeat (first | refine blk_drewN ?_ _ | refine blk_drew ?_ | refine blk_alloc ?_ _)); exact BK140.out) hb); have n3_ := Aside0.mk (below_step (by repeat (first | (with_reducible first | exact HB.out | apply below_alloc | apply pw_below_drewN | apply below_drew1 | refine below_set ?_ GE140.out) | exact HB.out)) hb); clear HO144; clear HO150; clear BK140; clear HB; have HO144 := n0_; have HO150 := n1_; have BK140 := n2_; have HB := n3_; clear n0_ n1_ n2_ n3_; (try clear hb); (try clear hb2); (try clear hk); (try clear hi)))
                    go_ret
                    exact ⟨by first | rfl | (simp [errW_none, errW_some] <;> rfl) | (simp [*, errW_none, errW_some] <;> rfl), by repeat (first | (with_reducible first | exact HB.out | apply below_alloc | apply pw_below_drewN | apply below_drew1 | refine below_set ?_ GE140.out) | exact HB.out)⟩
                  · replace c31 := Bool.eq_false_iff.mpr c31
                    subst c31
                    have H1 : (some 1) = some r := by rw [if_neg (show ¬ (false = true) by decide)] at H; exact H
                    clear H
                    have H := H1
                    clear H1
                    obtain rfl := Option.some.inj H
                    go_wp2_with (first | ((with_reducible refine gate_dst (N := 28) rfl ?_); (try (refine gate_guard (by rfl) ?_; dsimp only)); refine Kd.R_lit k35 _ 35 ?hg (N := 28) ?hd (xs := ([(⟨0, 0, 0⟩ : S35)] : List (S35))) (inner := [.int .i64 0, .int .i64 0, .int .i64 0]) (ok := fun _ => True) (okp := fun _ => True) ?hr ?hp (fun _ hk => hk) trivial (Below.refl _ _) (Nat.le_refl _) (by simp) ?_; (case hd => rfl); (case hg => rfl); (case hr => first | (go_simp; done) | (go_simp; rfl)); (case hp => exact (Reps.c3 (show Kd.M k35 _ _ _ (⟨0, 0, 0⟩ : S35) [.int .i64 0, .int .i64 0, .int .i64 0] from (k35_mkM _ _ _ (⟨0, 0, 0⟩ : S35) )) (Reps.none _ _))); intro v143 w39 ho40 hb hg_ hnew_; clear hg_ hnew_; (first | rw [← Ny142.out] at ho40 | (simp only [Int.reduceToNat] at ho40; rw [← Ny142.out] at ho40)); have n0_ := Aside0.mk (Kd.R_lower ho40 (below_size (by repeat (first | (with_reducible first | exact HB.out | apply below_alloc | apply pw_below_drewN | apply below_drew1 | refine below_set ?_ GE140.out) | exact HB.out)))); have n1_ := Aside0.mk (blk_below (g := gb140) (o := .cells #[.int .i64 a2_0, .bool false, .int .i64 a2_2, .int .i64 a2_3, .int .i64 a2_4] 37 (0, 0)) (by (with_reducible repeat (first | refine blk_drewN ?_ _ | refine blk_drew ?_ | refine blk_alloc ?_ _)); exact BK140.out) hb); have n2_ := Aside0.mk (below_step (by repeat (first | (with_reducible first | exact HB.out | apply below_alloc | apply pw_below_drewN | apply below_drew1 | refine below_set ?_ GE140.out) | exact HB.out)) hb); clear BK140; clear HB; have HO144 := n0_; have BK140 := n1_; have HB := n2_; clear n0_ n1_ n2_; clear hb ho40; have hcz41_0 : w39.cell? ⟨gb140, 0, none⟩ = some (.int .i64 a2_0) := (blk_cell BK140.out 0).trans rfl; have hcz41_1 : w39.cell? ⟨gb140, 1, none⟩ = some (.bool false) := (blk_cell BK140.out 1).trans rfl; have hcz41_2 : w39.cell? ⟨gb140, 2, none⟩ = some (.int .i64 a2_2) := (blk_cell BK140.out 2).trans rfl; have hcz41_3 : w39.cell? ⟨gb140, 3, none⟩ = some (.int .i64 a2_3) := (blk_cell BK140.out 3).trans rfl; have hcz41_4 : w39.cell? ⟨gb140, 4, none⟩ = some (.int .i64 a2_4) := (blk_cell BK140.out 4).trans rfl; have hfz41_0 := blk_frozen BK140.out 0; have hfz41_1 := blk_frozen BK140.out 1; have hfz41_2 := blk_frozen BK140.out 2; have hfz41_3 := blk_frozen BK140.out 3; have hfz41_4 := blk_frozen BK140.out 4; have p146 : 0 ≤ (a2_0 : Int) := of_decide_eq_true (by first | (with_reducible assumption) | assumption); have q146 : a2_0 < (l1.length : Int) := of_decide_eq_true (by first | (with_reducible assumption) | assumption); obtain ⟨ad146, e146, hx146_0, hx146_1⟩ := at_T33 HR1.out a2_0 p146 q146; cases e146; replace hx146_0 := (HB.out.cell (World.block_lt_of_cell? w _ hx146_0)).trans hx146_0; replace hx146_1 := (HB.out.cell (World.block_lt_of_cell? w _ hx146_1)).trans hx146_1; replace p146 := eq_true p146; replace q146 := eq_true q146) | ((with_reducible refine gate_callee (f := 29) rfl ?_); refine goesL_ (some 39) rfl rfl Tryd.func29 (by kernel_rfl) rfl #[.int .i64 ((rd_T33 l1 a2_0).f0)] rfl (by (try simp only [List.map_toArray, List.map_cons, List.map_nil]); first | done | rfl | (simp only [List.length_drop, List.length_take]; rfl)) ?_; (with_reducible refine (factor_Stages.calls (hG := ?sideG) kj5 ((rd_T33 l1 a2_0).f0) t147 t148 _ A28.out).mono ?_); (case sideG => exact tab_below HG.out (by repeat (first | (with_reducible first | exact HB.out | apply below_alloc | apply pw_below_drewN | apply below_drew1 | refine below_set ?_ GE140.out) | exact HB.out))); rintro e w42 ⟨v149, rfl, ho0, hb⟩; refine ⟨_, rfl, ?_⟩; have n0_ := Aside0.mk (Kd.R_elder' (by (with_reducible repeat (first | apply Kd.R_alloc | apply Kd.R_drewN | apply Kd.R_drew)); exact HO144.out) (Kd.R_base ho0) hb); have n1_ := Aside0.mk (Kd.R_lower (Kd.R_new' ho0 (Kd.R_lt (by (with_reducible repeat (first | apply Kd.R_alloc | apply Kd.R_drewN | apply Kd.R_drew)); exact HO144.out))) (below_size (by repeat (first | (with_reducible first | exact HB.out | apply below_alloc | apply pw_below_drewN | apply below_drew1 | refine below_set ?_ GE140.out) | exact HB.out)))); have n2_ := Aside0.mk (blk_below (g := gb140) (o := .cells #[.int .i64 a2_0, .bool false, .int .i64 a2_2, .int .i64 a2_3, .int .i64 a2_4] 37 (0, 0)) (by (with_reducible repeat (first | refine blk_drewN ?_ _ | refine blk_drew ?_ | refine blk_alloc ?_ _)); exact BK140.out) hb); have n3_ := Aside0.mk (below_step (by repeat (first | (with_reducible first | exact HB.out | apply below_alloc | apply pw_below_drewN | apply below_drew1 | refine below_set ?_ GE140.out) | exact HB.out)) hb); clear HO144; clear BK140; clear HB; have HO144 := n0_; have HO150 := n1_; have BK140 := n2_; have HB := n3_; clear n0_ n1_ n2_ n3_; (try clear hb); (try clear hb2); (try clear hk); (try clear hi); (try clear ho0); have hcz43_0 : w42.cell? ⟨gb140, 0, none⟩ = some (.int .i64 a2_0) := (blk_cell BK140.out 0).trans rfl; have hcz43_1 : w42.cell? ⟨gb140, 1, none⟩ = some (.bool false) := (blk_cell BK140.out 1).trans rfl; have hcz43_2 : w42.cell? ⟨gb140, 2, none⟩ = some (.int .i64 a2_2) := (blk_cell BK140.out 2).trans rfl; have hcz43_3 : w42.cell? ⟨gb140, 3, none⟩ = some (.int .i64 a2_3) := (blk_cell BK140.out 3).trans rfl; have hcz43_4 : w42.cell? ⟨gb140, 4, none⟩ = some (.int .i64 a2_4) := (blk_cell BK140.out 4).trans rfl; have hfz43_0 := blk_frozen BK140.out 0; have hfz43_1 := blk_frozen BK140.out 1; have hfz43_2 := blk_frozen BK140.out 2; have hfz43_3 := blk_frozen BK140.out 3; have hfz43_4 := blk_frozen BK140.out 4; obtain ⟨Ao44, co44, eo44⟩ := Kd.R_slice HO150.out; subst eo44) | ((with_reducible refine gate_callee (f := 49) rfl ?_); refine goesL_ (some 49) rfl rfl Tryd.func49 (by kernel_rfl) rfl #[.slice Ao44 t147.length co44, .agg #[.int .i64 a2_2, .int .i64 a2_3, .int .i64 a2_4]] rfl (by (try simp only [List.map_toArray, List.map_cons, List.map_nil]); first | done | rfl | (simp only [List.length_drop, List.length_take]; rfl)) ?_; (with_reducible refine (api_Stage_49.calls kj5 _ _ t147 a2_2 a2_3 a2_4 false _ ?side1 ?side2 A30.out).mono ?_); (case side1 => repeat (first | exact (Kd.R_reads' HO150.out).2.2 | (with_reducible refine Kd.C_alloc ?_ _) | (with_reducible refine Kd.C_drewN ?_ _) | (with_reducible refine Kd.C_drew ?_))); (case side2 => exact (Kd.R_reads' HO150.out).2.1); rintro e w45 ⟨rfl, hb⟩; refine ⟨_, rfl, ?_⟩; have n0_ := Aside0.mk (Kd.R_below (by (with_reducible repeat (first | apply Kd.R_alloc | apply Kd.R_drewN | apply Kd.R_drew)); exact HO144.out) hb); have n1_ := Aside0.mk (Kd.R_below (by (with_reducible repeat (first | apply Kd.R_alloc | apply Kd.R_drewN | apply Kd.R_drew)); exact HO150.out) hb); have n2_ := Aside0.mk (blk_below (g := gb140) (o := .cells #[.int .i64 a2_0, .bool false, .int .i64 a2_2, .int .i64 a2_3, .int .i64 a2_4] 37 (0, 0)) (by (with_reducible repeat (first | refine blk_drewN ?_ _ | refine blk_drew ?_ | refine blk_alloc ?_ _)); exact BK140.out) hb); have n3_ := Aside0.mk (below_step (by repeat (first | (with_reducible first | exact HB.out | apply below_alloc | apply pw_below_drewN | apply below_drew1 | refine below_set ?_ GE140.out) | exact HB.out)) hb); clear HO144; clear HO150; clear BK140; clear HB; have HO144 := n0_; have HO150 := n1_; have BK140 := n2_; have HB := n3_; clear n0_ n1_ n2_ n3_; (try clear hb); (try clear hb2); (try clear hk); (try clear hi)))
                    go_ret
                    exact ⟨by first | rfl | (simp [errW_none, errW_some] <;> rfl) | (simp [*, errW_none, errW_some] <;> rfl), by repeat (first | (with_reducible first | exact HB.out | apply below_alloc | apply pw_below_drewN | apply below_drew1 | refine below_set ?_ GE140.out) | exact HB.out)⟩
                · rw [if_neg c29] at H
                  have c29b0 : (t148 == 0) = false := beq_eq_false_iff_ne.mpr c29
                  have c29b1 : (t148 != 0) = true := bne_iff_ne.mpr c29
                  obtain rfl := Option.some.inj H
                  go_wp2_with (first | ((with_reducible refine gate_dst (N := 28) rfl ?_); (try (refine gate_guard (by rfl) ?_; dsimp only)); refine Kd.R_lit k35 _ 35 ?hg (N := 28) ?hd (xs := ([(⟨0, 0, 0⟩ : S35)] : List (S35))) (inner := [.int .i64 0, .int .i64 0, .int .i64 0]) (ok := fun _ => True) (okp := fun _ => True) ?hr ?hp (fun _ hk => hk) trivial (Below.refl _ _) (Nat.le_refl _) (by simp) ?_; (case hd => rfl); (case hg => rfl); (case hr => first | (go_simp; done) | (go_simp; rfl)); (case hp => exact (Reps.c3 (show Kd.M k35 _ _ _ (⟨0, 0, 0⟩ : S35) [.int .i64 0, .int .i64 0, .int .i64 0] from (k35_mkM _ _ _ (⟨0, 0, 0⟩ : S35) )) (Reps.none _ _))); intro v143 w46 ho47 hb hg_ hnew_; clear hg_ hnew_; (first | rw [← Ny142.out] at ho47 | (simp only [Int.reduceToNat] at ho47; rw [← Ny142.out] at ho47)); have n0_ := Aside0.mk (Kd.R_lower ho47 (below_size (by repeat (first | (with_reducible first | exact HB.out | apply below_alloc | apply pw_below_drewN | apply below_drew1 | refine below_set ?_ GE140.out) | exact HB.out)))); have n1_ := Aside0.mk (blk_below (g := gb140) (o := .cells #[.int .i64 a2_0, .bool false, .int .i64 a2_2, .int .i64 a2_3, .int .i64 a2_4] 37 (0, 0)) (by (with_reducible repeat (first | refine blk_drewN ?_ _ | refine blk_drew ?_ | refine blk_alloc ?_ _)); exact BK140.out) hb); have n2_ := Aside0.mk (below_step (by repeat (first | (with_reducible first | exact HB.out | apply below_alloc | apply pw_below_drewN | apply below_drew1 | refine below_set ?_ GE140.out) | exact HB.out)) hb); clear BK140; clear HB; have HO144 := n0_; have BK140 := n1_; have HB := n2_; clear n0_ n1_ n2_; clear hb ho47; have hcz48_0 : w46.cell? ⟨gb140, 0, none⟩ = some (.int .i64 a2_0) := (blk_cell BK140.out 0).trans rfl; have hcz48_1 : w46.cell? ⟨gb140, 1, none⟩ = some (.bool false) := (blk_cell BK140.out 1).trans rfl; have hcz48_2 : w46.cell? ⟨gb140, 2, none⟩ = some (.int .i64 a2_2) := (blk_cell BK140.out 2).trans rfl; have hcz48_3 : w46.cell? ⟨gb140, 3, none⟩ = some (.int .i64 a2_3) := (blk_cell BK140.out 3).trans rfl; have hcz48_4 : w46.cell? ⟨gb140, 4, none⟩ = some (.int .i64 a2_4) := (blk_cell BK140.out 4).trans rfl; have hfz48_0 := blk_frozen BK140.out 0; have hfz48_1 := blk_frozen BK140.out 1; have hfz48_2 := blk_frozen BK140.out 2; have hfz48_3 := blk_frozen BK140.out 3; have hfz48_4 := blk_frozen BK140.out 4; have p146 : 0 ≤ (a2_0 : Int) := of_decide_eq_true (by first | (with_reducible assumption) | assumption); have q146 : a2_0 < (l1.length : Int) := of_decide_eq_true (by first | (with_reducible assumption) | assumption); obtain ⟨ad146, e146, hx146_0, hx146_1⟩ := at_T33 HR1.out a2_0 p146 q146; cases e146; replace hx146_0 := (HB.out.cell (World.block_lt_of_cell? w _ hx146_0)).trans hx146_0; replace hx146_1 := (HB.out.cell (World.block_lt_of_cell? w _ hx146_1)).trans hx146_1; replace p146 := eq_true p146; replace q146 := eq_true q146) | ((with_reducible refine gate_callee (f := 29) rfl ?_); refine goesL_ (some 39) rfl rfl Tryd.func29 (by kernel_rfl) rfl #[.int .i64 ((rd_T33 l1 a2_0).f0)] rfl (by (try simp only [List.map_toArray, List.map_cons, List.map_nil]); first | done | rfl | (simp only [List.length_drop, List.length_take]; rfl)) ?_; (with_reducible refine (factor_Stages.calls (hG := ?sideG) kj5 ((rd_T33 l1 a2_0).f0) t147 t148 _ A28.out).mono ?_); (case sideG => exact tab_below HG.out (by repeat (first | (with_reducible first | exact HB.out | apply below_alloc | apply pw_below_drewN | apply below_drew1 | refine below_set ?_ GE140.out) | exact HB.out))); rintro e w49 ⟨v149, rfl, ho0, hb⟩; refine ⟨_, rfl, ?_⟩; have n0_ := Aside0.mk (Kd.R_elder' (by (with_reducible repeat (first | apply Kd.R_alloc | apply Kd.R_drewN | apply Kd.R_drew)); exact HO144.out) (Kd.R_base ho0) hb); have n1_ := Aside0.mk (Kd.R_lower (Kd.R_new' ho0 (Kd.R_lt (by (with_reducible repeat (first | apply Kd.R_alloc | apply Kd.R_drewN | apply Kd.R_drew)); exact HO144.out))) (below_size (by repeat (first | (with_reducible first | exact HB.out | apply below_alloc | apply pw_below_drewN | apply below_drew1 | refine below_set ?_ GE140.out) | exact HB.out)))); have n2_ := Aside0.mk (blk_below (g := gb140) (o := .cells #[.int .i64 a2_0, .bool false, .int .i64 a2_2, .int .i64 a2_3, .int .i64 a2_4] 37 (0, 0)) (by (with_reducible repeat (first | refine blk_drewN ?_ _ | refine blk_drew ?_ | refine blk_alloc ?_ _)); exact BK140.out) hb); have n3_ := Aside0.mk (below_step (by repeat (first | (with_reducible first | exact HB.out | apply below_alloc | apply pw_below_drewN | apply below_drew1 | refine below_set ?_ GE140.out) | exact HB.out)) hb); clear HO144; clear BK140; clear HB; have HO144 := n0_; have HO150 := n1_; have BK140 := n2_; have HB := n3_; clear n0_ n1_ n2_ n3_; (try clear hb); (try clear hb2); (try clear hk); (try clear hi); (try clear ho0)))
                  go_ret
                  exact ⟨by first | rfl | (simp [errW_none, errW_some] <;> rfl) | (simp [*, errW_none, errW_some] <;> rfl), by repeat (first | (with_reducible first | exact HB.out | apply below_alloc | apply pw_below_drewN | apply below_drew1 | refine below_set ?_ GE140.out) | exact HB.out)⟩
              · rw [if_neg c27] at H
                exact absurd H (by simp)
            · rw [if_neg c26] at H
              exact absurd H (by simp)
  · rw [if_neg c5] at H
    have c5b0 : (t141 == 0) = false := beq_eq_false_iff_ne.mpr c5
    have c5b1 : (t141 != 0) = true := bne_iff_ne.mpr c5
    obtain rfl := Option.some.inj H
    go_enter Tryd.func30, Tryd.ntmps30
    go_wp2_with (first | ((with_reducible refine gate_dst (N := 5) rfl ?_); (try (refine gate_guard (by rfl) ?_; dsimp only)); refine box_event ?hg (N := 5) ?hd (cs := #[.int .i64 a2_0, .bool a2_1, .int .i64 a2_2, .int .i64 a2_3, .int .i64 a2_4]) (t := 37) ?hr ?_; (case hd => rfl); (case hg => rfl); (case hr => first | (go_simp; done) | (go_simp; rfl)); intro gb140 hg w50 hbox hb; have n0_ := Aside0.mk (below_step (by repeat (first | (with_reducible first | exact HB.out | apply below_alloc | apply pw_below_drewN | apply below_drew1) | exact HB.out)) hb); have n1_ := Aside0.mk (hbox); have n2_ := Aside0.mk ((by rw [hg]; exact (below_size (by repeat (first | (with_reducible first | exact HB.out | apply below_alloc | apply pw_below_drewN | apply below_drew1) | exact HB.out))) : w.heap.size ≤ gb140)); have n3_ := Aside0.mk ((by rw [hg]; exact (below_size (by repeat (first | (with_reducible first | exact HB.out | apply below_alloc | apply pw_below_drewN | apply below_drew1) | exact HB.out))) : w.heap.size ≤ gb140)); clear HB; have HB := n0_; have BK140 := n1_; have GW140 := n2_; have GE140 := n3_; clear n0_ n1_ n2_ n3_; clear hb hbox hg) | ((with_reducible refine gate_callee (f := 28) rfl ?_); refine goesL_ (some 13) rfl rfl Tryd.func28 (by kernel_rfl) rfl #[.int .u64 a0, .slice A1 l1.length c1] rfl (by (try simp only [List.map_toArray, List.map_cons, List.map_nil]); first | done | rfl | (simp only [List.length_drop, List.length_take]; rfl)) ?_; (with_reducible refine (grid_Check.calls (hG := ?sideG) k a0 _ _ l1 t141 _ ?side1 ?side2 A4.out).mono ?_); (case sideG => exact tab_below HG.out (by repeat (first | (with_reducible first | exact HB.out | apply below_alloc | apply pw_below_drewN | apply below_drew1 | refine below_set ?_ GE140.out) | exact HB.out))); (case side1 => repeat (first | exact (Kd.C_below HR1.out HB.out) | (with_reducible refine Kd.C_alloc ?_ _) | (with_reducible refine Kd.C_drewN ?_ _) | (with_reducible refine Kd.C_drew ?_))); (case side2 => exact HC1.out); rintro e w51 ⟨rfl, hb⟩; refine ⟨_, rfl, ?_⟩; have n0_ := Aside0.mk (blk_below (g := gb140) (o := .cells #[.int .i64 a2_0, .bool a2_1, .int .i64 a2_2, .int .i64 a2_3, .int .i64 a2_4] 37 (0, 0)) (by (with_reducible repeat (first | refine blk_drewN ?_ _ | refine blk_drew ?_ | refine blk_alloc ?_ _)); exact BK140.out) hb); have n1_ := Aside0.mk (below_step (by repeat (first | (with_reducible first | exact HB.out | apply below_alloc | apply pw_below_drewN | apply below_drew1 | refine below_set ?_ GE140.out) | exact HB.out)) hb); clear BK140; clear HB; have BK140 := n0_; have HB := n1_; clear n0_ n1_; (try clear hb); (try clear hb2); (try clear hk); (try clear hi)))
    go_ret
    exact ⟨by first | rfl | (simp [errW_none, errW_some] <;> rfl) | (simp [*, errW_none, errW_some] <;> rfl), by repeat (first | (with_reducible first | exact HB.out | apply below_alloc | apply pw_below_drewN | apply below_drew1 | refine below_set ?_ GE140.out) | exact HB.out)⟩

/-! ### power_Inv: function 34 -/
def power_Inv.f (k : Nat) (a0 : Int) (a1 : Int) : Option (Int × Int) := (field_Known.f a0).bind fun t152 => (if t152 = true then ((field_Reduce.f a0 a1).bind fun t153 => (if t153 = 0 then (some (0, 9)) else ((power_Pow.f k a0 a1 (IntKind.u64.wrap (a0 - 2))).bind fun t154 => (some (t154, 0))))) else (some (0, 2)))
theorem power_Inv.mono : ∀ a0 a1 k, LeO (power_Inv.f k a0 a1) (power_Inv.f (k + 1) a0 a1) := by
  intro a0 a1 k
  unfold power_Inv.f
  repeat' first
      | (with_reducible exact power_Pow.mono _ _ _ _)
      | (with_reducible exact LeO.refl _)
      | (with_reducible exact LeO.none _)
      | (with_reducible refine LeO.ite ?_ ?_)
      | (with_reducible refine LeO.bind ?_ (fun _ => ?_))
      | exact power_Pow.mono _ _ _ _
      | exact LeO.none _
      | refine LeO.ite ?_ ?_
      | refine LeO.bind ?_ (fun _ => ?_)
set_option maxHeartbeats 8000000 in
set_option maxRecDepth 100000 in
theorem power_Inv.calls (k : Nat) (a0 : Int) (a1 : Int) (r1 : Int) (r2 : Int) (w : World) (h : power_Inv.f k a0 a1 = some (r1, r2)) :
    Calls Tryd.prog 34 #[.int .u64 a0, .int .u64 a1] w fun e w' => e = .returned (.tuple #[.int .u64 r1, .int .i64 r2]) ∧ Drawn0 w w' := by
  have H : ((field_Known.f a0).bind fun t152 => (if t152 = true then ((field_Reduce.f a0 a1).bind fun t153 => (if t153 = 0 then (some (0, 9)) else ((power_Pow.f k a0 a1 (IntKind.u64.wrap (a0 - 2))).bind fun t154 => (some (t154, 0))))) else (some (0, 2)))) = some (r1, r2) := h
  clear h
  replace H := Option.bind_eq_some_iff.mp H
  obtain ⟨t152, A30, H⟩ := H
  replace H : (if t152 = true then ((field_Reduce.f a0 a1).bind fun t153 => (if t153 = 0 then (some (0, 9)) else ((power_Pow.f k a0 a1 (IntKind.u64.wrap (a0 - 2))).bind fun t154 => (some (t154, 0))))) else (some (0, 2))) = some (r1, r2) := H
  have A3 := Aside0.mk A30
  clear A30
  by_cases c4 : t152 = true
  · subst c4
    have H1 : ((field_Reduce.f a0 a1).bind fun t153 => (if t153 = 0 then (some (0, 9)) else ((power_Pow.f k a0 a1 (IntKind.u64.wrap (a0 - 2))).bind fun t154 => (some (t154, 0))))) = some (r1, r2) := by rw [if_pos rfl] at H; exact H
    clear H
    have H := H1
    clear H1
    replace H := Option.bind_eq_some_iff.mp H
    obtain ⟨t153, A50, H⟩ := H
    replace H : (if t153 = 0 then (some (0, 9)) else ((power_Pow.f k a0 a1 (IntKind.u64.wrap (a0 - 2))).bind fun t154 => (some (t154, 0)))) = some (r1, r2) := H
    have A5 := Aside0.mk A50
    clear A50
    by_cases c6 : t153 = 0
    · rw [if_pos c6] at H
      have c6b0 : (t153 == 0) = true := beq_iff_eq.mpr c6
      have c6b1 : (t153 != 0) = false := bne_eq_false_iff_eq.mpr c6
      clear c6
      simp only [Option.some.injEq, Prod.mk.injEq] at H
      obtain ⟨rfl, rfl⟩ := H
      go_enter Tryd.func34, Tryd.ntmps34
      go_wp2_with (first | ((with_reducible refine gate_callee (f := 45) rfl ?_); refine goesL_ (some 8) rfl rfl Tryd.func45 (by kernel_rfl) rfl #[.int .u64 a0] rfl (by (try simp only [List.map_toArray, List.map_cons, List.map_nil]); first | done | rfl | (simp only [List.length_drop, List.length_take]; rfl)) ?_; (with_reducible refine (field_Known.calls a0 true _ A3.out).mono ?_); rintro e w' ⟨rfl, ⟨nd, rfl⟩⟩; refine ⟨_, rfl, ?_⟩) | ((with_reducible refine gate_callee (f := 52) rfl ?_); refine goesL_ (some 13) rfl rfl Tryd.func52 (by kernel_rfl) rfl #[.int .u64 a0, .int .u64 a1] rfl (by (try simp only [List.map_toArray, List.map_cons, List.map_nil]); first | done | rfl | (simp only [List.length_drop, List.length_take]; rfl)) ?_; (with_reducible refine (field_Reduce.calls a0 a1 t153 _ A5.out).mono ?_); rintro e w' ⟨rfl, ⟨nd, rfl⟩⟩; refine ⟨_, rfl, ?_⟩))
      go_ret2
      exact ⟨by first | rfl | (simp; done) | (simp [*]; done), by repeat (first | exact Drawn0.refl _ | apply Drawn0.step)⟩
    · rw [if_neg c6] at H
      have c6b0 : (t153 == 0) = false := beq_eq_false_iff_ne.mpr c6
      have c6b1 : (t153 != 0) = true := bne_iff_ne.mpr c6
      replace H := Option.bind_eq_some_iff.mp H
      obtain ⟨t154, A70, H⟩ := H
      replace H : (some (t154, 0)) = some (r1, r2) := H
      have A7 := Aside0.mk A70
      clear A70
      simp only [Option.some.injEq, Prod.mk.injEq] at H
      obtain ⟨rfl, rfl⟩ := H
      go_enter Tryd.func34, Tryd.ntmps34
      go_wp2_with (first | ((with_reducible refine gate_callee (f := 45) rfl ?_); refine goesL_ (some 8) rfl rfl Tryd.func45 (by kernel_rfl) rfl #[.int .u64 a0] rfl (by (try simp only [List.map_toArray, List.map_cons, List.map_nil]); first | done | rfl | (simp only [List.length_drop, List.length_take]; rfl)) ?_; (with_reducible refine (field_Known.calls a0 true _ A3.out).mono ?_); rintro e w' ⟨rfl, ⟨nd, rfl⟩⟩; refine ⟨_, rfl, ?_⟩) | ((with_reducible refine gate_callee (f := 52) rfl ?_); refine goesL_ (some 13) rfl rfl Tryd.func52 (by kernel_rfl) rfl #[.int .u64 a0, .int .u64 a1] rfl (by (try simp only [List.map_toArray, List.map_cons, List.map_nil]); first | done | rfl | (simp only [List.length_drop, List.length_take]; rfl)) ?_; (with_reducible refine (field_Reduce.calls a0 a1 t153 _ A5.out).mono ?_); rintro e w' ⟨rfl, ⟨nd, rfl⟩⟩; refine ⟨_, rfl, ?_⟩) | ((with_reducible refine gate_callee (f := 55) rfl ?_); refine goesL_ (some 19) rfl rfl Tryd.func55 (by kernel_rfl) rfl #[.int .u64 a0, .int .u64 a1, .int .u64 (IntKind.u64.wrap (a0 - 2))] rfl (by (try simp only [List.map_toArray, List.map_cons, List.map_nil]); first | done | rfl | (simp only [List.length_drop, List.length_take]; rfl)) ?_; (with_reducible refine (power_Pow.calls k a0 a1 (IntKind.u64.wrap (a0 - 2)) t154 _ A7.out).mono ?_); rintro e w' ⟨rfl, ⟨nd, rfl⟩⟩; refine ⟨_, rfl, ?_⟩))
      go_ret2
      exact ⟨by first | rfl | (simp; done) | (simp [*]; done), by repeat (first | exact Drawn0.refl _ | apply Drawn0.step)⟩
  · replace c4 := Bool.eq_false_iff.mpr c4
    subst c4
    have H1 : (some (0, 2)) = some (r1, r2) := by rw [if_neg (show ¬ (false = true) by decide)] at H; exact H
    clear H
    have H := H1
    clear H1
    simp only [Option.some.injEq, Prod.mk.injEq] at H
    obtain ⟨rfl, rfl⟩ := H
    go_enter Tryd.func34, Tryd.ntmps34
    go_wp2_with (first | ((with_reducible refine gate_callee (f := 45) rfl ?_); refine goesL_ (some 8) rfl rfl Tryd.func45 (by kernel_rfl) rfl #[.int .u64 a0] rfl (by (try simp only [List.map_toArray, List.map_cons, List.map_nil]); first | done | rfl | (simp only [List.length_drop, List.length_take]; rfl)) ?_; (with_reducible refine (field_Known.calls a0 false _ A3.out).mono ?_); rintro e w' ⟨rfl, ⟨nd, rfl⟩⟩; refine ⟨_, rfl, ?_⟩))
    go_ret2
    exact ⟨by first | rfl | (simp; done) | (simp [*]; done), by repeat (first | exact Drawn0.refl _ | apply Drawn0.step)⟩

/-! ### root_Back: function 50 -/
def root_Back.f (k : Nat) (a0 : Int) (a1 : Int) : Option (Int × Int) := (root_Root.f k a0 a1).bind fun bt155 => (if bt155.2 = 0 then ((power_Inv.f k a0 bt155.1).bind fun bt157 => (some (bt157.1, bt157.2))) else (some (0, bt155.2)))
theorem root_Back.mono : ∀ a0 a1 k, LeO (root_Back.f k a0 a1) (root_Back.f (k + 1) a0 a1) := by
  intro a0 a1 k
  unfold root_Back.f
  repeat' first
      | (with_reducible exact power_Inv.mono _ _ _)
      | (with_reducible exact root_Root.mono _ _ _)
      | (with_reducible exact LeO.refl _)
      | (with_reducible exact LeO.none _)
      | (with_reducible refine LeO.ite ?_ ?_)
      | (with_reducible refine LeO.bind ?_ (fun _ => ?_))
      | exact power_Inv.mono _ _ _
      | exact root_Root.mono _ _ _
      | exact LeO.none _
      | refine LeO.ite ?_ ?_
      | refine LeO.bind ?_ (fun _ => ?_)
set_option maxHeartbeats 8000000 in
set_option maxRecDepth 100000 in
theorem root_Back.calls (k : Nat) (a0 : Int) (a1 : Int) (r1 : Int) (r2 : Int) (w : World) (h : root_Back.f k a0 a1 = some (r1, r2)) :
    Calls Tryd.prog 50 #[.int .u64 a0, .int .i64 a1] w fun e w' => e = .returned (.tuple #[.int .u64 r1, .int .i64 r2]) ∧ Below w.heap.size w w' := by
  have HB := Aside0.mk (Below.refl w.heap.size w)
  have H : ((root_Root.f k a0 a1).bind fun bt155 => (if bt155.2 = 0 then ((power_Inv.f k a0 bt155.1).bind fun bt157 => (some (bt157.1, bt157.2))) else (some (0, bt155.2)))) = some (r1, r2) := h
  clear h
  replace H := Option.bind_eq_some_iff.mp H
  obtain ⟨⟨t155, t156⟩, A30, H⟩ := H
  replace H : (if t156 = 0 then ((power_Inv.f k a0 t155).bind fun bt157 => (some (bt157.1, bt157.2))) else (some (0, t156))) = some (r1, r2) := H
  have A3 := Aside0.mk A30
  clear A30
  by_cases c4 : t156 = 0
  · rw [if_pos c4] at H
    have c4b0 : (t156 == 0) = true := beq_iff_eq.mpr c4
    have c4b1 : (t156 != 0) = false := bne_eq_false_iff_eq.mpr c4
    clear c4
    replace H := Option.bind_eq_some_iff.mp H
    obtain ⟨⟨t157, t158⟩, A50, H⟩ := H
    replace H : (some (t157, t158)) = some (r1, r2) := H
    have A5 := Aside0.mk A50
    clear A50
    simp only [Option.some.injEq, Prod.mk.injEq] at H
    obtain ⟨rfl, rfl⟩ := H
    go_enter Tryd.func50, Tryd.ntmps50
    go_wp2_with (first | ((with_reducible refine gate_callee (f := 47) rfl ?_); refine goesL_ (some 11) rfl rfl Tryd.func47 (by kernel_rfl) rfl #[.int .u64 a0, .int .i64 a1] rfl (by (try simp only [List.map_toArray, List.map_cons, List.map_nil]); first | done | rfl | (simp only [List.length_drop, List.length_take]; rfl)) ?_; (with_reducible refine (root_Root.calls k a0 a1 t155 t156 _ A3.out).mono ?_); rintro e w6 ⟨rfl, hb⟩; refine ⟨_, rfl, ?_⟩; have n0_ := Aside0.mk (below_step (by repeat (first | (with_reducible first | exact HB.out | apply below_alloc | apply pw_below_drewN | apply below_drew1) | exact HB.out)) hb); clear HB; have HB := n0_; clear n0_; (try clear hb); (try clear hb2); (try clear hk); (try clear hi)) | ((with_reducible refine gate_callee (f := 34) rfl ?_); refine goesL_ (some 19) rfl rfl Tryd.func34 (by kernel_rfl) rfl #[.int .u64 a0, .int .u64 t155] rfl (by (try simp only [List.map_toArray, List.map_cons, List.map_nil]); first | done | rfl | (simp only [List.length_drop, List.length_take]; rfl)) ?_; (with_reducible refine (power_Inv.calls k a0 t155 t157 t158 _ A5.out).mono ?_); rintro e w' ⟨rfl, ⟨nd, rfl⟩⟩; refine ⟨_, rfl, ?_⟩))
    go_ret2
    exact ⟨by first | rfl | (simp [errW_none, errW_some] <;> rfl) | (simp [*, errW_none, errW_some] <;> rfl), by repeat (first | (with_reducible first | exact HB.out | apply below_alloc | apply pw_below_drewN | apply below_drew1) | exact HB.out)⟩
  · rw [if_neg c4] at H
    have c4b0 : (t156 == 0) = false := beq_eq_false_iff_ne.mpr c4
    have c4b1 : (t156 != 0) = true := bne_iff_ne.mpr c4
    simp only [Option.some.injEq, Prod.mk.injEq] at H
    obtain ⟨rfl, rfl⟩ := H
    go_enter Tryd.func50, Tryd.ntmps50
    go_wp2_with (first | ((with_reducible refine gate_callee (f := 47) rfl ?_); refine goesL_ (some 11) rfl rfl Tryd.func47 (by kernel_rfl) rfl #[.int .u64 a0, .int .i64 a1] rfl (by (try simp only [List.map_toArray, List.map_cons, List.map_nil]); first | done | rfl | (simp only [List.length_drop, List.length_take]; rfl)) ?_; (with_reducible refine (root_Root.calls k a0 a1 t155 t156 _ A3.out).mono ?_); rintro e w7 ⟨rfl, hb⟩; refine ⟨_, rfl, ?_⟩; have n0_ := Aside0.mk (below_step (by repeat (first | (with_reducible first | exact HB.out | apply below_alloc | apply pw_below_drewN | apply below_drew1) | exact HB.out)) hb); clear HB; have HB := n0_; clear n0_; (try clear hb); (try clear hb2); (try clear hk); (try clear hi)))
    go_ret2
    exact ⟨by first | rfl | (simp [errW_none, errW_some] <;> rfl) | (simp [*, errW_none, errW_some] <;> rfl), by repeat (first | (with_reducible first | exact HB.out | apply below_alloc | apply pw_below_drewN | apply below_drew1) | exact HB.out)⟩

/-! ### step_base: function 31 -/
mutual
def step_base.j1 : Nat → Int → Bool → Int → Option (Int × Int)
  | 0, _, _, _ => none
  | k + 1, x0, x2, x10 => if x2 = true then ((root_Back.f k x0 x10).bind fun bt161 => (some (bt161.1, bt161.2))) else ((root_Root.f k x0 x10).bind fun bt163 => (some (bt163.1, bt163.2)))
def step_base.j0 : Nat → Int → Bool → Int → Bool → Int → Bool → Int → Bool → Int → Int → Int → Option (Int × Int)
  | 0, _, _, _, _, _, _, _, _, _, _, _ => none
  | k + 1, x0, x2, x10, x18, x160000, x160001, x161000, x161001, x161002, x161003, x161004 => if x18 = true then (some (1, 0)) else (if x161001 = true then (step_base.j1 k x0 x2 (wrap64 (2 * x160000))) else (step_base.j1 k x0 x2 x10))
end
def step_base.f (k : Nat) (a0 : Int) (a1_0 : Int) (a1_1 : Bool) (a2 : Bool) (a3_0 : Int) (a3_1 : Bool) (a3_2 : Int) (a3_3 : Int) (a3_4 : Int) : Option (Int × Int) := if a3_1 = true then (step_base.j0 k a0 a2 (wrap64 (a3_2 * a3_4)) (!a1_1) a1_0 a1_1 a3_0 a3_1 a3_2 a3_3 a3_4) else (step_base.j0 k a0 a2 (wrap64 (a3_2 * a3_4)) false a1_0 a1_1 a3_0 a3_1 a3_2 a3_3 a3_4)
theorem step_base.mono_l : ∀ k, (∀ y0 y1 y2, LeO (step_base.j1 k y0 y1 y2) (step_base.j1 (k + 1) y0 y1 y2)) ∧ (∀ y0 y1 y2 y3 y4 y5 y6 y7 y8 y9 y10, LeO (step_base.j0 k y0 y1 y2 y3 y4 y5 y6 y7 y8 y9 y10) (step_base.j0 (k + 1) y0 y1 y2 y3 y4 y5 y6 y7 y8 y9 y10))
  | 0 => ⟨fun _ _ _ r h => by simp [step_base.j1] at h, fun _ _ _ _ _ _ _ _ _ _ _ r h => by simp [step_base.j0] at h⟩
  | k + 1 => by
    obtain ⟨ih0, ih1⟩ := step_base.mono_l k
    refine ⟨?_, ?_⟩
    · intro y0 y1 y2
      unfold step_base.j1
      repeat' first
      | (with_reducible exact ih0 _ _ _)
      | (with_reducible exact ih1 _ _ _ _ _ _ _ _ _ _ _)
      | (with_reducible exact root_Back.mono _ _ _)
      | (with_reducible exact root_Root.mono _ _ _)
      | (with_reducible exact LeO.refl _)
      | (with_reducible exact LeO.none _)
      | (with_reducible refine LeO.ite ?_ ?_)
      | (with_reducible refine LeO.bind ?_ (fun _ => ?_))
      | exact ih0 _ _ _
      | exact ih1 _ _ _ _ _ _ _ _ _ _ _
      | exact root_Back.mono _ _ _
      | exact root_Root.mono _ _ _
      | exact LeO.none _
      | refine LeO.ite ?_ ?_
      | refine LeO.bind ?_ (fun _ => ?_)
    · intro y0 y1 y2 y3 y4 y5 y6 y7 y8 y9 y10
      unfold step_base.j0
      repeat' first
      | (with_reducible exact ih0 _ _ _)
      | (with_reducible exact ih1 _ _ _ _ _ _ _ _ _ _ _)
      | (with_reducible exact root_Back.mono _ _ _)
      | (with_reducible exact root_Root.mono _ _ _)
      | (with_reducible exact LeO.refl _)
      | (with_reducible exact LeO.none _)
      | (with_reducible refine LeO.ite ?_ ?_)
      | (with_reducible refine LeO.bind ?_ (fun _ => ?_))
      | exact ih0 _ _ _
      | exact ih1 _ _ _ _ _ _ _ _ _ _ _
      | exact root_Back.mono _ _ _
      | exact root_Root.mono _ _ _
      | exact LeO.none _
      | refine LeO.ite ?_ ?_
      | refine LeO.bind ?_ (fun _ => ?_)
theorem step_base.mono : ∀ a0 a1 a2 a3 a4 a5 a6 a7 a8 k, LeO (step_base.f k a0 a1 a2 a3 a4 a5 a6 a7 a8) (step_base.f (k + 1) a0 a1 a2 a3 a4 a5 a6 a7 a8) := by
  intro a0 a1 a2 a3 a4 a5 a6 a7 a8 k
  obtain ⟨ih0, ih1⟩ := step_base.mono_l k
  unfold step_base.f
  repeat' first
      | (with_reducible exact ih0 _ _ _)
      | (with_reducible exact ih1 _ _ _ _ _ _ _ _ _ _ _)
      | (with_reducible exact root_Back.mono _ _ _)
      | (with_reducible exact root_Root.mono _ _ _)
      | (with_reducible exact LeO.refl _)
      | (with_reducible exact LeO.none _)
      | (with_reducible refine LeO.ite ?_ ?_)
      | (with_reducible refine LeO.bind ?_ (fun _ => ?_))
      | exact ih0 _ _ _
      | exact ih1 _ _ _ _ _ _ _ _ _ _ _
      | exact root_Back.mono _ _ _
      | exact root_Root.mono _ _ _
      | exact LeO.none _
      | refine LeO.ite ?_ ?_
      | refine LeO.bind ?_ (fun _ => ?_)
set_option maxHeartbeats 8000000 in
set_option maxRecDepth 100000 in
theorem step_base.calls (k : Nat) (a0 : Int) (a1_0 : Int) (a1_1 : Bool) (a2 : Bool) (a3_0 : Int) (a3_1 : Bool) (a3_2 : Int) (a3_3 : Int) (a3_4 : Int) (r1 : Int) (r2 : Int) (w : World) (h : step_base.f k a0 a1_0 a1_1 a2 a3_0 a3_1 a3_2 a3_3 a3_4 = some (r1, r2)) :
    Calls Tryd.prog 31 #[.int .u64 a0, .agg #[.int .i64 a1_0, .bool a1_1], .bool a2, .agg #[.int .i64 a3_0, .bool a3_1, .int .i64 a3_2, .int .i64 a3_3, .int .i64 a3_4]] w fun e w' => e = .returned (.tuple #[.int .u64 r1, .int .i64 r2]) ∧ Below w.heap.size w w' := by
  have hu33 := Tryd.underlying33
  have hu37 := Tryd.underlying37
  have HB := Aside0.mk (Below.refl w.heap.size w)
  have H : (if a3_1 = true then (step_base.j0 k a0 a2 (wrap64 (a3_2 * a3_4)) (!a1_1) a1_0 a1_1 a3_0 a3_1 a3_2 a3_3 a3_4) else (step_base.j0 k a0 a2 (wrap64 (a3_2 * a3_4)) false a1_0 a1_1 a3_0 a3_1 a3_2 a3_3 a3_4)) = some (r1, r2) := h
  clear h
  have HC5 := Aside0.mk H
  clear H
  go_enter Tryd.func31, Tryd.ntmps31
  go_upto_block 0 with (first | ((with_reducible refine gate_dst (N := 5) rfl ?_); refine box_event ?hg (N := 5) ?hd (cs := #[.int .i64 a1_0, .bool a1_1]) (t := 33) ?hr ?_; (case hd => rfl); (case hg => rfl); (case hr => first | (go_simp; done) | (go_simp; rfl)); intro gb159 hg w6 hbox hb; have n0_ := Aside0.mk (below_step (by repeat (first | (with_reducible first | exact HB.out | apply below_alloc | apply pw_below_drewN | apply below_drew1) | exact HB.out)) hb); have n1_ := Aside0.mk (hbox); have n2_ := Aside0.mk ((by rw [hg]; exact (below_size (by repeat (first | (with_reducible first | exact HB.out | apply below_alloc | apply pw_below_drewN | apply below_drew1) | exact HB.out))) : w.heap.size ≤ gb159)); have n3_ := Aside0.mk ((by rw [hg]; exact (below_size (by repeat (first | (with_reducible first | exact HB.out | apply below_alloc | apply pw_below_drewN | apply below_drew1) | exact HB.out))) : w.heap.size ≤ gb159)); clear HB; have HB := n0_; have BK159 := n1_; have GW159 := n2_; have GE159 := n3_; clear n0_ n1_ n2_ n3_; clear hb hbox hg) | ((with_reducible refine gate_dst (N := 7) rfl ?_); refine box_event ?hg (N := 7) ?hd (cs := #[.int .i64 a3_0, .bool a3_1, .int .i64 a3_2, .int .i64 a3_3, .int .i64 a3_4]) (t := 37) ?hr ?_; (case hd => rfl); (case hg => rfl); (case hr => first | (go_simp; done) | (go_simp; rfl)); intro gb160 hg w7 hbox hb; have n0_ := Aside0.mk (blk_below (g := gb159) (o := .cells #[.int .i64 a1_0, .bool a1_1] 33 (0, 0)) (by (with_reducible repeat (first | refine blk_drewN ?_ _ | refine blk_drew ?_ | refine blk_alloc ?_ _)); exact BK159.out) hb); have n1_ := Aside0.mk (below_step (by repeat (first | (with_reducible first | exact HB.out | apply below_alloc | apply pw_below_drewN | apply below_drew1 | refine below_set ?_ GE159.out) | exact HB.out)) hb); have n2_ := Aside0.mk (hbox); have n3_ := Aside0.mk ((by rw [hg]; exact (below_size (by repeat (first | (with_reducible first | exact HB.out | apply below_alloc | apply pw_below_drewN | apply below_drew1 | refine below_set ?_ GE159.out) | exact HB.out))) : w.heap.size ≤ gb160)); have n4_ := Aside0.mk ((by rw [hg]; exact (below_size (by repeat (first | (with_reducible first | exact HB.out | apply below_alloc | apply pw_below_drewN | apply below_drew1 | refine below_set ?_ GE159.out) | exact HB.out))) : w.heap.size ≤ gb160)); have n5_ := Aside0.mk ((by rw [hg]; exact Nat.ne_of_lt (blk_lt (g := gb159) (o := .cells #[.int .i64 a1_0, .bool a1_1] 33 (0, 0)) (by (with_reducible repeat (first | refine blk_drewN ?_ _ | refine blk_drew ?_ | refine blk_alloc ?_ _)); exact BK159.out)) : gb159 ≠ gb160)); have n6_ := Aside0.mk ((by rw [hg]; exact Nat.ne_of_gt (blk_lt (g := gb159) (o := .cells #[.int .i64 a1_0, .bool a1_1] 33 (0, 0)) (by (with_reducible repeat (first | refine blk_drewN ?_ _ | refine blk_drew ?_ | refine blk_alloc ?_ _)); exact BK159.out)) : gb160 ≠ gb159)); clear BK159; clear HB; have BK159 := n0_; have HB := n1_; have BK160 := n2_; have GW160 := n3_; have GE160 := n4_; have NB159_160 := n5_; have NB160_159 := n6_; clear n0_ n1_ n2_ n3_ n4_ n5_ n6_; clear hb hbox hg; have hnb8 := NB160_159.out; have hnc8 := NB159_160.out; have hcz9_0 : w7.cell? ⟨gb160, 0, none⟩ = some (.int .i64 a3_0) := (blk_cell BK160.out 0).trans rfl; have hcz9_1 : w7.cell? ⟨gb160, 1, none⟩ = some (.bool a3_1) := (blk_cell BK160.out 1).trans rfl; have hcz9_2 : w7.cell? ⟨gb160, 2, none⟩ = some (.int .i64 a3_2) := (blk_cell BK160.out 2).trans rfl; have hcz9_3 : w7.cell? ⟨gb160, 3, none⟩ = some (.int .i64 a3_3) := (blk_cell BK160.out 3).trans rfl; have hcz9_4 : w7.cell? ⟨gb160, 4, none⟩ = some (.int .i64 a3_4) := (blk_cell BK160.out 4).trans rfl; have hfz9_0 := blk_frozen BK160.out 0; have hfz9_1 := blk_frozen BK160.out 1; have hfz9_2 := blk_frozen BK160.out 2; have hfz9_3 := blk_frozen BK160.out 3; have hfz9_4 := blk_frozen BK160.out 4))
  (try simp only [Act.put, List.setIfInBounds_toArray, List.set_cons_zero, List.set_cons_succ])
  go_cut [10] (fun v10 wc => ∃ (kq : Nat) (x10_4 : Int), v10 = .int .i64 x10_4 ∧ Aside0 (step_base.j1 kq a0 a2 x10_4 = some (r1, r2)) ∧ Aside0 (kq ≤ k) ∧ Aside0 (wc.heap[gb159]? = some (.cells #[.int .i64 a1_0, .bool a1_1] 33 (0, 0))) ∧ Aside0 (wc.heap[gb160]? = some (.cells #[.int .i64 a3_0, .bool a3_1, .int .i64 a3_2, .int .i64 a3_3, .int .i64 a3_4] 37 (0, 0))) ∧ Aside0 (Below w.heap.size w wc))
  case first =>
    have H := HC5.out
    clear HC5
    have HC10 := Aside0.mk H
    clear H
    go_upto_region 2 with (fail)
    go_cut [18] (fun v18 wc => ∃ (kq : Nat) (x18_9 : Bool), v18 = .bool x18_9 ∧ Aside0 (step_base.j0 kq a0 a2 (wrap64 (a3_2 * a3_4)) x18_9 a1_0 a1_1 a3_0 a3_1 a3_2 a3_3 a3_4 = some (r1, r2)) ∧ Aside0 (kq ≤ k) ∧ Aside0 (wc.heap[gb159]? = some (.cells #[.int .i64 a1_0, .bool a1_1] 33 (0, 0))) ∧ Aside0 (wc.heap[gb160]? = some (.cells #[.int .i64 a3_0, .bool a3_1, .int .i64 a3_2, .int .i64 a3_3, .int .i64 a3_4] 37 (0, 0))) ∧ Aside0 (Below w.heap.size w wc))
    case first =>
      have H := HC10.out
      clear HC10
      by_cases c11 : a3_1 = true
      · subst c11
        have H1 : (step_base.j0 k a0 a2 (wrap64 (a3_2 * a3_4)) (!a1_1) a1_0 a1_1 a3_0 true a3_2 a3_3 a3_4) = some (r1, r2) := by rw [if_pos rfl] at H; exact H
        clear H
        have H := H1
        clear H1
        have H' := Aside0.mk H
        clear H
        have hnb12 := NB160_159.out
        have hnc12 := NB159_160.out
        have hcz13_0 : w7.cell? ⟨gb160, 0, none⟩ = some (.int .i64 a3_0) := (blk_cell BK160.out 0).trans rfl
        have hcz13_1 : w7.cell? ⟨gb160, 1, none⟩ = some (.bool true) := (blk_cell BK160.out 1).trans rfl
        have hcz13_2 : w7.cell? ⟨gb160, 2, none⟩ = some (.int .i64 a3_2) := (blk_cell BK160.out 2).trans rfl
        have hcz13_3 : w7.cell? ⟨gb160, 3, none⟩ = some (.int .i64 a3_3) := (blk_cell BK160.out 3).trans rfl
        have hcz13_4 : w7.cell? ⟨gb160, 4, none⟩ = some (.int .i64 a3_4) := (blk_cell BK160.out 4).trans rfl
        have hfz13_0 := blk_frozen BK160.out 0
        have hfz13_1 := blk_frozen BK160.out 1
        have hfz13_2 := blk_frozen BK160.out 2
        have hfz13_3 := blk_frozen BK160.out 3
        have hfz13_4 := blk_frozen BK160.out 4
        have hcz14_0 : w7.cell? ⟨gb159, 0, none⟩ = some (.int .i64 a1_0) := (blk_cell BK159.out 0).trans rfl
        have hcz14_1 : w7.cell? ⟨gb159, 1, none⟩ = some (.bool a1_1) := (blk_cell BK159.out 1).trans rfl
        have hfz14_0 := blk_frozen BK159.out 0
        have hfz14_1 := blk_frozen BK159.out 1
        go_wp2
        go_meet
        case rel => exact ⟨_, (!a1_1), (by first | rfl | (simp; done) | (simp [*]; done)), H', ⟨by first | omega | exact Nat.le_refl _⟩, ⟨by (with_reducible repeat (first | refine blk_drewN ?_ _ | refine blk_drew ?_ | refine blk_alloc ?_ _)); exact BK159.out⟩, ⟨by (with_reducible repeat (first | refine blk_drewN ?_ _ | refine blk_drew ?_ | refine blk_alloc ?_ _)); exact BK160.out⟩, ⟨by repeat (first | (with_reducible first | exact HB.out | apply below_alloc | apply pw_below_drewN | apply below_drew1 | refine below_set ?_ GE159.out | refine below_set ?_ GE160.out) | exact HB.out)⟩⟩
      · replace c11 := Bool.eq_false_iff.mpr c11
        subst c11
        have H1 : (step_base.j0 k a0 a2 (wrap64 (a3_2 * a3_4)) false a1_0 a1_1 a3_0 false a3_2 a3_3 a3_4) = some (r1, r2) := by rw [if_neg (show ¬ (false = true) by decide)] at H; exact H
        clear H
        have H := H1
        clear H1
        have H' := Aside0.mk H
        clear H
        have hnb15 := NB160_159.out
        have hnc15 := NB159_160.out
        have hcz16_0 : w7.cell? ⟨gb160, 0, none⟩ = some (.int .i64 a3_0) := (blk_cell BK160.out 0).trans rfl
        have hcz16_1 : w7.cell? ⟨gb160, 1, none⟩ = some (.bool false) := (blk_cell BK160.out 1).trans rfl
        have hcz16_2 : w7.cell? ⟨gb160, 2, none⟩ = some (.int .i64 a3_2) := (blk_cell BK160.out 2).trans rfl
        have hcz16_3 : w7.cell? ⟨gb160, 3, none⟩ = some (.int .i64 a3_3) := (blk_cell BK160.out 3).trans rfl
        have hcz16_4 : w7.cell? ⟨gb160, 4, none⟩ = some (.int .i64 a3_4) := (blk_cell BK160.out 4).trans rfl
        have hfz16_0 := blk_frozen BK160.out 0
        have hfz16_1 := blk_frozen BK160.out 1
        have hfz16_2 := blk_frozen BK160.out 2
        have hfz16_3 := blk_frozen BK160.out 3
        have hfz16_4 := blk_frozen BK160.out 4
        go_wp2
        go_meet
        case rel => exact ⟨_, (false), (by first | rfl | (simp; done) | (simp [*]; done)), H', ⟨by first | omega | exact Nat.le_refl _⟩, ⟨by (with_reducible repeat (first | refine blk_drewN ?_ _ | refine blk_drew ?_ | refine blk_alloc ?_ _)); exact BK159.out⟩, ⟨by (with_reducible repeat (first | refine blk_drewN ?_ _ | refine blk_drew ?_ | refine blk_alloc ?_ _)); exact BK160.out⟩, ⟨by repeat (first | (with_reducible first | exact HB.out | apply below_alloc | apply pw_below_drewN | apply below_drew1 | refine below_set ?_ GE159.out | refine below_set ?_ GE160.out) | exact HB.out)⟩⟩
    case rest =>
      clear HC10
      try clear c1
      try clear p2
      try clear c3
      try clear p6
      try clear c8
      try clear c11
      try clear c12
      try clear c15
      try clear hcz13_0
      try clear hcz13_1
      try clear hcz13_2
      try clear hcz13_3
      try clear hcz13_4
      try clear hcz14_0
      try clear hcz14_1
      try clear hcz16_0
      try clear hcz16_1
      try clear hcz16_2
      try clear hcz16_3
      try clear hcz16_4
      try clear hcz9_0
      try clear hcz9_1
      try clear hcz9_2
      try clear hcz9_3
      try clear hcz9_4
      try clear hfz13_0
      try clear hfz13_1
      try clear hfz13_2
      try clear hfz13_3
      try clear hfz13_4
      try clear hfz14_0
      try clear hfz14_1
      try clear hfz16_0
      try clear hfz16_1
      try clear hfz16_2
      try clear hfz16_3
      try clear hfz16_4
      try clear hfz9_0
      try clear hfz9_1
      try clear hfz9_2
      try clear hfz9_3
      try clear hfz9_4
      obtain ⟨kq, x18_9, rfl, HA, HJ9, BK159, BK160, HB⟩ := hcut
      cases kq with
      | zero => exact absurd HA.out (by simp [step_base.j0])
      | succ kj9 =>
        have H := HA.out
        clear HA
        simp only [step_base.j0] at H
        by_cases c17 : x18_9 = true
        · subst c17
          have H1 : (some (1, 0)) = some (r1, r2) := by rw [if_pos rfl] at H; exact H
          clear H
          have H := H1
          clear H1
          simp only [Option.some.injEq, Prod.mk.injEq] at H
          obtain ⟨rfl, rfl⟩ := H
          go_wp2
          go_ret2
          exact ⟨by first | rfl | (simp [errW_none, errW_some] <;> rfl) | (simp [*, errW_none, errW_some] <;> rfl), by repeat (first | (with_reducible first | exact HB.out | apply below_alloc | apply pw_below_drewN | apply below_drew1 | refine below_set ?_ GE159.out | refine below_set ?_ GE160.out) | exact HB.out)⟩
        · replace c17 := Bool.eq_false_iff.mpr c17
          subst c17
          have H1 : (if a3_1 = true then (step_base.j1 kj9 a0 a2 (wrap64 (2 * a1_0))) else (step_base.j1 kj9 a0 a2 (wrap64 (a3_2 * a3_4)))) = some (r1, r2) := by rw [if_neg (show ¬ (false = true) by decide)] at H; exact H
          clear H
          have H := H1
          clear H1
          by_cases c18 : a3_1 = true
          · subst c18
            have H1 : (step_base.j1 kj9 a0 a2 (wrap64 (2 * a1_0))) = some (r1, r2) := by rw [if_pos rfl] at H; exact H
            clear H
            have H := H1
            clear H1
            have H' := Aside0.mk H
            clear H
            have hnb19 := NB160_159.out
            have hnc19 := NB159_160.out
            have hcz20_0 : wc.cell? ⟨gb160, 0, none⟩ = some (.int .i64 a3_0) := (blk_cell BK160.out 0).trans rfl
            have hcz20_1 : wc.cell? ⟨gb160, 1, none⟩ = some (.bool true) := (blk_cell BK160.out 1).trans rfl
            have hcz20_2 : wc.cell? ⟨gb160, 2, none⟩ = some (.int .i64 a3_2) := (blk_cell BK160.out 2).trans rfl
            have hcz20_3 : wc.cell? ⟨gb160, 3, none⟩ = some (.int .i64 a3_3) := (blk_cell BK160.out 3).trans rfl
            have hcz20_4 : wc.cell? ⟨gb160, 4, none⟩ = some (.int .i64 a3_4) := (blk_cell BK160.out 4).trans rfl
            have hfz20_0 := blk_frozen BK160.out 0
            have hfz20_1 := blk_frozen BK160.out 1
            have hfz20_2 := blk_frozen BK160.out 2
            have hfz20_3 := blk_frozen BK160.out 3
            have hfz20_4 := blk_frozen BK160.out 4
            have hcz21_0 : wc.cell? ⟨gb159, 0, none⟩ = some (.int .i64 a1_0) := (blk_cell BK159.out 0).trans rfl
            have hcz21_1 : wc.cell? ⟨gb159, 1, none⟩ = some (.bool a1_1) := (blk_cell BK159.out 1).trans rfl
            have hfz21_0 := blk_frozen BK159.out 0
            have hfz21_1 := blk_frozen BK159.out 1
            go_wp2
            go_meet
            case rel => exact ⟨_, (wrap64 (2 * a1_0)), (by first | rfl | (simp; done) | (simp [*]; done)), H', ⟨by have := HJ9.out; first | omega | exact Nat.le_refl _⟩, ⟨by (with_reducible repeat (first | refine blk_drewN ?_ _ | refine blk_drew ?_ | refine blk_alloc ?_ _)); exact BK159.out⟩, ⟨by (with_reducible repeat (first | refine blk_drewN ?_ _ | refine blk_drew ?_ | refine blk_alloc ?_ _)); exact BK160.out⟩, ⟨by repeat (first | (with_reducible first | exact HB.out | apply below_alloc | apply pw_below_drewN | apply below_drew1 | refine below_set ?_ GE159.out | refine below_set ?_ GE160.out) | exact HB.out)⟩⟩
          · replace c18 := Bool.eq_false_iff.mpr c18
            subst c18
            have H1 : (step_base.j1 kj9 a0 a2 (wrap64 (a3_2 * a3_4))) = some (r1, r2) := by rw [if_neg (show ¬ (false = true) by decide)] at H; exact H
            clear H
            have H := H1
            clear H1
            have H' := Aside0.mk H
            clear H
            have hnb22 := NB160_159.out
            have hnc22 := NB159_160.out
            have hcz23_0 : wc.cell? ⟨gb160, 0, none⟩ = some (.int .i64 a3_0) := (blk_cell BK160.out 0).trans rfl
            have hcz23_1 : wc.cell? ⟨gb160, 1, none⟩ = some (.bool false) := (blk_cell BK160.out 1).trans rfl
            have hcz23_2 : wc.cell? ⟨gb160, 2, none⟩ = some (.int .i64 a3_2) := (blk_cell BK160.out 2).trans rfl
            have hcz23_3 : wc.cell? ⟨gb160, 3, none⟩ = some (.int .i64 a3_3) := (blk_cell BK160.out 3).trans rfl
            have hcz23_4 : wc.cell? ⟨gb160, 4, none⟩ = some (.int .i64 a3_4) := (blk_cell BK160.out 4).trans rfl
            have hfz23_0 := blk_frozen BK160.out 0
            have hfz23_1 := blk_frozen BK160.out 1
            have hfz23_2 := blk_frozen BK160.out 2
            have hfz23_3 := blk_frozen BK160.out 3
            have hfz23_4 := blk_frozen BK160.out 4
            go_wp2
            go_meet
            case rel => exact ⟨_, ((wrap64 (a3_2 * a3_4))), (by first | rfl | (simp; done) | (simp [*]; done)), H', ⟨by have := HJ9.out; first | omega | exact Nat.le_refl _⟩, ⟨by (with_reducible repeat (first | refine blk_drewN ?_ _ | refine blk_drew ?_ | refine blk_alloc ?_ _)); exact BK159.out⟩, ⟨by (with_reducible repeat (first | refine blk_drewN ?_ _ | refine blk_drew ?_ | refine blk_alloc ?_ _)); exact BK160.out⟩, ⟨by repeat (first | (with_reducible first | exact HB.out | apply below_alloc | apply pw_below_drewN | apply below_drew1 | refine below_set ?_ GE159.out | refine below_set ?_ GE160.out) | exact HB.out)⟩⟩
  case rest =>
    clear HC5
    try clear c1
    try clear c2
    try clear p2
    try clear c3
    try clear p6
    try clear c8
    try clear c11
    try clear c12
    try clear c15
    try clear c17
    try clear c18
    try clear c19
    try clear c22
    try clear hcz13_0
    try clear hcz13_1
    try clear hcz13_2
    try clear hcz13_3
    try clear hcz13_4
    try clear hcz14_0
    try clear hcz14_1
    try clear hcz16_0
    try clear hcz16_1
    try clear hcz16_2
    try clear hcz16_3
    try clear hcz16_4
    try clear hcz20_0
    try clear hcz20_1
    try clear hcz20_2
    try clear hcz20_3
    try clear hcz20_4
    try clear hcz21_0
    try clear hcz21_1
    try clear hcz23_0
    try clear hcz23_1
    try clear hcz23_2
    try clear hcz23_3
    try clear hcz23_4
    try clear hcz9_0
    try clear hcz9_1
    try clear hcz9_2
    try clear hcz9_3
    try clear hcz9_4
    try clear hfz13_0
    try clear hfz13_1
    try clear hfz13_2
    try clear hfz13_3
    try clear hfz13_4
    try clear hfz14_0
    try clear hfz14_1
    try clear hfz16_0
    try clear hfz16_1
    try clear hfz16_2
    try clear hfz16_3
    try clear hfz16_4
    try clear hfz20_0
    try clear hfz20_1
    try clear hfz20_2
    try clear hfz20_3
    try clear hfz20_4
    try clear hfz21_0
    try clear hfz21_1
    try clear hfz23_0
    try clear hfz23_1
    try clear hfz23_2
    try clear hfz23_3
    try clear hfz23_4
    try clear hfz9_0
    try clear hfz9_1
    try clear hfz9_2
    try clear hfz9_3
    try clear hfz9_4
    try clear p2
    try clear p6
    obtain ⟨kq, x10_4, rfl, HA, HJ4, BK159, BK160, HB⟩ := hcut
    cases kq with
    | zero => exact absurd HA.out (by simp [step_base.j1])
    | succ kj4 =>
      have H := HA.out
      clear HA
      simp only [step_base.j1] at H
      by_cases c24 : a2 = true
      · subst c24
        have H1 : ((root_Back.f kj4 a0 x10_4).bind fun bt161 => (some (bt161.1, bt161.2))) = some (r1, r2) := by rw [if_pos rfl] at H; exact H
        clear H
        have H := H1
        clear H1
        replace H := Option.bind_eq_some_iff.mp H
        obtain ⟨⟨t161, t162⟩, A250, H⟩ := H
        replace H : (some (t161, t162)) = some (r1, r2) := H
        have A25 := Aside0.mk A250
        clear A250
        simp only [Option.some.injEq, Prod.mk.injEq] at H
        obtain ⟨rfl, rfl⟩ := H
        go_wp2_with (first | ((with_reducible refine gate_callee (f := 50) rfl ?_); refine goesL_ (some 35) rfl rfl Tryd.func50 (by kernel_rfl) rfl #[.int .u64 a0, .int .i64 x10_4] rfl (by (try simp only [List.map_toArray, List.map_cons, List.map_nil]); first | done | rfl | (simp only [List.length_drop, List.length_take]; rfl)) ?_; (with_reducible refine (root_Back.calls kj4 a0 x10_4 t161 t162 _ A25.out).mono ?_); rintro e w26 ⟨rfl, hb⟩; refine ⟨_, rfl, ?_⟩; have n0_ := Aside0.mk (blk_below (g := gb159) (o := .cells #[.int .i64 a1_0, .bool a1_1] 33 (0, 0)) (by (with_reducible repeat (first | refine blk_drewN ?_ _ | refine blk_drew ?_ | refine blk_alloc ?_ _)); exact BK159.out) hb); have n1_ := Aside0.mk (blk_below (g := gb160) (o := .cells #[.int .i64 a3_0, .bool a3_1, .int .i64 a3_2, .int .i64 a3_3, .int .i64 a3_4] 37 (0, 0)) (by (with_reducible repeat (first | refine blk_drewN ?_ _ | refine blk_drew ?_ | refine blk_alloc ?_ _)); exact BK160.out) hb); have n2_ := Aside0.mk (below_step (by repeat (first | (with_reducible first | exact HB.out | apply below_alloc | apply pw_below_drewN | apply below_drew1 | refine below_set ?_ GE159.out | refine below_set ?_ GE160.out) | exact HB.out)) hb); clear BK159; clear BK160; clear HB; have BK159 := n0_; have BK160 := n1_; have HB := n2_; clear n0_ n1_ n2_; (try clear hb); (try clear hb2); (try clear hk); (try clear hi)))
        go_ret2
        exact ⟨by first | rfl | (simp [errW_none, errW_some] <;> rfl) | (simp [*, errW_none, errW_some] <;> rfl), by repeat (first | (with_reducible first | exact HB.out | apply below_alloc | apply pw_below_drewN | apply below_drew1 | refine below_set ?_ GE159.out | refine below_set ?_ GE160.out) | exact HB.out)⟩
      · replace c24 := Bool.eq_false_iff.mpr c24
        subst c24
        have H1 : ((root_Root.f kj4 a0 x10_4).bind fun bt163 => (some (bt163.1, bt163.2))) = some (r1, r2) := by rw [if_neg (show ¬ (false = true) by decide)] at H; exact H
        clear H
        have H := H1
        clear H1
        replace H := Option.bind_eq_some_iff.mp H
        obtain ⟨⟨t163, t164⟩, A270, H⟩ := H
        replace H : (some (t163, t164)) = some (r1, r2) := H
        have A27 := Aside0.mk A270
        clear A270
        simp only [Option.some.injEq, Prod.mk.injEq] at H
        obtain ⟨rfl, rfl⟩ := H
        go_wp2_with (first | ((with_reducible refine gate_callee (f := 47) rfl ?_); refine goesL_ (some 40) rfl rfl Tryd.func47 (by kernel_rfl) rfl #[.int .u64 a0, .int .i64 x10_4] rfl (by (try simp only [List.map_toArray, List.map_cons, List.map_nil]); first | done | rfl | (simp only [List.length_drop, List.length_take]; rfl)) ?_; (with_reducible refine (root_Root.calls kj4 a0 x10_4 t163 t164 _ A27.out).mono ?_); rintro e w28 ⟨rfl, hb⟩; refine ⟨_, rfl, ?_⟩; have n0_ := Aside0.mk (blk_below (g := gb159) (o := .cells #[.int .i64 a1_0, .bool a1_1] 33 (0, 0)) (by (with_reducible repeat (first | refine blk_drewN ?_ _ | refine blk_drew ?_ | refine blk_alloc ?_ _)); exact BK159.out) hb); have n1_ := Aside0.mk (blk_below (g := gb160) (o := .cells #[.int .i64 a3_0, .bool a3_1, .int .i64 a3_2, .int .i64 a3_3, .int .i64 a3_4] 37 (0, 0)) (by (with_reducible repeat (first | refine blk_drewN ?_ _ | refine blk_drew ?_ | refine blk_alloc ?_ _)); exact BK160.out) hb); have n2_ := Aside0.mk (below_step (by repeat (first | (with_reducible first | exact HB.out | apply below_alloc | apply pw_below_drewN | apply below_drew1 | refine below_set ?_ GE159.out | refine below_set ?_ GE160.out) | exact HB.out)) hb); clear BK159; clear BK160; clear HB; have BK159 := n0_; have BK160 := n1_; have HB := n2_; clear n0_ n1_ n2_; (try clear hb); (try clear hb2); (try clear hk); (try clear hi)))
        go_ret2
        exact ⟨by first | rfl | (simp [errW_none, errW_some] <;> rfl) | (simp [*, errW_none, errW_some] <;> rfl), by repeat (first | (with_reducible first | exact HB.out | apply below_alloc | apply pw_below_drewN | apply below_drew1 | refine below_set ?_ GE159.out | refine below_set ?_ GE160.out) | exact HB.out)⟩

end Go.Proofs.YtcilfgedcnehfaaDoor.PCP
