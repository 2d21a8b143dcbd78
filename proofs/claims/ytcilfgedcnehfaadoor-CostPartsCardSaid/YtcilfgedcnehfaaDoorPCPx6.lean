-- Written by a program (wip/pr.py) over the kit's printer and contracts of my own
import Derived.Test.YtcilfgedcnehfaaDoorPCPx0
import Derived.Test.YtcilfgedcnehfaaDoorPCPx2
import Derived.Test.YtcilfgedcnehfaaDoorPCPx3
import Derived.Test.YtcilfgedcnehfaaDoorPCPx5
namespace Go.Proofs.YtcilfgedcnehfaaDoor.PCP
open Go.RowKit Go.Proofs.YtcilfgedcnehfaaDoorW.PrintWords Go.Proofs.YtcilfgedcnehfaaDoorW.PrintLast Go.Proofs.YtcilfgedcnehfaaDoorW.PrintMore
attribute [local go_sem] max2_int min2_int max_two min_two max_three min_three max_four min_four   -- for this text's walks alone
set_option linter.unusedVariables false
set_option linter.unusedSimpArgs false

/-! ### plan_Steps: function 10 -/
mutual
def plan_Steps.l0 : Nat → Bool → List (S37) → List (S33) → Int → Int → Option ((List (S37)) × Int)
  | 0, _, _, _, _, _ => none
  | k + 1, x2, x9, x23, x24, x25 => if x25 < x24 then (if 0 ≤ x25 then (if x25 < (x23.length : Int) then ((factor_Stages.f k ((rd_T33 x23 x25).f0)).bind fun bt179 => (if bt179.2 = 0 then (if (rd_T33 x23 x25).f1 = true then (plan_Steps.j1 k x2 x9 x25 bt179.1 x23 x24 x25 (!x2) x25 true 0 0 0) else (plan_Steps.j1 k x2 x9 x25 bt179.1 x23 x24 x25 false x25 true 0 0 0)) else (some (([] : List (S37)), bt179.2)))) else (none)) else (none)) else (some (x9, 0))
def plan_Steps.j1 : Nat → Bool → List (S37) → Int → List (S35) → List (S33) → Int → Int → Bool → Int → Bool → Int → Int → Int → Option ((List (S37)) × Int)
  | 0, _, _, _, _, _, _, _, _, _, _, _, _, _ => none
  | k + 1, x2, x9, x10, x12, x23, x24, x25, x46, x184000, x184001, x184002, x184003, x184004 => if x46 = true then (if x9.length < 3518437208883 then (plan_Steps.j2 k x2 (x9 ++ [(⟨x184000, x184001, (⟨x184002, x184003, x184004⟩ : S35)⟩ : S37)]) x10 x12 x23 x24 x25 x184000 x184001 x184002 x184003 x184004) else (none)) else (plan_Steps.j2 k x2 x9 x10 x12 x23 x24 x25 x184000 x184001 x184002 x184003 x184004)
def plan_Steps.j2 : Nat → Bool → List (S37) → Int → List (S35) → List (S33) → Int → Int → Int → Bool → Int → Int → Int → Option ((List (S37)) × Int)
  | 0, _, _, _, _, _, _, _, _, _, _, _, _ => none
  | k + 1, x2, x9, x10, x12, x23, x24, x25, x184000, x184001, x184002, x184003, x184004 => plan_Steps.l1 k x2 x9 x10 x23 x24 x25 x12 (x12.length : Int) 0 x184000 x184001 x184002 x184003 x184004
def plan_Steps.l1 : Nat → Bool → List (S37) → Int → List (S33) → Int → Int → List (S35) → Int → Int → Int → Bool → Int → Int → Int → Option ((List (S37)) × Int)
  | 0, _, _, _, _, _, _, _, _, _, _, _, _, _, _ => none
  | k + 1, x2, x9, x10, x23, x24, x25, x51, x52, x53, x184000, x184001, x184002, x184003, x184004 => if x53 < x52 then (if 0 ≤ x53 then (if x53 < (x51.length : Int) then (if x9.length < 3518437208883 then (plan_Steps.l1 k x2 (x9 ++ [(⟨x10, false, (⟨(rd_T35 x51 x53).f0, (rd_T35 x51 x53).f1, (rd_T35 x51 x53).f2⟩ : S35)⟩ : S37)]) x10 x23 x24 x25 x51 x52 (wrap64 (x53 + 1)) x184000 x184001 x184002 x184003 x184004) else (none)) else (none)) else (none)) else (if x2 = true then (if x9.length < 3518437208883 then (plan_Steps.l0 k x2 (x9 ++ [(⟨x184000, x184001, (⟨x184002, x184003, x184004⟩ : S35)⟩ : S37)]) x23 x24 (wrap64 (x25 + 1))) else (none)) else (plan_Steps.l0 k x2 x9 x23 x24 (wrap64 (x25 + 1))))
end
def plan_Steps.f (k : Nat) (a0 : Int) (l1 : List (S33)) (a2 : Bool) : Option ((List (S37)) × Int) := (grid_Check.f k a0 l1).bind fun t176 => (if t176 = 0 then (plan_Steps.l0 k a2 ([] : List (S37)) l1 (l1.length : Int) 0) else (some (([] : List (S37)), t176)))
theorem plan_Steps.mono_l : ∀ k, (∀ y0 y1 y2 y3 y4, LeO (plan_Steps.l0 k y0 y1 y2 y3 y4) (plan_Steps.l0 (k + 1) y0 y1 y2 y3 y4)) ∧ (∀ y0 y1 y2 y3 y4 y5 y6 y7 y8 y9 y10 y11 y12, LeO (plan_Steps.j1 k y0 y1 y2 y3 y4 y5 y6 y7 y8 y9 y10 y11 y12) (plan_Steps.j1 (k + 1) y0 y1 y2 y3 y4 y5 y6 y7 y8 y9 y10 y11 y12)) ∧ (∀ y0 y1 y2 y3 y4 y5 y6 y7 y8 y9 y10 y11, LeO (plan_Steps.j2 k y0 y1 y2 y3 y4 y5 y6 y7 y8 y9 y10 y11) (plan_Steps.j2 (k + 1) y0 y1 y2 y3 y4 y5 y6 y7 y8 y9 y10 y11)) ∧ (∀ y0 y1 y2 y3 y4 y5 y6 y7 y8 y9 y10 y11 y12 y13, LeO (plan_Steps.l1 k y0 y1 y2 y3 y4 y5 y6 y7 y8 y9 y10 y11 y12 y13) (plan_Steps.l1 (k + 1) y0 y1 y2 y3 y4 y5 y6 y7 y8 y9 y10 y11 y12 y13))
  | 0 => ⟨fun _ _ _ _ _ r h => by simp [plan_Steps.l0] at h, fun _ _ _ _ _ _ _ _ _ _ _ _ _ r h => by simp [plan_Steps.j1] at h, fun _ _ _ _ _ _ _ _ _ _ _ _ r h => by simp [plan_Steps.j2] at h, fun _ _ _ _ _ _ _ _ _ _ _ _ _ _ r h => by simp [plan_Steps.l1] at h⟩
  | k + 1 => by
    obtain ⟨ih0, ih1, ih2, ih3⟩ := plan_Steps.mono_l k
    refine ⟨?_, ?_, ?_, ?_⟩
    · intro y0 y1 y2 y3 y4
      unfold plan_Steps.l0
      repeat' first
      | (with_reducible exact ih0 _ _ _ _ _)
      | (with_reducible exact ih1 _ _ _ _ _ _ _ _ _ _ _ _ _)
      | (with_reducible exact ih2 _ _ _ _ _ _ _ _ _ _ _ _)
      | (with_reducible exact ih3 _ _ _ _ _ _ _ _ _ _ _ _ _ _)
      | (with_reducible exact factor_Stages.mono _ _)
      | (with_reducible exact grid_Check.mono _ _ _)
      | (with_reducible exact LeO.refl _)
      | (with_reducible exact LeO.none _)
      | (with_reducible refine LeO.ite ?_ ?_)
      | (with_reducible refine LeO.bind ?_ (fun _ => ?_))
      | exact ih0 _ _ _ _ _
      | exact ih1 _ _ _ _ _ _ _ _ _ _ _ _ _
      | exact ih2 _ _ _ _ _ _ _ _ _ _ _ _
      | exact ih3 _ _ _ _ _ _ _ _ _ _ _ _ _ _
      | exact factor_Stages.mono _ _
      | exact grid_Check.mono _ _ _
      | exact LeO.none _
      | refine LeO.ite ?_ ?_
      | refine LeO.bind ?_ (fun _ => ?_)
    · intro y0 y1 y2 y3 y4 y5 y6 y7 y8 y9 y10 y11 y12
      unfold plan_Steps.j1
      repeat' first
      | (with_reducible exact ih0 _ _ _ _ _)
      | (with_reducible exact ih1 _ _ _ _ _ _ _ _ _ _ _ _ _)
      | (with_reducible exact ih2 _ _ _ _ _ _ _ _ _ _ _ _)
      | (with_reducible exact ih3 _ _ _ _ _ _ _ _ _ _ _ _ _ _)
      | (with_reducible exact factor_Stages.mono _ _)
      | (with_reducible exact grid_Check.mono _ _ _)
      | (with_reducible exact LeO.refl _)
      | (with_reducible exact LeO.none _)
      | (with_reducible refine LeO.ite ?_ ?_)
      | (with_reducible refine LeO.bind ?_ (fun _ => ?_))
      | exact ih0 _ _ _ _ _
      | exact ih1 _ _ _ _ _ _ _ _ _ _ _ _ _
      | exact ih2 _ _ _ _ _ _ _ _ _ _ _ _
      | exact ih3 _ _ _ _ _ _ _ _ _ _ _ _ _ _
      | exact factor_Stages.mono _ _
      | exact grid_Check.mono _ _ _
      | exact LeO.none _
      | refine LeO.ite ?_ ?_
      | refine LeO.bind ?_ (fun _ => ?_)
    · intro y0 y1 y2 y3 y4 y5 y6 y7 y8 y9 y10 y11
      unfold plan_Steps.j2
      repeat' first
      | (with_reducible exact ih0 _ _ _ _ _)
      | (with_reducible exact ih1 _ _ _ _ _ _ _ _ _ _ _ _ _)
      | (with_reducible exact ih2 _ _ _ _ _ _ _ _ _ _ _ _)
      | (with_reducible exact ih3 _ _ _ _ _ _ _ _ _ _ _ _ _ _)
      | (with_reducible exact factor_Stages.mono _ _)
      | (with_reducible exact grid_Check.mono _ _ _)
      | (with_reducible exact LeO.refl _)
      | (with_reducible exact LeO.none _)
      | (with_reducible refine LeO.ite ?_ ?_)
      | (with_reducible refine LeO.bind ?_ (fun _ => ?_))
      | exact ih0 _ _ _ _ _
      | exact ih1 _ _ _ _ _ _ _ _ _ _ _ _ _
      | exact ih2 _ _ _ _ _ _ _ _ _ _ _ _
      | exact ih3 _ _ _ _ _ _ _ _ _ _ _ _ _ _
      | exact factor_Stages.mono _ _
      | exact grid_Check.mono _ _ _
      | exact LeO.none _
      | refine LeO.ite ?_ ?_
      | refine LeO.bind ?_ (fun _ => ?_)
    · intro y0 y1 y2 y3 y4 y5 y6 y7 y8 y9 y10 y11 y12 y13
      unfold plan_Steps.l1
      repeat' first
      | (with_reducible exact ih0 _ _ _ _ _)
      | (with_reducible exact ih1 _ _ _ _ _ _ _ _ _ _ _ _ _)
      | (with_reducible exact ih2 _ _ _ _ _ _ _ _ _ _ _ _)
      | (with_reducible exact ih3 _ _ _ _ _ _ _ _ _ _ _ _ _ _)
      | (with_reducible exact factor_Stages.mono _ _)
      | (with_reducible exact grid_Check.mono _ _ _)
      | (with_reducible exact LeO.refl _)
      | (with_reducible exact LeO.none _)
      | (with_reducible refine LeO.ite ?_ ?_)
      | (with_reducible refine LeO.bind ?_ (fun _ => ?_))
      | exact ih0 _ _ _ _ _
      | exact ih1 _ _ _ _ _ _ _ _ _ _ _ _ _
      | exact ih2 _ _ _ _ _ _ _ _ _ _ _ _
      | exact ih3 _ _ _ _ _ _ _ _ _ _ _ _ _ _
      | exact factor_Stages.mono _ _
      | exact grid_Check.mono _ _ _
      | exact LeO.none _
      | refine LeO.ite ?_ ?_
      | refine LeO.bind ?_ (fun _ => ?_)
theorem plan_Steps.mono : ∀ a0 a1 a2 k, LeO (plan_Steps.f k a0 a1 a2) (plan_Steps.f (k + 1) a0 a1 a2) := by
  intro a0 a1 a2 k
  obtain ⟨ih0, ih1, ih2, ih3⟩ := plan_Steps.mono_l k
  unfold plan_Steps.f
  repeat' first
      | (with_reducible exact ih0 _ _ _ _ _)
      | (with_reducible exact ih1 _ _ _ _ _ _ _ _ _ _ _ _ _)
      | (with_reducible exact ih2 _ _ _ _ _ _ _ _ _ _ _ _)
      | (with_reducible exact ih3 _ _ _ _ _ _ _ _ _ _ _ _ _ _)
      | (with_reducible exact factor_Stages.mono _ _)
      | (with_reducible exact grid_Check.mono _ _ _)
      | (with_reducible exact LeO.refl _)
      | (with_reducible exact LeO.none _)
      | (with_reducible refine LeO.ite ?_ ?_)
      | (with_reducible refine LeO.bind ?_ (fun _ => ?_))
      | exact ih0 _ _ _ _ _
      | exact ih1 _ _ _ _ _ _ _ _ _ _ _ _ _
      | exact ih2 _ _ _ _ _ _ _ _ _ _ _ _
      | exact ih3 _ _ _ _ _ _ _ _ _ _ _ _ _ _
      | exact factor_Stages.mono _ _
      | exact grid_Check.mono _ _ _
      | exact LeO.none _
      | refine LeO.ite ?_ ?_
      | refine LeO.bind ?_ (fun _ => ?_)
set_option maxHeartbeats 8000000 in
set_option maxRecDepth 100000 in
theorem plan_Steps.calls (k : Nat) (a0 : Int) (A1 : Option Addr) (c1 : Nat) (l1 : List (S33)) (a2 : Bool) (r1 : List (S37)) (r2 : Int) (w : World) (hG : Tab w) (hr1 : Kd.C k33 w A1 l1.length l1) (hc1 : l1.length ≤ c1) (h : plan_Steps.f k a0 l1 a2 = some (r1, r2)) :
    Calls Tryd.prog 10 #[.int .u64 a0, .slice A1 l1.length c1, .bool a2] w fun e w' => ∃ v0_ : Value, e = .returned (.tuple #[v0_, .int .i64 r2]) ∧ Kd.R k37 37 w' w.heap.size (fun _ => True) v0_ r1 ∧ Below w.heap.size w w' := by
  have HG := Aside0.mk hG
  clear hG
  have hu33 := Tryd.underlying33
  have hu37 := Tryd.underlying37
  have hu35 := Tryd.underlying35
  have HR1 := Aside0.mk hr1
  have HC1 := Aside0.mk hc1
  clear hr1 hc1
  have HB := Aside0.mk (Below.refl w.heap.size w)
  have H : ((grid_Check.f k a0 l1).bind fun t176 => (if t176 = 0 then (plan_Steps.l0 k a2 ([] : List (S37)) l1 (l1.length : Int) 0) else (some (([] : List (S37)), t176)))) = some (r1, r2) := h
  clear h
  replace H := Option.bind_eq_some_iff.mp H
  obtain ⟨t176, A40, H⟩ := H
  replace H : (if t176 = 0 then (plan_Steps.l0 k a2 ([] : List (S37)) l1 (l1.length : Int) 0) else (some (([] : List (S37)), t176))) = some (r1, r2) := H
  have A4 := Aside0.mk A40
  clear A40
  by_cases c5 : t176 = 0
  · rw [if_pos c5] at H
    have c5b0 : (t176 == 0) = true := beq_iff_eq.mpr c5
    have c5b1 : (t176 != 0) = false := bne_eq_false_iff_eq.mpr c5
    clear c5
    have H' := Aside0.mk H
    clear H
    go_enter Tryd.func10, Tryd.ntmps10
    go_wp2_with (first | ((with_reducible refine gate_callee (f := 28) rfl ?_); refine goesL_ (some 19) rfl rfl Tryd.func28 (by kernel_rfl) rfl #[.int .u64 a0, .slice A1 l1.length c1] rfl (by (try simp only [List.map_toArray, List.map_cons, List.map_nil]); first | done | rfl | (simp only [List.length_drop, List.length_take]; rfl)) ?_; (with_reducible refine (grid_Check.calls (hG := ?sideG) k a0 _ _ l1 t176 _ ?side1 ?side2 A4.out).mono ?_); (case sideG => exact tab_below HG.out (by repeat (first | (with_reducible first | exact HB.out | apply below_alloc | apply pw_below_drewN | apply below_drew1) | exact HB.out))); (case side1 => repeat (first | exact HR1.out | (with_reducible refine Kd.C_alloc ?_ _) | (with_reducible refine Kd.C_drewN ?_ _) | (with_reducible refine Kd.C_drew ?_))); (case side2 => exact HC1.out); rintro e w6 ⟨rfl, hb⟩; refine ⟨_, rfl, ?_⟩; have n0_ := Aside0.mk (below_step (by repeat (first | (with_reducible first | exact HB.out | apply below_alloc | apply pw_below_drewN | apply below_drew1) | exact HB.out)) hb); clear HB; have HB := n0_; clear n0_; (try clear hb); (try clear hb2); (try clear hk); (try clear hi)))
    go_loopg [9, 25] k (fun kq v9 v25 w' => ∃ (x9_1 : List (S37)) (x25_1 : Int), v25 = .int .i64 x25_1 ∧ Aside0 (plan_Steps.l0 kq a2 x9_1 l1 (l1.length : Int) x25_1 = some (r1, r2)) ∧ Aside0 (kq ≤ k) ∧ Aside0 (Kd.R k37 37 w' w.heap.size (fun _ => True) v9 x9_1) ∧ Aside0 (Below w.heap.size w w'))
    case atStart => exact ⟨(([] : List (S37))), (0), (by first | rfl | (simp; done) | (simp [*]; done)), H', ⟨Nat.le_refl _⟩, ⟨by first | exact Kd.R_nil _ _ _ _ _ | exact Kd.N_nil _ _ _ _ _ | exact Kd.V_nil _ _ _ _ _ | exact Kd.Q_nil _ _ _ _ _ | exact Kd.S_nil _ _ _ _ _⟩, ⟨by repeat (first | (with_reducible first | exact HB.out | apply below_alloc | apply pw_below_drewN | apply below_drew1) | exact HB.out)⟩⟩
    case round =>
      clear H'
      try clear c1
      try clear c2
      try clear p2
      try clear c5
      try clear c5b0
      try clear c5b1
      obtain ⟨x9_1, x25_1, rfl, HA, HK1, HO_9, HB⟩ := hrel
      cases gk with
      | zero => exact absurd HA.out (by simp [plan_Steps.l0])
      | succ k1 =>
        have H := HA.out
        clear HA
        simp only [plan_Steps.l0] at H
        by_cases c7 : x25_1 < (l1.length : Int)
        · rw [if_pos c7] at H
          have c7b0 : decide (x25_1 < (l1.length : Int)) = true := decide_eq_true c7
          clear c7
          by_cases c8 : 0 ≤ x25_1
          · rw [if_pos c8] at H
            have c8b0 : decide (0 ≤ x25_1) = true := decide_eq_true c8
            clear c8
            by_cases c9 : x25_1 < (l1.length : Int)
            · rw [if_pos c9] at H
              have c9b0 : decide (x25_1 < (l1.length : Int)) = true := decide_eq_true c9
              clear c9
              replace H := Option.bind_eq_some_iff.mp H
              obtain ⟨⟨t179, t180⟩, A100, H⟩ := H
              replace H : (if t180 = 0 then (if (rd_T33 l1 x25_1).f1 = true then (plan_Steps.j1 k1 a2 x9_1 x25_1 t179 l1 (l1.length : Int) x25_1 (!a2) x25_1 true 0 0 0) else (plan_Steps.j1 k1 a2 x9_1 x25_1 t179 l1 (l1.length : Int) x25_1 false x25_1 true 0 0 0)) else (some (([] : List (S37)), t180))) = some (r1, r2) := H
              have A10 := Aside0.mk A100
              clear A100
              by_cases c11 : t180 = 0
              · rw [if_pos c11] at H
                have c11b0 : (t180 == 0) = true := beq_iff_eq.mpr c11
                have c11b1 : (t180 != 0) = false := bne_eq_false_iff_eq.mpr c11
                clear c11
                have HC12 := Aside0.mk H
                clear H
                have p177 : 0 ≤ (x25_1 : Int) := of_decide_eq_true (by first | (with_reducible assumption) | assumption)
                have q177 : x25_1 < (l1.length : Int) := of_decide_eq_true (by first | (with_reducible assumption) | assumption)
                obtain ⟨ad177, e177, hx177_0, hx177_1⟩ := at_T33 HR1.out x25_1 p177 q177
                cases e177
                replace hx177_0 := (HB.out.cell (World.block_lt_of_cell? w _ hx177_0)).trans hx177_0
                replace hx177_1 := (HB.out.cell (World.block_lt_of_cell? w _ hx177_1)).trans hx177_1
                replace p177 := eq_true p177
                replace q177 := eq_true q177
                go_upto_region 12 with (first | ((with_reducible refine gate_dst (N := 11) rfl ?_); refine box_event ?hg (N := 11) ?hd (cs := #[.int .i64 0, .bool false]) (t := 33) ?hr ?_; (case hd => rfl); (case hg => rfl); (case hr => first | (go_simp; done) | (go_simp; rfl)); intro gb178 hg w13 hbox hb; have n0_ := Aside0.mk (Kd.R_below (by (with_reducible repeat (first | apply Kd.R_alloc | apply Kd.R_drewN | apply Kd.R_drew)); exact HO_9.out) hb); have n1_ := Aside0.mk (below_step (by repeat (first | (with_reducible first | exact HB.out | apply below_alloc | apply pw_below_drewN | apply below_drew1) | exact HB.out)) hb); have n2_ := Aside0.mk (hbox); have n3_ := Aside0.mk ((by rw [hg]; exact (below_size (by repeat (first | (with_reducible first | exact HB.out | apply below_alloc | apply pw_below_drewN | apply below_drew1) | exact HB.out))) : w.heap.size ≤ gb178)); have n4_ := Aside0.mk ((by rw [hg]; exact (below_size (by repeat (first | (with_reducible first | exact HB.out | apply below_alloc | apply pw_below_drewN | apply below_drew1) | exact HB.out))) : w.heap.size ≤ gb178)); clear HO_9; clear HB; have HO_9 := n0_; have HB := n1_; have BK178 := n2_; have GW178 := n3_; have GE178 := n4_; clear n0_ n1_ n2_ n3_ n4_; clear hb hbox hg; have hcz14_0 : w13.cell? ⟨gb178, 0, none⟩ = some (.int .i64 0) := (blk_cell BK178.out 0).trans rfl; have hcz14_1 : w13.cell? ⟨gb178, 1, none⟩ = some (.bool false) := (blk_cell BK178.out 1).trans rfl; have hfz14_0 := blk_frozen BK178.out 0; have hfz14_1 := blk_frozen BK178.out 1) | ((with_reducible refine gate_callee (f := 29) rfl ?_); refine goesL_ (some 33) rfl rfl Tryd.func29 (by kernel_rfl) rfl #[.int .i64 ((rd_T33 l1 x25_1).f0)] rfl (by (try simp only [List.map_toArray, List.map_cons, List.map_nil]); first | done | rfl | (simp only [List.length_drop, List.length_take]; rfl)) ?_; (with_reducible refine (factor_Stages.calls (hG := ?sideG) k1 ((rd_T33 l1 x25_1).f0) t179 t180 _ A10.out).mono ?_); (case sideG => exact tab_below HG.out (by repeat (first | (with_reducible first | exact HB.out | apply below_alloc | apply pw_below_drewN | apply below_drew1 | refine below_set ?_ GE178.out) | exact HB.out))); rintro e w15 ⟨v181, rfl, ho0, hb⟩; refine ⟨_, rfl, ?_⟩; have n0_ := Aside0.mk (Kd.R_below (by (with_reducible repeat (first | apply Kd.R_alloc | apply Kd.R_drewN | apply Kd.R_drew)); exact (Kd.R_mono (Kd.R_far (p := ⟨gb178, 1, none⟩) (Kd.R_far (p := ⟨gb178, 0, none⟩) (Kd.R_types HO_9.out BK178.out (by decide)) (fun _ hk => hk.2) (.int .i64 ((rd_T33 l1 x25_1).f0))) (fun _ hk => hk.2) (.bool ((rd_T33 l1 x25_1).f1))) (fun _ h_ => h_.1))) hb); have n1_ := Aside0.mk (Kd.R_lower ho0 (below_size (by repeat (first | (with_reducible first | exact HB.out | apply below_alloc | apply pw_below_drewN | apply below_drew1 | refine below_set ?_ GE178.out) | exact HB.out)))); have n2_ := Aside0.mk (blk_below (g := gb178) (o := .cells #[.int .i64 ((rd_T33 l1 x25_1).f0), .bool ((rd_T33 l1 x25_1).f1)] 33 (0, 0)) (by (with_reducible repeat (first | refine blk_drewN ?_ _ | refine blk_drew ?_ | refine blk_alloc ?_ _)); refine blk_put (cs := #[.int .i64 ((rd_T33 l1 x25_1).f0), .bool false]) ?_ 1 _ rfl; (with_reducible repeat (first | refine blk_drewN ?_ _ | refine blk_drew ?_ | refine blk_alloc ?_ _)); refine blk_put (cs := #[.int .i64 0, .bool false]) ?_ 0 _ rfl; (with_reducible repeat (first | refine blk_drewN ?_ _ | refine blk_drew ?_ | refine blk_alloc ?_ _)); exact BK178.out) hb); have n3_ := Aside0.mk (below_step (by repeat (first | (with_reducible first | exact HB.out | apply below_alloc | apply pw_below_drewN | apply below_drew1 | refine below_set ?_ GE178.out) | exact HB.out)) hb); clear HO_9; clear BK178; clear HB; have HO_9 := n0_; have HO182 := n1_; have BK178 := n2_; have HB := n3_; clear n0_ n1_ n2_ n3_; (try clear hb); (try clear hb2); (try clear hk); (try clear hi); (try clear ho0)) | ((with_reducible refine gate_dst (N := 14) rfl ?_); refine box_event ?hg (N := 14) ?hd (cs := #[.int .i64 0, .bool false, .int .i64 0, .int .i64 0, .int .i64 0]) (t := 37) ?hr ?_; (case hd => rfl); (case hg => rfl); (case hr => first | (go_simp; done) | (go_simp; rfl)); intro gb183 hg w16 hbox hb; have n0_ := Aside0.mk (Kd.R_below (Kd.R_elderB (by (with_reducible repeat (first | apply Kd.R_alloc | apply Kd.R_drewN | apply Kd.R_drew)); exact HO_9.out) gb183 (Nat.le_of_eq hg.symm)) hb); have n1_ := Aside0.mk (Kd.R_below (by (with_reducible repeat (first | apply Kd.R_alloc | apply Kd.R_drewN | apply Kd.R_drew)); exact HO182.out) hb); have n2_ := Aside0.mk (blk_below (g := gb178) (o := .cells #[.int .i64 ((rd_T33 l1 x25_1).f0), .bool ((rd_T33 l1 x25_1).f1)] 33 (0, 0)) (by (with_reducible repeat (first | refine blk_drewN ?_ _ | refine blk_drew ?_ | refine blk_alloc ?_ _)); exact BK178.out) hb); have n3_ := Aside0.mk (below_step (by repeat (first | (with_reducible first | exact HB.out | apply below_alloc | apply pw_below_drewN | apply below_drew1 | refine below_set ?_ GE178.out) | exact HB.out)) hb); have n4_ := Aside0.mk (hbox); have n5_ := Aside0.mk ((by rw [hg]; exact (below_size (by repeat (first | (with_reducible first | exact HB.out | apply below_alloc | apply pw_below_drewN | apply below_drew1 | refine below_set ?_ GE178.out) | exact HB.out))) : w.heap.size ≤ gb183)); have n6_ := Aside0.mk ((by rw [hg]; exact (below_size (by repeat (first | (with_reducible first | exact HB.out | apply below_alloc | apply pw_below_drewN | apply below_drew1 | refine below_set ?_ GE178.out) | exact HB.out))) : w.heap.size ≤ gb183)); have n7_ := Aside0.mk ((by rw [hg]; exact Nat.ne_of_lt (blk_lt (g := gb178) (o := .cells #[.int .i64 ((rd_T33 l1 x25_1).f0), .bool ((rd_T33 l1 x25_1).f1)] 33 (0, 0)) (by (with_reducible repeat (first | refine blk_drewN ?_ _ | refine blk_drew ?_ | refine blk_alloc ?_ _)); exact BK178.out)) : gb178 ≠ gb183)); have n8_ := Aside0.mk ((by rw [hg]; exact Nat.ne_of_gt (blk_lt (g := gb178) (o := .cells #[.int .i64 ((rd_T33 l1 x25_1).f0), .bool ((rd_T33 l1 x25_1).f1)] 33 (0, 0)) (by (with_reducible repeat (first | refine blk_drewN ?_ _ | refine blk_drew ?_ | refine blk_alloc ?_ _)); exact BK178.out)) : gb183 ≠ gb178)); clear HO_9; clear HO182; clear BK178; clear HB; have HO_9 := n0_; have HO182 := n1_; have BK178 := n2_; have HB := n3_; have BK183 := n4_; have GW183 := n5_; have GE183 := n6_; have NB178_183 := n7_; have NB183_178 := n8_; clear n0_ n1_ n2_ n3_ n4_ n5_ n6_ n7_ n8_; clear hb hbox hg; have hnb17 := NB183_178.out; have hnc17 := NB178_183.out; have hcz18_0 : w16.cell? ⟨gb183, 0, none⟩ = some (.int .i64 0) := (blk_cell BK183.out 0).trans rfl; have hcz18_1 : w16.cell? ⟨gb183, 1, none⟩ = some (.bool false) := (blk_cell BK183.out 1).trans rfl; have hcz18_2 : w16.cell? ⟨gb183, 2, none⟩ = some (.int .i64 0) := (blk_cell BK183.out 2).trans rfl; have hcz18_3 : w16.cell? ⟨gb183, 3, none⟩ = some (.int .i64 0) := (blk_cell BK183.out 3).trans rfl; have hcz18_4 : w16.cell? ⟨gb183, 4, none⟩ = some (.int .i64 0) := (blk_cell BK183.out 4).trans rfl; have hfz18_0 := blk_frozen BK183.out 0; have hfz18_1 := blk_frozen BK183.out 1; have hfz18_2 := blk_frozen BK183.out 2; have hfz18_3 := blk_frozen BK183.out 3; have hfz18_4 := blk_frozen BK183.out 4))
                (try simp only [Act.put, List.setIfInBounds_toArray, List.set_cons_zero, List.set_cons_succ])
                go_cut [46] (fun v46 wc => ∃ (kq : Nat) (x46_11 : Bool), v46 = .bool x46_11 ∧ Aside0 (plan_Steps.j1 kq a2 x9_1 x25_1 t179 l1 (l1.length : Int) x25_1 x46_11 x25_1 true 0 0 0 = some (r1, r2)) ∧ Aside0 (kq ≤ k1) ∧ Aside0 (Kd.R k37 37 wc w.heap.size (fun k_ => k_ ≠ gb183) u9 x9_1) ∧ Aside0 (Kd.R k35 35 wc w.heap.size (fun _ => True) v181 t179) ∧ Aside0 (wc.heap[gb178]? = some (.cells #[.int .i64 ((rd_T33 l1 x25_1).f0), .bool ((rd_T33 l1 x25_1).f1)] 33 (0, 0))) ∧ Aside0 (wc.heap[gb183]? = some (.cells #[.int .i64 x25_1, .bool true, .int .i64 0, .int .i64 0, .int .i64 0] 37 (0, 0))) ∧ Aside0 (Below w.heap.size w wc))
                case first =>
                  have H := HC12.out
                  clear HC12
                  obtain ⟨bq19, hbq19⟩ : ∃ b_ : Bool, b_ = ((rd_T33 l1 x25_1).f1) := ⟨_, rfl⟩
                  replace H : (if bq19 = true then (plan_Steps.j1 k1 a2 x9_1 x25_1 t179 l1 (l1.length : Int) x25_1 (!a2) x25_1 true 0 0 0) else (plan_Steps.j1 k1 a2 x9_1 x25_1 t179 l1 (l1.length : Int) x25_1 false x25_1 true 0 0 0)) = some (r1, r2) := by rw [← hbq19] at H; exact H
                  have Nbq19 := Aside0.mk hbq19
                  clear hbq19
                  (try rw [← Nbq19.out])
                  by_cases c20 : bq19 = true
                  · subst c20
                    have H1 : (plan_Steps.j1 k1 a2 x9_1 x25_1 t179 l1 (l1.length : Int) x25_1 (!a2) x25_1 true 0 0 0) = some (r1, r2) := by rw [if_pos rfl] at H; exact H
                    clear H
                    have H := H1
                    clear H1
                    have H' := Aside0.mk H
                    clear H
                    have hnb21 := NB178_183.out
                    have hnc21 := NB183_178.out
                    have hcz22_0 : w16.cell? ⟨gb178, 0, none⟩ = some (.int .i64 ((rd_T33 l1 x25_1).f0)) := (blk_cell BK178.out 0).trans rfl
                    have hcz22_1 : w16.cell? ⟨gb178, 1, none⟩ = some (.bool true) := (blk_cell BK178.out 1).trans (by first | rfl | (rw [← Nbq19.out]; rfl))
                    have hfz22_0 := blk_frozen BK178.out 0
                    have hfz22_1 := blk_frozen BK178.out 1
                    go_wp2
                    go_meet
                    (try rw [← Nbq19.out])
                    case rel => exact ⟨_, (!a2), (by first | rfl | (simp; done) | (simp [*]; done)), H', ⟨by have := HK1.out; first | omega | exact Nat.le_refl _⟩, ⟨by (with_reducible repeat (first | apply Kd.R_alloc | apply Kd.R_drewN | apply Kd.R_drew)); exact Kd.R_mono (Kd.R_far (p := ⟨gb183, 4, none⟩) (Kd.R_far (p := ⟨gb183, 3, none⟩) (Kd.R_far (p := ⟨gb183, 2, none⟩) (Kd.R_far (p := ⟨gb183, 1, none⟩) (Kd.R_far (p := ⟨gb183, 0, none⟩) (Kd.R_mono HO_9.out (fun k_ hk => (⟨hk, hk.2⟩ : _ ∧ k_ ≠ gb183))) (fun _ hk => hk.2) (.int .i64 x25_1)) (fun _ hk => hk.2) (.bool true)) (fun _ hk => hk.2) (.int .i64 0)) (fun _ hk => hk.2) (.int .i64 0)) (fun _ hk => hk.2) (.int .i64 0)) (fun _ hk => hk.1.2)⟩, ⟨by (with_reducible repeat (first | apply Kd.R_alloc | apply Kd.R_drewN | apply Kd.R_drew)); exact Kd.R_mono (Kd.R_far (p := ⟨gb183, 4, none⟩) (Kd.R_far (p := ⟨gb183, 3, none⟩) (Kd.R_far (p := ⟨gb183, 2, none⟩) (Kd.R_far (p := ⟨gb183, 1, none⟩) (Kd.R_far (p := ⟨gb183, 0, none⟩) (Kd.R_types HO182.out BK183.out (by decide)) (fun _ hk => hk.2) (.int .i64 x25_1)) (fun _ hk => hk.2) (.bool true)) (fun _ hk => hk.2) (.int .i64 0)) (fun _ hk => hk.2) (.int .i64 0)) (fun _ hk => hk.2) (.int .i64 0)) (fun _ hk => trivial)⟩, ⟨by (with_reducible repeat (first | refine blk_drewN ?_ _ | refine blk_drew ?_ | refine blk_alloc ?_ _)); refine blk_far ?_ NB178_183.out _; (with_reducible repeat (first | refine blk_drewN ?_ _ | refine blk_drew ?_ | refine blk_alloc ?_ _)); refine blk_far ?_ NB178_183.out _; (with_reducible repeat (first | refine blk_drewN ?_ _ | refine blk_drew ?_ | refine blk_alloc ?_ _)); refine blk_far ?_ NB178_183.out _; (with_reducible repeat (first | refine blk_drewN ?_ _ | refine blk_drew ?_ | refine blk_alloc ?_ _)); refine blk_far ?_ NB178_183.out _; (with_reducible repeat (first | refine blk_drewN ?_ _ | refine blk_drew ?_ | refine blk_alloc ?_ _)); refine blk_far ?_ NB178_183.out _; (with_reducible repeat (first | refine blk_drewN ?_ _ | refine blk_drew ?_ | refine blk_alloc ?_ _)); (first | exact BK178.out | (have hq_ := BK178.out; first | (rw [← Nbq19.out] at hq_; exact hq_)))⟩, ⟨by (with_reducible repeat (first | refine blk_drewN ?_ _ | refine blk_drew ?_ | refine blk_alloc ?_ _)); refine blk_put (cs := #[.int .i64 x25_1, .bool true, .int .i64 0, .int .i64 0, .int .i64 0]) ?_ 4 _ rfl; (with_reducible repeat (first | refine blk_drewN ?_ _ | refine blk_drew ?_ | refine blk_alloc ?_ _)); refine blk_put (cs := #[.int .i64 x25_1, .bool true, .int .i64 0, .int .i64 0, .int .i64 0]) ?_ 3 _ rfl; (with_reducible repeat (first | refine blk_drewN ?_ _ | refine blk_drew ?_ | refine blk_alloc ?_ _)); refine blk_put (cs := #[.int .i64 x25_1, .bool true, .int .i64 0, .int .i64 0, .int .i64 0]) ?_ 2 _ rfl; (with_reducible repeat (first | refine blk_drewN ?_ _ | refine blk_drew ?_ | refine blk_alloc ?_ _)); refine blk_put (cs := #[.int .i64 x25_1, .bool false, .int .i64 0, .int .i64 0, .int .i64 0]) ?_ 1 _ rfl; (with_reducible repeat (first | refine blk_drewN ?_ _ | refine blk_drew ?_ | refine blk_alloc ?_ _)); refine blk_put (cs := #[.int .i64 0, .bool false, .int .i64 0, .int .i64 0, .int .i64 0]) ?_ 0 _ rfl; (with_reducible repeat (first | refine blk_drewN ?_ _ | refine blk_drew ?_ | refine blk_alloc ?_ _)); (first | exact BK183.out | (have hq_ := BK183.out; first | (rw [← Nbq19.out] at hq_; exact hq_)))⟩, ⟨by repeat (first | (with_reducible first | exact HB.out | apply below_alloc | apply pw_below_drewN | apply below_drew1 | refine below_set ?_ GE178.out | refine below_set ?_ GE183.out) | exact HB.out)⟩⟩
                  · replace c20 := Bool.eq_false_iff.mpr c20
                    subst c20
                    have H1 : (plan_Steps.j1 k1 a2 x9_1 x25_1 t179 l1 (l1.length : Int) x25_1 false x25_1 true 0 0 0) = some (r1, r2) := by rw [if_neg (show ¬ (false = true) by decide)] at H; exact H
                    clear H
                    have H := H1
                    clear H1
                    have H' := Aside0.mk H
                    clear H
                    have hnb23 := NB178_183.out
                    have hnc23 := NB183_178.out
                    have hcz24_0 : w16.cell? ⟨gb178, 0, none⟩ = some (.int .i64 ((rd_T33 l1 x25_1).f0)) := (blk_cell BK178.out 0).trans rfl
                    have hcz24_1 : w16.cell? ⟨gb178, 1, none⟩ = some (.bool false) := (blk_cell BK178.out 1).trans (by first | rfl | (rw [← Nbq19.out]; rfl))
                    have hfz24_0 := blk_frozen BK178.out 0
                    have hfz24_1 := blk_frozen BK178.out 1
                    go_wp2
                    go_meet
                    (try rw [← Nbq19.out])
                    case rel => exact ⟨_, (false), (by first | rfl | (simp; done) | (simp [*]; done)), H', ⟨by have := HK1.out; first | omega | exact Nat.le_refl _⟩, ⟨by (with_reducible repeat (first | apply Kd.R_alloc | apply Kd.R_drewN | apply Kd.R_drew)); exact Kd.R_mono (Kd.R_far (p := ⟨gb183, 4, none⟩) (Kd.R_far (p := ⟨gb183, 3, none⟩) (Kd.R_far (p := ⟨gb183, 2, none⟩) (Kd.R_far (p := ⟨gb183, 1, none⟩) (Kd.R_far (p := ⟨gb183, 0, none⟩) (Kd.R_mono HO_9.out (fun k_ hk => (⟨hk, hk.2⟩ : _ ∧ k_ ≠ gb183))) (fun _ hk => hk.2) (.int .i64 x25_1)) (fun _ hk => hk.2) (.bool true)) (fun _ hk => hk.2) (.int .i64 0)) (fun _ hk => hk.2) (.int .i64 0)) (fun _ hk => hk.2) (.int .i64 0)) (fun _ hk => hk.1.2)⟩, ⟨by (with_reducible repeat (first | apply Kd.R_alloc | apply Kd.R_drewN | apply Kd.R_drew)); exact Kd.R_mono (Kd.R_far (p := ⟨gb183, 4, none⟩) (Kd.R_far (p := ⟨gb183, 3, none⟩) (Kd.R_far (p := ⟨gb183, 2, none⟩) (Kd.R_far (p := ⟨gb183, 1, none⟩) (Kd.R_far (p := ⟨gb183, 0, none⟩) (Kd.R_types HO182.out BK183.out (by decide)) (fun _ hk => hk.2) (.int .i64 x25_1)) (fun _ hk => hk.2) (.bool true)) (fun _ hk => hk.2) (.int .i64 0)) (fun _ hk => hk.2) (.int .i64 0)) (fun _ hk => hk.2) (.int .i64 0)) (fun _ hk => trivial)⟩, ⟨by (with_reducible repeat (first | refine blk_drewN ?_ _ | refine blk_drew ?_ | refine blk_alloc ?_ _)); refine blk_far ?_ NB178_183.out _; (with_reducible repeat (first | refine blk_drewN ?_ _ | refine blk_drew ?_ | refine blk_alloc ?_ _)); refine blk_far ?_ NB178_183.out _; (with_reducible repeat (first | refine blk_drewN ?_ _ | refine blk_drew ?_ | refine blk_alloc ?_ _)); refine blk_far ?_ NB178_183.out _; (with_reducible repeat (first | refine blk_drewN ?_ _ | refine blk_drew ?_ | refine blk_alloc ?_ _)); refine blk_far ?_ NB178_183.out _; (with_reducible repeat (first | refine blk_drewN ?_ _ | refine blk_drew ?_ | refine blk_alloc ?_ _)); refine blk_far ?_ NB178_183.out _; (with_reducible repeat (first | refine blk_drewN ?_ _ | refine blk_drew ?_ | refine blk_alloc ?_ _)); (first | exact BK178.out | (have hq_ := BK178.out; first | (rw [← Nbq19.out] at hq_; exact hq_)))⟩, ⟨by (with_reducible repeat (first | refine blk_drewN ?_ _ | refine blk_drew ?_ | refine blk_alloc ?_ _)); refine blk_put (cs := #[.int .i64 x25_1, .bool true, .int .i64 0, .int .i64 0, .int .i64 0]) ?_ 4 _ rfl; (with_reducible repeat (first | refine blk_drewN ?_ _ | refine blk_drew ?_ | refine blk_alloc ?_ _)); refine blk_put (cs := #[.int .i64 x25_1, .bool true, .int .i64 0, .int .i64 0, .int .i64 0]) ?_ 3 _ rfl; (with_reducible repeat (first | refine blk_drewN ?_ _ | refine blk_drew ?_ | refine blk_alloc ?_ _)); refine blk_put (cs := #[.int .i64 x25_1, .bool true, .int .i64 0, .int .i64 0, .int .i64 0]) ?_ 2 _ rfl; (with_reducible repeat (first | refine blk_drewN ?_ _ | refine blk_drew ?_ | refine blk_alloc ?_ _)); refine blk_put (cs := #[.int .i64 x25_1, .bool false, .int .i64 0, .int .i64 0, .int .i64 0]) ?_ 1 _ rfl; (with_reducible repeat (first | refine blk_drewN ?_ _ | refine blk_drew ?_ | refine blk_alloc ?_ _)); refine blk_put (cs := #[.int .i64 0, .bool false, .int .i64 0, .int .i64 0, .int .i64 0]) ?_ 0 _ rfl; (with_reducible repeat (first | refine blk_drewN ?_ _ | refine blk_drew ?_ | refine blk_alloc ?_ _)); (first | exact BK183.out | (have hq_ := BK183.out; first | (rw [← Nbq19.out] at hq_; exact hq_)))⟩, ⟨by repeat (first | (with_reducible first | exact HB.out | apply below_alloc | apply pw_below_drewN | apply below_drew1 | refine below_set ?_ GE178.out | refine below_set ?_ GE183.out) | exact HB.out)⟩⟩
                case rest =>
                  clear HC12
                  try clear c1
                  try clear p1
                  try clear q1
                  try clear hx1
                  try clear c2
                  try clear p2
                  try clear c5
                  try clear c5b0
                  try clear c5b1
                  try clear c7
                  try clear c7b0
                  try clear c8
                  try clear c8b0
                  try clear c9
                  try clear c9b0
                  try clear c10
                  try clear c11
                  try clear c11b0
                  try clear c11b1
                  try clear c17
                  try clear p17
                  try clear q17
                  try clear hx17
                  try clear q19
                  try clear c20
                  try clear c21
                  try clear c23
                  try clear hcz14_0
                  try clear hcz14_1
                  try clear hcz18_0
                  try clear hcz18_1
                  try clear hcz18_2
                  try clear hcz18_3
                  try clear hcz18_4
                  try clear hcz22_0
                  try clear hcz22_1
                  try clear hcz24_0
                  try clear hcz24_1
                  try clear hfz14_0
                  try clear hfz14_1
                  try clear hfz18_0
                  try clear hfz18_1
                  try clear hfz18_2
                  try clear hfz18_3
                  try clear hfz18_4
                  try clear hfz22_0
                  try clear hfz22_1
                  try clear hfz24_0
                  try clear hfz24_1
                  try clear hx177_0
                  try clear hx177_1
                  try clear p177
                  try clear p2
                  try clear q177
                  obtain ⟨kq, x46_11, rfl, HA, HJ11, HO_9, HO_12, BK178, BK183, HB⟩ := hcut
                  cases kq with
                  | zero => exact absurd HA.out (by simp [plan_Steps.j1])
                  | succ kj11 =>
                    have H := HA.out
                    clear HA
                    simp only [plan_Steps.j1] at H
                    have HC25 := Aside0.mk H
                    clear H
                    go_upto_if 46 with (fail)
                    go_cut [9] (fun v9 wc => ∃ (kq : Nat) (x9_24 : List (S37)), Aside0 (plan_Steps.j2 kq a2 x9_24 x25_1 t179 l1 (l1.length : Int) x25_1 x25_1 true 0 0 0 = some (r1, r2)) ∧ Aside0 (kq ≤ kj11) ∧ Aside0 (Kd.R k37 37 wc w.heap.size (fun k_ => k_ ≠ gb183) v9 x9_24) ∧ Aside0 (Kd.R k35 35 wc w.heap.size (fun _ => True) v181 t179) ∧ Aside0 (wc.heap[gb178]? = some (.cells #[.int .i64 ((rd_T33 l1 x25_1).f0), .bool ((rd_T33 l1 x25_1).f1)] 33 (0, 0))) ∧ Aside0 (wc.heap[gb183]? = some (.cells #[.int .i64 x25_1, .bool true, .int .i64 0, .int .i64 0, .int .i64 0] 37 (0, 0))) ∧ Aside0 (Below w.heap.size w wc))
                    case first =>
                      have H := HC25.out
                      clear HC25
                      by_cases c26 : x46_11 = true
                      · subst c26
                        have H1 : (if x9_1.length < 3518437208883 then (plan_Steps.j2 kj11 a2 (x9_1 ++ [(⟨x25_1, true, (⟨0, 0, 0⟩ : S35)⟩ : S37)]) x25_1 t179 l1 (l1.length : Int) x25_1 x25_1 true 0 0 0) else (none)) = some (r1, r2) := by rw [if_pos rfl] at H; exact H
                        clear H
                        have H := H1
                        clear H1
                        by_cases c27 : x9_1.length < 3518437208883
                        · rw [if_pos c27] at H
                          have LMc27 := Aside0.mk c27
                          clear c27
                          obtain ⟨y184, hy184⟩ : ∃ y_ : List (S37), y_ = (x9_1 ++ [(⟨x25_1, true, (⟨0, 0, 0⟩ : S35)⟩ : S37)]) := ⟨_, rfl⟩
                          replace H : (plan_Steps.j2 kj11 a2 y184 x25_1 t179 l1 (l1.length : Int) x25_1 x25_1 true 0 0 0) = some (r1, r2) := by first | (rw [hy184]; with_reducible exact H) | (have H2_ := (Option.bind_some _ _).symm.trans H; rw [hy184]; with_reducible exact H2_) | (have H2_ := (Option.bind_some _ _).symm.trans H; with_reducible exact H2_) | with_reducible exact H | (rw [hy184]; exact H) | exact H
                          have Ny184 := Aside0.mk hy184
                          clear hy184
                          have H' := Aside0.mk H
                          clear H
                          have hnb28 := NB183_178.out
                          have hnc28 := NB178_183.out
                          have hcz29_0 : wc.cell? ⟨gb183, 0, none⟩ = some (.int .i64 x25_1) := (blk_cell BK183.out 0).trans rfl
                          have hcz29_1 : wc.cell? ⟨gb183, 1, none⟩ = some (.bool true) := (blk_cell BK183.out 1).trans (by first | rfl | (rw [← Nbq19.out]; rfl))
                          have hcz29_2 : wc.cell? ⟨gb183, 2, none⟩ = some (.int .i64 0) := (blk_cell BK183.out 2).trans rfl
                          have hcz29_3 : wc.cell? ⟨gb183, 3, none⟩ = some (.int .i64 0) := (blk_cell BK183.out 3).trans rfl
                          have hcz29_4 : wc.cell? ⟨gb183, 4, none⟩ = some (.int .i64 0) := (blk_cell BK183.out 4).trans rfl
                          have hfz29_0 := blk_frozen BK183.out 0
                          have hfz29_1 := blk_frozen BK183.out 1
                          have hfz29_2 := blk_frozen BK183.out 2
                          have hfz29_3 := blk_frozen BK183.out 3
                          have hfz29_4 := blk_frozen BK183.out 4
                          go_wp2_with (first | ((with_reducible refine gate_builtin (b := .append) (xs := #[.tmp 47, .tmp 49]) rfl ?_); at_builtin; refine Kd.R_append k37 (w0 := w) w.heap.size rfl (.tmp 47) (.tmp 49) 29 37 (.agg #[(.int .i64 0), (.bool false), (.int .i64 0), (.int .i64 0), (.int .i64 0)]) 40 rfl Tryd.underlying29 info37 rfl (by decide) (by omega) u9 x9_1 (⟨x25_1, true, (⟨0, 0, 0⟩ : S35)⟩ : S37) [.int .i64 x25_1, .bool true, .int .i64 0, .int .i64 0, .int .i64 0] (fun k_ => k_ ≠ gb183) (fun _ => False) rfl rfl ?aP (fun _ hk => hk.elim) ?aF ?aO ?aB ?aS ?aL ?_; (case aP => exact k37_mkM _ _ _ (⟨x25_1, true, (⟨0, 0, 0⟩ : S35)⟩ : S37)); (case aB => exact (by repeat (first | (with_reducible first | exact HB.out | apply below_alloc | apply pw_below_drewN | apply below_drew1 | refine below_set ?_ GE178.out | refine below_set ?_ GE183.out) | exact HB.out))); (case aF => exact (fun k_ hk => Kd.freshB (g := gb183) (o := .cells #[.int .i64 x25_1, .bool true, .int .i64 0, .int .i64 0, .int .i64 0] 37 (0, 0)) (by (with_reducible repeat (first | refine blk_drewN ?_ _ | refine blk_drew ?_ | refine blk_alloc ?_ _)); exact BK183.out) k_ hk)); (case aO => exact (by (with_reducible repeat (first | apply Kd.R_alloc | apply Kd.R_drewN | apply Kd.R_drew)); exact HO_9.out)); (case aS => exact (below_size (by repeat (first | (with_reducible first | exact HB.out | apply below_alloc | apply pw_below_drewN | apply below_drew1 | refine below_set ?_ GE178.out | refine below_set ?_ GE183.out) | exact HB.out)))); (case aL => have := LMc27.out; omega); intro v185 w30 ho hb hg hat; rw [← Ny184.out] at ho; have n0_ := Aside0.mk (Kd.R_over' (by (with_reducible repeat (first | apply Kd.R_alloc | apply Kd.R_drewN | apply Kd.R_drew)); exact HO_12.out) (Kd.R_typed (by (with_reducible repeat (first | apply Kd.R_alloc | apply Kd.R_drewN | apply Kd.R_drew)); exact HO_9.out)) (by decide) hg); have n1_ := Aside0.mk (blk_grown (g := gb178) (o := .cells #[.int .i64 ((rd_T33 l1 x25_1).f0), .bool ((rd_T33 l1 x25_1).f1)] 33 (0, 0)) (by (with_reducible repeat (first | refine blk_drewN ?_ _ | refine blk_drew ?_ | refine blk_alloc ?_ _)); exact BK178.out) hg (Kd.R_ne HO_9.out BK178.out (by decide))); have n2_ := Aside0.mk (blk_grown (g := gb183) (o := .cells #[.int .i64 x25_1, .bool true, .int .i64 0, .int .i64 0, .int .i64 0] 37 (0, 0)) (by (with_reducible repeat (first | refine blk_drewN ?_ _ | refine blk_drew ?_ | refine blk_alloc ?_ _)); exact BK183.out) hg (Kd.R_away HO_9.out (fun _ hk => hk))); have n3_ := Aside0.mk (hb); have n4_ := Aside0.mk (ho); clear HO_12; clear BK178; clear BK183; clear HB; clear HO_9; have HO_12 := n0_; have BK178 := n1_; have BK183 := n2_; have HB := n3_; have HO186 := n4_; clear n0_ n1_ n2_ n3_ n4_; clear ho hb hg hat))
                          go_meet
                          (try rw [← Nbq19.out])
                          case rel => exact ⟨_, (y184), H', ⟨by have := HK1.out; have := HJ11.out; first | omega | exact Nat.le_refl _⟩, ⟨by (with_reducible repeat (first | apply Kd.R_alloc | apply Kd.R_drewN | apply Kd.R_drew)); exact HO186.out⟩, ⟨by (with_reducible repeat (first | apply Kd.R_alloc | apply Kd.R_drewN | apply Kd.R_drew)); exact HO_12.out⟩, ⟨by (with_reducible repeat (first | refine blk_drewN ?_ _ | refine blk_drew ?_ | refine blk_alloc ?_ _)); (first | exact BK178.out | (have hq_ := BK178.out; first | (rw [← Nbq19.out] at hq_; exact hq_)))⟩, ⟨by (with_reducible repeat (first | refine blk_drewN ?_ _ | refine blk_drew ?_ | refine blk_alloc ?_ _)); (first | exact BK183.out | (have hq_ := BK183.out; first | (rw [← Nbq19.out] at hq_; exact hq_)))⟩, ⟨by repeat (first | (with_reducible first | exact HB.out | apply below_alloc | apply pw_below_drewN | apply below_drew1 | refine below_set ?_ GE178.out | refine below_set ?_ GE183.out) | exact HB.out)⟩⟩
                        · rw [if_neg c27] at H
                          exact absurd H (by simp)
                      · replace c26 := Bool.eq_false_iff.mpr c26
                        subst c26
                        have H1 : (plan_Steps.j2 kj11 a2 x9_1 x25_1 t179 l1 (l1.length : Int) x25_1 x25_1 true 0 0 0) = some (r1, r2) := by rw [if_neg (show ¬ (false = true) by decide)] at H; exact H
                        clear H
                        have H := H1
                        clear H1
                        have H' := Aside0.mk H
                        clear H
                        go_wp2
                        go_meet
                        (try rw [← Nbq19.out])
                        case rel => exact ⟨_, (x9_1), H', ⟨by have := HK1.out; have := HJ11.out; first | omega | exact Nat.le_refl _⟩, ⟨by (with_reducible repeat (first | apply Kd.R_alloc | apply Kd.R_drewN | apply Kd.R_drew)); exact HO_9.out⟩, ⟨by (with_reducible repeat (first | apply Kd.R_alloc | apply Kd.R_drewN | apply Kd.R_drew)); exact HO_12.out⟩, ⟨by (with_reducible repeat (first | refine blk_drewN ?_ _ | refine blk_drew ?_ | refine blk_alloc ?_ _)); (first | exact BK178.out | (have hq_ := BK178.out; first | (rw [← Nbq19.out] at hq_; exact hq_)))⟩, ⟨by (with_reducible repeat (first | refine blk_drewN ?_ _ | refine blk_drew ?_ | refine blk_alloc ?_ _)); (first | exact BK183.out | (have hq_ := BK183.out; first | (rw [← Nbq19.out] at hq_; exact hq_)))⟩, ⟨by repeat (first | (with_reducible first | exact HB.out | apply below_alloc | apply pw_below_drewN | apply below_drew1 | refine below_set ?_ GE178.out | refine below_set ?_ GE183.out) | exact HB.out)⟩⟩
                    case rest =>
                      clear HC25
                      try clear c1
                      try clear p1
                      try clear q1
                      try clear hx1
                      try clear c2
                      try clear p2
                      try clear c5
                      try clear c5b0
                      try clear c5b1
                      try clear c7
                      try clear c7b0
                      try clear c8
                      try clear c8b0
                      try clear c9
                      try clear c9b0
                      try clear c10
                      try clear c11
                      try clear c11b0
                      try clear c11b1
                      try clear c17
                      try clear p17
                      try clear q17
                      try clear hx17
                      try clear q19
                      try clear c20
                      try clear c21
                      try clear c23
                      try clear c26
                      try clear c27
                      try clear c28
                      try clear c29
                      try clear hcz14_0
                      try clear hcz14_1
                      try clear hcz18_0
                      try clear hcz18_1
                      try clear hcz18_2
                      try clear hcz18_3
                      try clear hcz18_4
                      try clear hcz22_0
                      try clear hcz22_1
                      try clear hcz24_0
                      try clear hcz24_1
                      try clear hcz29_0
                      try clear hcz29_1
                      try clear hcz29_2
                      try clear hcz29_3
                      try clear hcz29_4
                      try clear hfz14_0
                      try clear hfz14_1
                      try clear hfz18_0
                      try clear hfz18_1
                      try clear hfz18_2
                      try clear hfz18_3
                      try clear hfz18_4
                      try clear hfz22_0
                      try clear hfz22_1
                      try clear hfz24_0
                      try clear hfz24_1
                      try clear hfz29_0
                      try clear hfz29_1
                      try clear hfz29_2
                      try clear hfz29_3
                      try clear hfz29_4
                      try clear hx177_0
                      try clear hx177_1
                      try clear p1
                      try clear p17
                      try clear p177
                      try clear p2
                      try clear q1
                      try clear q17
                      try clear q177
                      try clear q19
                      obtain ⟨kq, x9_24, HA, HJ24, HO_9, HO_12, BK178, BK183, HB⟩ := hcut
                      cases kq with
                      | zero => exact absurd HA.out (by simp [plan_Steps.j2])
                      | succ kj24 =>
                        have H := HA.out
                        clear HA
                        simp only [plan_Steps.j2] at H
                        have H' := Aside0.mk H
                        clear H
                        obtain ⟨Ao31, co31, eo31⟩ := Kd.R_slice HO_12.out
                        subst eo31
                        go_wp2
                        go_loopg [9, 53] kj24 (fun kq v9 v53 w' => ∃ (x9_4 : List (S37)) (x53_4 : Int), v53 = .int .i64 x53_4 ∧ Aside0 (plan_Steps.l1 kq a2 x9_4 x25_1 l1 (l1.length : Int) x25_1 t179 (t179.length : Int) x53_4 x25_1 true 0 0 0 = some (r1, r2)) ∧ Aside0 (kq ≤ kj24) ∧ Aside0 (Kd.R k37 37 w' w.heap.size (fun k_ => k_ ≠ gb183) v9 x9_4) ∧ Aside0 (Kd.R k35 35 w' w.heap.size (fun _ => True) (.slice Ao31 t179.length co31) t179) ∧ Aside0 (w'.heap[gb178]? = some (.cells #[.int .i64 ((rd_T33 l1 x25_1).f0), .bool ((rd_T33 l1 x25_1).f1)] 33 (0, 0))) ∧ Aside0 (w'.heap[gb183]? = some (.cells #[.int .i64 x25_1, .bool true, .int .i64 0, .int .i64 0, .int .i64 0] 37 (0, 0))) ∧ Aside0 (Below w.heap.size w w'))
                        case atStart => exact ⟨(x9_24), (0), (by first | rfl | (simp; done) | (simp [*]; done)), H', ⟨Nat.le_refl _⟩, ⟨by (with_reducible repeat (first | apply Kd.R_alloc | apply Kd.R_drewN | apply Kd.R_drew)); exact HO_9.out⟩, ⟨by (with_reducible repeat (first | apply Kd.R_alloc | apply Kd.R_drewN | apply Kd.R_drew)); exact HO_12.out⟩, ⟨by (with_reducible repeat (first | refine blk_drewN ?_ _ | refine blk_drew ?_ | refine blk_alloc ?_ _)); (first | exact BK178.out | (have hq_ := BK178.out; first | (rw [← Nbq19.out] at hq_; exact hq_)))⟩, ⟨by (with_reducible repeat (first | refine blk_drewN ?_ _ | refine blk_drew ?_ | refine blk_alloc ?_ _)); (first | exact BK183.out | (have hq_ := BK183.out; first | (rw [← Nbq19.out] at hq_; exact hq_)))⟩, ⟨by repeat (first | (with_reducible first | exact HB.out | apply below_alloc | apply pw_below_drewN | apply below_drew1 | refine below_set ?_ GE178.out | refine below_set ?_ GE183.out) | exact HB.out)⟩⟩
                        case round =>
                          clear H'
                          try clear c1
                          try clear p1
                          try clear q1
                          try clear hx1
                          try clear c2
                          try clear p2
                          try clear c5
                          try clear c5b0
                          try clear c5b1
                          try clear c7
                          try clear c7b0
                          try clear c8
                          try clear c8b0
                          try clear c9
                          try clear c9b0
                          try clear c10
                          try clear c11
                          try clear c11b0
                          try clear c11b1
                          try clear c17
                          try clear p17
                          try clear q17
                          try clear hx17
                          try clear q19
                          try clear c20
                          try clear c21
                          try clear c23
                          try clear c26
                          try clear c27
                          try clear c28
                          try clear c29
                          try clear hcz14_0
                          try clear hcz14_1
                          try clear hcz18_0
                          try clear hcz18_1
                          try clear hcz18_2
                          try clear hcz18_3
                          try clear hcz18_4
                          try clear hcz22_0
                          try clear hcz22_1
                          try clear hcz24_0
                          try clear hcz24_1
                          try clear hcz29_0
                          try clear hcz29_1
                          try clear hcz29_2
                          try clear hcz29_3
                          try clear hcz29_4
                          try clear hfz14_0
                          try clear hfz14_1
                          try clear hfz18_0
                          try clear hfz18_1
                          try clear hfz18_2
                          try clear hfz18_3
                          try clear hfz18_4
                          try clear hfz22_0
                          try clear hfz22_1
                          try clear hfz24_0
                          try clear hfz24_1
                          try clear hfz29_0
                          try clear hfz29_1
                          try clear hfz29_2
                          try clear hfz29_3
                          try clear hfz29_4
                          try clear hx177_0
                          try clear hx177_1
                          try clear p1
                          try clear p17
                          try clear p177
                          try clear p2
                          try clear q1
                          try clear q17
                          try clear q177
                          try clear q19
                          obtain ⟨x9_4, x53_4, rfl, HA, HK4, HO_9, HO_51, BK178, BK183, HB⟩ := hrel
                          cases gk with
                          | zero => exact absurd HA.out (by simp [plan_Steps.l1])
                          | succ k4 =>
                            have H := HA.out
                            clear HA
                            simp only [plan_Steps.l1] at H
                            by_cases c32 : x53_4 < (t179.length : Int)
                            · rw [if_pos c32] at H
                              have c32b0 : decide (x53_4 < (t179.length : Int)) = true := decide_eq_true c32
                              clear c32
                              by_cases c33 : 0 ≤ x53_4
                              · rw [if_pos c33] at H
                                have c33b0 : decide (0 ≤ x53_4) = true := decide_eq_true c33
                                clear c33
                                by_cases c34 : x53_4 < (t179.length : Int)
                                · rw [if_pos c34] at H
                                  have c34b0 : decide (x53_4 < (t179.length : Int)) = true := decide_eq_true c34
                                  clear c34
                                  by_cases c35 : x9_4.length < 3518437208883
                                  · rw [if_pos c35] at H
                                    have LMc35 := Aside0.mk c35
                                    clear c35
                                    obtain ⟨y189, hy189⟩ : ∃ y_ : List (S37), y_ = (x9_4 ++ [(⟨x25_1, false, (⟨(rd_T35 t179 x53_4).f0, (rd_T35 t179 x53_4).f1, (rd_T35 t179 x53_4).f2⟩ : S35)⟩ : S37)]) := ⟨_, rfl⟩
                                    replace H : (plan_Steps.l1 k4 a2 y189 x25_1 l1 (l1.length : Int) x25_1 t179 (t179.length : Int) (wrap64 (x53_4 + 1)) x25_1 true 0 0 0) = some (r1, r2) := by first | (rw [hy189]; with_reducible exact H) | (have H2_ := (Option.bind_some _ _).symm.trans H; rw [hy189]; with_reducible exact H2_) | (have H2_ := (Option.bind_some _ _).symm.trans H; with_reducible exact H2_) | with_reducible exact H | (rw [hy189]; exact H) | exact H
                                    have Ny189 := Aside0.mk hy189
                                    clear hy189
                                    have H' := Aside0.mk H
                                    clear H
                                    have p187 : 0 ≤ (x53_4 : Int) := of_decide_eq_true (by first | (with_reducible assumption) | assumption)
                                    have q187 : x53_4 < (t179.length : Int) := of_decide_eq_true (by first | (with_reducible assumption) | assumption)
                                    obtain ⟨ad187, e187, hx187_0, hx187_1, hx187_2⟩ := at_T35 (Kd.R_reads' HO_51.out).2.2 x53_4 p187 q187
                                    cases e187
                                    replace p187 := eq_true p187
                                    replace q187 := eq_true q187
                                    go_wp2_with (first | ((with_reducible refine gate_dst (N := 16) rfl ?_); refine box_event ?hg (N := 16) ?hd (cs := #[.int .i64 0, .int .i64 0, .int .i64 0]) (t := 35) ?hr ?_; (case hd => rfl); (case hg => rfl); (case hr => first | (go_simp; done) | (go_simp; rfl)); intro gb188 hg w36 hbox hb; have n0_ := Aside0.mk (Kd.R_below (by (with_reducible repeat (first | apply Kd.R_alloc | apply Kd.R_drewN | apply Kd.R_drew)); exact HO_9.out) hb); have n1_ := Aside0.mk (Kd.R_below (Kd.R_elderB (by (with_reducible repeat (first | apply Kd.R_alloc | apply Kd.R_drewN | apply Kd.R_drew)); exact HO_51.out) gb188 (Nat.le_of_eq hg.symm)) hb); have n2_ := Aside0.mk (blk_below (g := gb178) (o := .cells #[.int .i64 ((rd_T33 l1 x25_1).f0), .bool ((rd_T33 l1 x25_1).f1)] 33 (0, 0)) (by (with_reducible repeat (first | refine blk_drewN ?_ _ | refine blk_drew ?_ | refine blk_alloc ?_ _)); exact BK178.out) hb); have n3_ := Aside0.mk (blk_below (g := gb183) (o := .cells #[.int .i64 x25_1, .bool true, .int .i64 0, .int .i64 0, .int .i64 0] 37 (0, 0)) (by (with_reducible repeat (first | refine blk_drewN ?_ _ | refine blk_drew ?_ | refine blk_alloc ?_ _)); exact BK183.out) hb); have n4_ := Aside0.mk (below_step (by repeat (first | (with_reducible first | exact HB.out | apply below_alloc | apply pw_below_drewN | apply below_drew1 | refine below_set ?_ GE178.out | refine below_set ?_ GE183.out) | exact HB.out)) hb); have n5_ := Aside0.mk (hbox); have n6_ := Aside0.mk ((by rw [hg]; exact (below_size (by repeat (first | (with_reducible first | exact HB.out | apply below_alloc | apply pw_below_drewN | apply below_drew1 | refine below_set ?_ GE178.out | refine below_set ?_ GE183.out) | exact HB.out))) : w.heap.size ≤ gb188)); have n7_ := Aside0.mk ((by rw [hg]; exact (below_size (by repeat (first | (with_reducible first | exact HB.out | apply below_alloc | apply pw_below_drewN | apply below_drew1 | refine below_set ?_ GE178.out | refine below_set ?_ GE183.out) | exact HB.out))) : w.heap.size ≤ gb188)); have n8_ := Aside0.mk ((by rw [hg]; exact Nat.ne_of_lt (blk_lt (g := gb178) (o := .cells #[.int .i64 ((rd_T33 l1 x25_1).f0), .bool ((rd_T33 l1 x25_1).f1)] 33 (0, 0)) (by (with_reducible repeat (first | refine blk_drewN ?_ _ | refine blk_drew ?_ | refine blk_alloc ?_ _)); exact BK178.out)) : gb178 ≠ gb188)); have n9_ := Aside0.mk ((by rw [hg]; exact Nat.ne_of_gt (blk_lt (g := gb178) (o := .cells #[.int .i64 ((rd_T33 l1 x25_1).f0), .bool ((rd_T33 l1 x25_1).f1)] 33 (0, 0)) (by (with_reducible repeat (first | refine blk_drewN ?_ _ | refine blk_drew ?_ | refine blk_alloc ?_ _)); exact BK178.out)) : gb188 ≠ gb178)); have n10_ := Aside0.mk ((by rw [hg]; exact Nat.ne_of_lt (blk_lt (g := gb183) (o := .cells #[.int .i64 x25_1, .bool true, .int .i64 0, .int .i64 0, .int .i64 0] 37 (0, 0)) (by (with_reducible repeat (first | refine blk_drewN ?_ _ | refine blk_drew ?_ | refine blk_alloc ?_ _)); exact BK183.out)) : gb183 ≠ gb188)); have n11_ := Aside0.mk ((by rw [hg]; exact Nat.ne_of_gt (blk_lt (g := gb183) (o := .cells #[.int .i64 x25_1, .bool true, .int .i64 0, .int .i64 0, .int .i64 0] 37 (0, 0)) (by (with_reducible repeat (first | refine blk_drewN ?_ _ | refine blk_drew ?_ | refine blk_alloc ?_ _)); exact BK183.out)) : gb188 ≠ gb183)); clear HO_9; clear HO_51; clear BK178; clear BK183; clear HB; have HO_9 := n0_; have HO_51 := n1_; have BK178 := n2_; have BK183 := n3_; have HB := n4_; have BK188 := n5_; have GW188 := n6_; have GE188 := n7_; have NB178_188 := n8_; have NB188_178 := n9_; have NB183_188 := n10_; have NB188_183 := n11_; clear n0_ n1_ n2_ n3_ n4_ n5_ n6_ n7_ n8_ n9_ n10_ n11_; clear hb hbox hg; have hnb37 := NB188_178.out; have hnc37 := NB178_188.out; have hnb38 := NB188_183.out; have hnc38 := NB183_188.out; have hcz39_0 : w36.cell? ⟨gb188, 0, none⟩ = some (.int .i64 0) := (blk_cell BK188.out 0).trans (by first | rfl | (rw [← Nbq19.out]; rfl)); have hcz39_1 : w36.cell? ⟨gb188, 1, none⟩ = some (.int .i64 0) := (blk_cell BK188.out 1).trans (by first | rfl | (rw [← Nbq19.out]; rfl)); have hcz39_2 : w36.cell? ⟨gb188, 2, none⟩ = some (.int .i64 0) := (blk_cell BK188.out 2).trans (by first | rfl | (rw [← Nbq19.out]; rfl)); have hfz39_0 := blk_frozen BK188.out 0; have hfz39_1 := blk_frozen BK188.out 1; have hfz39_2 := blk_frozen BK188.out 2) | ((with_reducible refine gate_builtin (b := .append) (xs := #[.tmp 57, .tmp 61]) rfl ?_); at_builtin; refine Kd.R_append k37 (w0 := w) w.heap.size rfl (.tmp 57) (.tmp 61) 29 37 (.agg #[(.int .i64 0), (.bool false), (.int .i64 0), (.int .i64 0), (.int .i64 0)]) 40 rfl Tryd.underlying29 info37 rfl (by decide) (by omega) u9 x9_4 (⟨x25_1, false, (⟨(rd_T35 t179 x53_4).f0, (rd_T35 t179 x53_4).f1, (rd_T35 t179 x53_4).f2⟩ : S35)⟩ : S37) [.int .i64 x25_1, .bool false, .int .i64 ((rd_T35 t179 x53_4).f0), .int .i64 ((rd_T35 t179 x53_4).f1), .int .i64 ((rd_T35 t179 x53_4).f2)] (fun k_ => k_ ≠ gb183) (fun _ => False) rfl (by first | (go_simp; done) | (go_simp; rfl)) ?aP (fun _ hk => hk.elim) ?aF ?aO ?aB ?aS ?aL ?_; (case aP => exact k37_mkM _ _ _ (⟨x25_1, false, (⟨(rd_T35 t179 x53_4).f0, (rd_T35 t179 x53_4).f1, (rd_T35 t179 x53_4).f2⟩ : S35)⟩ : S37)); (case aB => exact (by repeat (first | (with_reducible first | exact HB.out | apply below_alloc | apply pw_below_drewN | apply below_drew1 | refine below_set ?_ GE178.out | refine below_set ?_ GE183.out | refine below_set ?_ GE188.out) | exact HB.out))); (case aF => exact (fun k_ hk => Kd.freshB (g := gb183) (o := .cells #[.int .i64 x25_1, .bool true, .int .i64 0, .int .i64 0, .int .i64 0] 37 (0, 0)) (by (with_reducible repeat (first | refine blk_drewN ?_ _ | refine blk_drew ?_ | refine blk_alloc ?_ _)); refine blk_far ?_ NB183_188.out _; (with_reducible repeat (first | refine blk_drewN ?_ _ | refine blk_drew ?_ | refine blk_alloc ?_ _)); refine blk_far ?_ NB183_188.out _; (with_reducible repeat (first | refine blk_drewN ?_ _ | refine blk_drew ?_ | refine blk_alloc ?_ _)); refine blk_far ?_ NB183_188.out _; (with_reducible repeat (first | refine blk_drewN ?_ _ | refine blk_drew ?_ | refine blk_alloc ?_ _)); exact BK183.out) k_ hk)); (case aO => exact (by (with_reducible repeat (first | apply Kd.R_alloc | apply Kd.R_drewN | apply Kd.R_drew)); exact Kd.R_mono (Kd.R_far (p := ⟨gb188, 2, none⟩) (Kd.R_far (p := ⟨gb188, 1, none⟩) (Kd.R_far (p := ⟨gb188, 0, none⟩) (Kd.R_types HO_9.out BK188.out (by decide)) (fun _ hk => hk.2) (.int .i64 ((rd_T35 t179 x53_4).f0))) (fun _ hk => hk.2) (.int .i64 ((rd_T35 t179 x53_4).f1))) (fun _ hk => hk.2) (.int .i64 ((rd_T35 t179 x53_4).f2))) (fun _ hk => hk.1))); (case aS => exact (below_size (by repeat (first | (with_reducible first | exact HB.out | apply below_alloc | apply pw_below_drewN | apply below_drew1 | refine below_set ?_ GE178.out | refine below_set ?_ GE183.out | refine below_set ?_ GE188.out) | exact HB.out)))); (case aL => have := LMc35.out; omega); intro v190 w40 ho hb hg hat; rw [← Ny189.out] at ho; have n0_ := Aside0.mk (Kd.R_over' (by (with_reducible repeat (first | apply Kd.R_alloc | apply Kd.R_drewN | apply Kd.R_drew)); exact (Kd.R_mono (Kd.R_far (p := ⟨gb188, 2, none⟩) (Kd.R_far (p := ⟨gb188, 1, none⟩) (Kd.R_far (p := ⟨gb188, 0, none⟩) (Kd.R_mono HO_51.out (fun k_ hk => (⟨hk, hk.2⟩ : _ ∧ k_ ≠ gb188))) (fun _ hk => hk.2) (.int .i64 ((rd_T35 t179 x53_4).f0))) (fun _ hk => hk.2) (.int .i64 ((rd_T35 t179 x53_4).f1))) (fun _ hk => hk.2) (.int .i64 ((rd_T35 t179 x53_4).f2))) (fun _ h_ => h_.1))) (Kd.R_typed (by (with_reducible repeat (first | apply Kd.R_alloc | apply Kd.R_drewN | apply Kd.R_drew)); exact (Kd.R_mono (Kd.R_far (p := ⟨gb188, 2, none⟩) (Kd.R_far (p := ⟨gb188, 1, none⟩) (Kd.R_far (p := ⟨gb188, 0, none⟩) (Kd.R_types HO_9.out BK188.out (by decide)) (fun _ hk => hk.2) (.int .i64 ((rd_T35 t179 x53_4).f0))) (fun _ hk => hk.2) (.int .i64 ((rd_T35 t179 x53_4).f1))) (fun _ hk => hk.2) (.int .i64 ((rd_T35 t179 x53_4).f2))) (fun _ h_ => h_.1)))) (by decide) hg); have n1_ := Aside0.mk (blk_grown (g := gb178) (o := .cells #[.int .i64 ((rd_T33 l1 x25_1).f0), .bool ((rd_T33 l1 x25_1).f1)] 33 (0, 0)) (by (with_reducible repeat (first | refine blk_drewN ?_ _ | refine blk_drew ?_ | refine blk_alloc ?_ _)); refine blk_far ?_ NB178_188.out _; (with_reducible repeat (first | refine blk_drewN ?_ _ | refine blk_drew ?_ | refine blk_alloc ?_ _)); refine blk_far ?_ NB178_188.out _; (with_reducible repeat (first | refine blk_drewN ?_ _ | refine blk_drew ?_ | refine blk_alloc ?_ _)); refine blk_far ?_ NB178_188.out _; (with_reducible repeat (first | refine blk_drewN ?_ _ | refine blk_drew ?_ | refine blk_alloc ?_ _)); exact BK178.out) hg (Kd.R_ne HO_9.out BK178.out (by decide))); have n2_ := Aside0.mk (blk_grown (g := gb183) (o := .cells #[.int .i64 x25_1, .bool true, .int .i64 0, .int .i64 0, .int .i64 0] 37 (0, 0)) (by (with_reducible repeat (first | refine blk_drewN ?_ _ | refine blk_drew ?_ | refine blk_alloc ?_ _)); refine blk_far ?_ NB183_188.out _; (with_reducible repeat (first | refine blk_drewN ?_ _ | refine blk_drew ?_ | refine blk_alloc ?_ _)); refine blk_far ?_ NB183_188.out _; (with_reducible repeat (first | refine blk_drewN ?_ _ | refine blk_drew ?_ | refine blk_alloc ?_ _)); refine blk_far ?_ NB183_188.out _; (with_reducible repeat (first | refine blk_drewN ?_ _ | refine blk_drew ?_ | refine blk_alloc ?_ _)); exact BK183.out) hg (Kd.R_away HO_9.out (fun _ hk => hk))); have n3_ := Aside0.mk (blk_grown (g := gb188) (o := .cells #[.int .i64 ((rd_T35 t179 x53_4).f0), .int .i64 ((rd_T35 t179 x53_4).f1), .int .i64 ((rd_T35 t179 x53_4).f2)] 35 (0, 0)) (by (with_reducible repeat (first | refine blk_drewN ?_ _ | refine blk_drew ?_ | refine blk_alloc ?_ _)); refine blk_put (cs := #[.int .i64 ((rd_T35 t179 x53_4).f0), .int .i64 ((rd_T35 t179 x53_4).f1), .int .i64 0]) ?_ 2 _ rfl; (with_reducible repeat (first | refine blk_drewN ?_ _ | refine blk_drew ?_ | refine blk_alloc ?_ _)); refine blk_put (cs := #[.int .i64 ((rd_T35 t179 x53_4).f0), .int .i64 0, .int .i64 0]) ?_ 1 _ rfl; (with_reducible repeat (first | refine blk_drewN ?_ _ | refine blk_drew ?_ | refine blk_alloc ?_ _)); refine blk_put (cs := #[.int .i64 0, .int .i64 0, .int .i64 0]) ?_ 0 _ rfl; (with_reducible repeat (first | refine blk_drewN ?_ _ | refine blk_drew ?_ | refine blk_alloc ?_ _)); exact BK188.out) hg (Kd.R_ne HO_9.out BK188.out (by decide))); have n4_ := Aside0.mk (hb); have n5_ := Aside0.mk (ho); clear HO_51; clear BK178; clear BK183; clear BK188; clear HB; clear HO_9; have HO_51 := n0_; have BK178 := n1_; have BK183 := n2_; have BK188 := n3_; have HB := n4_; have HO191 := n5_; clear n0_ n1_ n2_ n3_ n4_ n5_; clear ho hb hg hat))
                                    go_roundg k4
                                    case measure => have := HK1.out; have := HJ11.out; have := HJ24.out; have := HK4.out; omega
                                    case rel => exact ⟨(y189), (wrap64 (x53_4 + 1)), (by first | rfl | (simp; done) | (simp [*]; done)), H', ⟨by have := HK1.out; have := HJ11.out; have := HJ24.out; have := HK4.out; omega⟩, ⟨by (with_reducible repeat (first | apply Kd.R_alloc | apply Kd.R_drewN | apply Kd.R_drew)); exact HO191.out⟩, ⟨by (with_reducible repeat (first | apply Kd.R_alloc | apply Kd.R_drewN | apply Kd.R_drew)); exact Kd.R_mono HO_51.out (fun _ hk => trivial)⟩, ⟨by (with_reducible repeat (first | refine blk_drewN ?_ _ | refine blk_drew ?_ | refine blk_alloc ?_ _)); (first | exact BK178.out | (have hq_ := BK178.out; first | (rw [← Nbq19.out] at hq_; exact hq_)))⟩, ⟨by (with_reducible repeat (first | refine blk_drewN ?_ _ | refine blk_drew ?_ | refine blk_alloc ?_ _)); (first | exact BK183.out | (have hq_ := BK183.out; first | (rw [← Nbq19.out] at hq_; exact hq_)))⟩, ⟨by repeat (first | (with_reducible first | exact HB.out | apply below_alloc | apply pw_below_drewN | apply below_drew1 | refine below_set ?_ GE178.out | refine below_set ?_ GE183.out | refine below_set ?_ GE188.out) | exact HB.out)⟩⟩
                                  · rw [if_neg c35] at H
                                    exact absurd H (by simp)
                                · rw [if_neg c34] at H
                                  exact absurd H (by simp)
                              · rw [if_neg c33] at H
                                exact absurd H (by simp)
                            · rw [if_neg c32] at H
                              have c32b0 : decide (x53_4 < (t179.length : Int)) = false := decide_eq_false c32
                              clear c32
                              by_cases c41 : a2 = true
                              · subst c41
                                have H1 : (if x9_4.length < 3518437208883 then (plan_Steps.l0 k4 true (x9_4 ++ [(⟨x25_1, true, (⟨0, 0, 0⟩ : S35)⟩ : S37)]) l1 (l1.length : Int) (wrap64 (x25_1 + 1))) else (none)) = some (r1, r2) := by rw [if_pos rfl] at H; exact H
                                clear H
                                have H := H1
                                clear H1
                                by_cases c42 : x9_4.length < 3518437208883
                                · rw [if_pos c42] at H
                                  have LMc42 := Aside0.mk c42
                                  clear c42
                                  obtain ⟨y192, hy192⟩ : ∃ y_ : List (S37), y_ = (x9_4 ++ [(⟨x25_1, true, (⟨0, 0, 0⟩ : S35)⟩ : S37)]) := ⟨_, rfl⟩
                                  replace H : (plan_Steps.l0 k4 true y192 l1 (l1.length : Int) (wrap64 (x25_1 + 1))) = some (r1, r2) := by first | (rw [hy192]; with_reducible exact H) | (have H2_ := (Option.bind_some _ _).symm.trans H; rw [hy192]; with_reducible exact H2_) | (have H2_ := (Option.bind_some _ _).symm.trans H; with_reducible exact H2_) | with_reducible exact H | (rw [hy192]; exact H) | exact H
                                  have Ny192 := Aside0.mk hy192
                                  clear hy192
                                  have H' := Aside0.mk H
                                  clear H
                                  have hnb43 := NB183_178.out
                                  have hnc43 := NB178_183.out
                                  have hcz44_0 : wr.cell? ⟨gb183, 0, none⟩ = some (.int .i64 x25_1) := (blk_cell BK183.out 0).trans rfl
                                  have hcz44_1 : wr.cell? ⟨gb183, 1, none⟩ = some (.bool true) := (blk_cell BK183.out 1).trans (by first | rfl | (rw [← Nbq19.out]; rfl))
                                  have hcz44_2 : wr.cell? ⟨gb183, 2, none⟩ = some (.int .i64 0) := (blk_cell BK183.out 2).trans rfl
                                  have hcz44_3 : wr.cell? ⟨gb183, 3, none⟩ = some (.int .i64 0) := (blk_cell BK183.out 3).trans rfl
                                  have hcz44_4 : wr.cell? ⟨gb183, 4, none⟩ = some (.int .i64 0) := (blk_cell BK183.out 4).trans rfl
                                  have hfz44_0 := blk_frozen BK183.out 0
                                  have hfz44_1 := blk_frozen BK183.out 1
                                  have hfz44_2 := blk_frozen BK183.out 2
                                  have hfz44_3 := blk_frozen BK183.out 3
                                  have hfz44_4 := blk_frozen BK183.out 4
                                  go_wp2_with (first | ((with_reducible refine gate_builtin (b := .append) (xs := #[.tmp 65, .tmp 67]) rfl ?_); at_builtin; refine Kd.R_append k37 (w0 := w) w.heap.size rfl (.tmp 65) (.tmp 67) 29 37 (.agg #[(.int .i64 0), (.bool false), (.int .i64 0), (.int .i64 0), (.int .i64 0)]) 40 rfl Tryd.underlying29 info37 rfl (by decide) (by omega) u9 x9_4 (⟨x25_1, true, (⟨0, 0, 0⟩ : S35)⟩ : S37) [.int .i64 x25_1, .bool true, .int .i64 0, .int .i64 0, .int .i64 0] (fun k_ => k_ ≠ gb183) (fun _ => False) rfl rfl ?aP (fun _ hk => hk.elim) ?aF ?aO ?aB ?aS ?aL ?_; (case aP => exact k37_mkM _ _ _ (⟨x25_1, true, (⟨0, 0, 0⟩ : S35)⟩ : S37)); (case aB => exact (by repeat (first | (with_reducible first | exact HB.out | apply below_alloc | apply pw_below_drewN | apply below_drew1 | refine below_set ?_ GE178.out | refine below_set ?_ GE183.out) | exact HB.out))); (case aF => exact (fun k_ hk => Kd.freshB (g := gb183) (o := .cells #[.int .i64 x25_1, .bool true, .int .i64 0, .int .i64 0, .int .i64 0] 37 (0, 0)) (by (with_reducible repeat (first | refine blk_drewN ?_ _ | refine blk_drew ?_ | refine blk_alloc ?_ _)); exact BK183.out) k_ hk)); (case aO => exact (by (with_reducible repeat (first | apply Kd.R_alloc | apply Kd.R_drewN | apply Kd.R_drew)); exact HO_9.out)); (case aS => exact (below_size (by repeat (first | (with_reducible first | exact HB.out | apply below_alloc | apply pw_below_drewN | apply below_drew1 | refine below_set ?_ GE178.out | refine below_set ?_ GE183.out) | exact HB.out)))); (case aL => have := LMc42.out; omega); intro v193 w45 ho hb hg hat; rw [← Ny192.out] at ho; have n0_ := Aside0.mk (Kd.R_over' (by (with_reducible repeat (first | apply Kd.R_alloc | apply Kd.R_drewN | apply Kd.R_drew)); exact HO_51.out) (Kd.R_typed (by (with_reducible repeat (first | apply Kd.R_alloc | apply Kd.R_drewN | apply Kd.R_drew)); exact HO_9.out)) (by decide) hg); have n1_ := Aside0.mk (blk_grown (g := gb178) (o := .cells #[.int .i64 ((rd_T33 l1 x25_1).f0), .bool ((rd_T33 l1 x25_1).f1)] 33 (0, 0)) (by (with_reducible repeat (first | refine blk_drewN ?_ _ | refine blk_drew ?_ | refine blk_alloc ?_ _)); exact BK178.out) hg (Kd.R_ne HO_9.out BK178.out (by decide))); have n2_ := Aside0.mk (blk_grown (g := gb183) (o := .cells #[.int .i64 x25_1, .bool true, .int .i64 0, .int .i64 0, .int .i64 0] 37 (0, 0)) (by (with_reducible repeat (first | refine blk_drewN ?_ _ | refine blk_drew ?_ | refine blk_alloc ?_ _)); exact BK183.out) hg (Kd.R_away HO_9.out (fun _ hk => hk))); have n3_ := Aside0.mk (hb); have n4_ := Aside0.mk (ho); clear HO_51; clear BK178; clear BK183; clear HB; clear HO_9; have HO_51 := n0_; have BK178 := n1_; have BK183 := n2_; have HB := n3_; have HO194 := n4_; clear n0_ n1_ n2_ n3_ n4_; clear ho hb hg hat))
                                  go_roundg k4
                                  case measure => have := HK1.out; have := HJ11.out; have := HJ24.out; have := HK4.out; omega
                                  case rel => exact ⟨(y192), (wrap64 (x25_1 + 1)), (by first | rfl | (simp; done) | (simp [*]; done)), H', ⟨by have := HK1.out; have := HJ11.out; have := HJ24.out; have := HK4.out; omega⟩, ⟨by (with_reducible repeat (first | apply Kd.R_alloc | apply Kd.R_drewN | apply Kd.R_drew)); exact Kd.R_mono HO194.out (fun _ hk => trivial)⟩, ⟨by repeat (first | (with_reducible first | exact HB.out | apply below_alloc | apply pw_below_drewN | apply below_drew1 | refine below_set ?_ GE178.out | refine below_set ?_ GE183.out) | exact HB.out)⟩⟩
                                · rw [if_neg c42] at H
                                  exact absurd H (by simp)
                              · replace c41 := Bool.eq_false_iff.mpr c41
                                subst c41
                                have H1 : (plan_Steps.l0 k4 false x9_4 l1 (l1.length : Int) (wrap64 (x25_1 + 1))) = some (r1, r2) := by rw [if_neg (show ¬ (false = true) by decide)] at H; exact H
                                clear H
                                have H := H1
                                clear H1
                                have H' := Aside0.mk H
                                clear H
                                go_wp2
                                go_roundg k4
                                case measure => have := HK1.out; have := HJ11.out; have := HJ24.out; have := HK4.out; omega
                                case rel => exact ⟨(x9_4), (wrap64 (x25_1 + 1)), (by first | rfl | (simp; done) | (simp [*]; done)), H', ⟨by have := HK1.out; have := HJ11.out; have := HJ24.out; have := HK4.out; omega⟩, ⟨by (with_reducible repeat (first | apply Kd.R_alloc | apply Kd.R_drewN | apply Kd.R_drew)); exact Kd.R_mono HO_9.out (fun _ hk => trivial)⟩, ⟨by repeat (first | (with_reducible first | exact HB.out | apply below_alloc | apply pw_below_drewN | apply below_drew1 | refine below_set ?_ GE178.out | refine below_set ?_ GE183.out) | exact HB.out)⟩⟩
              · rw [if_neg c11] at H
                have c11b0 : (t180 == 0) = false := beq_eq_false_iff_ne.mpr c11
                have c11b1 : (t180 != 0) = true := bne_iff_ne.mpr c11
                simp only [Option.some.injEq, Prod.mk.injEq] at H
                obtain ⟨rfl, rfl⟩ := H
                have p177 : 0 ≤ (x25_1 : Int) := of_decide_eq_true (by first | (with_reducible assumption) | assumption)
                have q177 : x25_1 < (l1.length : Int) := of_decide_eq_true (by first | (with_reducible assumption) | assumption)
                obtain ⟨ad177, e177, hx177_0, hx177_1⟩ := at_T33 HR1.out x25_1 p177 q177
                cases e177
                replace hx177_0 := (HB.out.cell (World.block_lt_of_cell? w _ hx177_0)).trans hx177_0
                replace hx177_1 := (HB.out.cell (World.block_lt_of_cell? w _ hx177_1)).trans hx177_1
                replace p177 := eq_true p177
                replace q177 := eq_true q177
                go_wp2_with (first | ((with_reducible refine gate_dst (N := 11) rfl ?_); refine box_event ?hg (N := 11) ?hd (cs := #[.int .i64 0, .bool false]) (t := 33) ?hr ?_; (case hd => rfl); (case hg => rfl); (case hr => first | (go_simp; done) | (go_simp; rfl)); intro gb178 hg w46 hbox hb; have n0_ := Aside0.mk (Kd.R_below (by (with_reducible repeat (first | apply Kd.R_alloc | apply Kd.R_drewN | apply Kd.R_drew)); exact HO_9.out) hb); have n1_ := Aside0.mk (below_step (by repeat (first | (with_reducible first | exact HB.out | apply below_alloc | apply pw_below_drewN | apply below_drew1) | exact HB.out)) hb); have n2_ := Aside0.mk (hbox); have n3_ := Aside0.mk ((by rw [hg]; exact (below_size (by repeat (first | (with_reducible first | exact HB.out | apply below_alloc | apply pw_below_drewN | apply below_drew1) | exact HB.out))) : w.heap.size ≤ gb178)); have n4_ := Aside0.mk ((by rw [hg]; exact (below_size (by repeat (first | (with_reducible first | exact HB.out | apply below_alloc | apply pw_below_drewN | apply below_drew1) | exact HB.out))) : w.heap.size ≤ gb178)); clear HO_9; clear HB; have HO_9 := n0_; have HB := n1_; have BK178 := n2_; have GW178 := n3_; have GE178 := n4_; clear n0_ n1_ n2_ n3_ n4_; clear hb hbox hg; have hcz47_0 : w46.cell? ⟨gb178, 0, none⟩ = some (.int .i64 0) := (blk_cell BK178.out 0).trans (by first | rfl | (rw [← Nbq19.out]; rfl)); have hcz47_1 : w46.cell? ⟨gb178, 1, none⟩ = some (.bool false) := (blk_cell BK178.out 1).trans (by first | rfl | (rw [← Nbq19.out]; rfl)); have hfz47_0 := blk_frozen BK178.out 0; have hfz47_1 := blk_frozen BK178.out 1) | ((with_reducible refine gate_callee (f := 29) rfl ?_); refine goesL_ (some 33) rfl rfl Tryd.func29 (by kernel_rfl) rfl #[.int .i64 ((rd_T33 l1 x25_1).f0)] rfl (by (try simp only [List.map_toArray, List.map_cons, List.map_nil]); first | done | rfl | (simp only [List.length_drop, List.length_take]; rfl)) ?_; (with_reducible refine (factor_Stages.calls (hG := ?sideG) k1 ((rd_T33 l1 x25_1).f0) t179 t180 _ A10.out).mono ?_); (case sideG => exact tab_below HG.out (by repeat (first | (with_reducible first | exact HB.out | apply below_alloc | apply pw_below_drewN | apply below_drew1 | refine below_set ?_ GE178.out) | exact HB.out))); rintro e w48 ⟨v181, rfl, ho0, hb⟩; refine ⟨_, rfl, ?_⟩; have n0_ := Aside0.mk (Kd.R_below (by (with_reducible repeat (first | apply Kd.R_alloc | apply Kd.R_drewN | apply Kd.R_drew)); exact (Kd.R_mono (Kd.R_far (p := ⟨gb178, 1, none⟩) (Kd.R_far (p := ⟨gb178, 0, none⟩) (Kd.R_types HO_9.out BK178.out (by decide)) (fun _ hk => hk.2) (.int .i64 ((rd_T33 l1 x25_1).f0))) (fun _ hk => hk.2) (.bool ((rd_T33 l1 x25_1).f1))) (fun _ h_ => h_.1))) hb); have n1_ := Aside0.mk (Kd.R_lower ho0 (below_size (by repeat (first | (with_reducible first | exact HB.out | apply below_alloc | apply pw_below_drewN | apply below_drew1 | refine below_set ?_ GE178.out) | exact HB.out)))); have n2_ := Aside0.mk (blk_below (g := gb178) (o := .cells #[.int .i64 ((rd_T33 l1 x25_1).f0), .bool ((rd_T33 l1 x25_1).f1)] 33 (0, 0)) (by (with_reducible repeat (first | refine blk_drewN ?_ _ | refine blk_drew ?_ | refine blk_alloc ?_ _)); refine blk_put (cs := #[.int .i64 ((rd_T33 l1 x25_1).f0), .bool false]) ?_ 1 _ rfl; (with_reducible repeat (first | refine blk_drewN ?_ _ | refine blk_drew ?_ | refine blk_alloc ?_ _)); refine blk_put (cs := #[.int .i64 0, .bool false]) ?_ 0 _ rfl; (with_reducible repeat (first | refine blk_drewN ?_ _ | refine blk_drew ?_ | refine blk_alloc ?_ _)); exact BK178.out) hb); have n3_ := Aside0.mk (below_step (by repeat (first | (with_reducible first | exact HB.out | apply below_alloc | apply pw_below_drewN | apply below_drew1 | refine below_set ?_ GE178.out) | exact HB.out)) hb); clear HO_9; clear BK178; clear HB; have HO_9 := n0_; have HO182 := n1_; have BK178 := n2_; have HB := n3_; clear n0_ n1_ n2_ n3_; (try clear hb); (try clear hb2); (try clear hk); (try clear hi); (try clear ho0)))
                go_ret2
                exact ⟨_, by first | rfl | (simp [errW_none, errW_some] <;> rfl) | (simp [*, errW_none, errW_some] <;> rfl), by first | exact Kd.R_nil _ _ _ _ _ | exact Kd.N_nil _ _ _ _ _ | exact Kd.V_nil _ _ _ _ _ | exact Kd.Q_nil _ _ _ _ _ | exact Kd.S_nil _ _ _ _ _, by repeat (first | (with_reducible first | exact HB.out | apply below_alloc | apply pw_below_drewN | apply below_drew1 | refine below_set ?_ GE178.out) | exact HB.out)⟩
            · rw [if_neg c9] at H
              exact absurd H (by simp)
          · rw [if_neg c8] at H
            exact absurd H (by simp)
        · rw [if_neg c7] at H
          have c7b0 : decide (x25_1 < (l1.length : Int)) = false := decide_eq_false c7
          clear c7
          simp only [Option.some.injEq, Prod.mk.injEq] at H
          obtain ⟨rfl, rfl⟩ := H
          go_wp2
          go_ret2
          exact ⟨_, by first | rfl | (simp [errW_none, errW_some] <;> rfl) | (simp [*, errW_none, errW_some] <;> rfl), by (with_reducible repeat (first | apply Kd.R_alloc | apply Kd.R_drewN | apply Kd.R_drew)); exact HO_9.out, by repeat (first | (with_reducible first | exact HB.out | apply below_alloc | apply pw_below_drewN | apply below_drew1) | exact HB.out)⟩
  · rw [if_neg c5] at H
    have c5b0 : (t176 == 0) = false := beq_eq_false_iff_ne.mpr c5
    have c5b1 : (t176 != 0) = true := bne_iff_ne.mpr c5
    simp only [Option.some.injEq, Prod.mk.injEq] at H
    obtain ⟨rfl, rfl⟩ := H
    go_enter Tryd.func10, Tryd.ntmps10
    go_wp2_with (first | ((with_reducible refine gate_callee (f := 28) rfl ?_); refine goesL_ (some 19) rfl rfl Tryd.func28 (by kernel_rfl) rfl #[.int .u64 a0, .slice A1 l1.length c1] rfl (by (try simp only [List.map_toArray, List.map_cons, List.map_nil]); first | done | rfl | (simp only [List.length_drop, List.length_take]; rfl)) ?_; (with_reducible refine (grid_Check.calls (hG := ?sideG) k a0 _ _ l1 t176 _ ?side1 ?side2 A4.out).mono ?_); (case sideG => exact tab_below HG.out (by repeat (first | (with_reducible first | exact HB.out | apply below_alloc | apply pw_below_drewN | apply below_drew1) | exact HB.out))); (case side1 => repeat (first | exact HR1.out | (with_reducible refine Kd.C_alloc ?_ _) | (with_reducible refine Kd.C_drewN ?_ _) | (with_reducible refine Kd.C_drew ?_))); (case side2 => exact HC1.out); rintro e w49 ⟨rfl, hb⟩; refine ⟨_, rfl, ?_⟩; have n0_ := Aside0.mk (below_step (by repeat (first | (with_reducible first | exact HB.out | apply below_alloc | apply pw_below_drewN | apply below_drew1) | exact HB.out)) hb); clear HB; have HB := n0_; clear n0_; (try clear hb); (try clear hb2); (try clear hk); (try clear hi)))
    go_ret2
    exact ⟨_, by first | rfl | (simp [errW_none, errW_some] <;> rfl) | (simp [*, errW_none, errW_some] <;> rfl), by first | exact Kd.R_nil _ _ _ _ _ | exact Kd.N_nil _ _ _ _ _ | exact Kd.V_nil _ _ _ _ _ | exact Kd.Q_nil _ _ _ _ _ | exact Kd.S_nil _ _ _ _ _, by repeat (first | (with_reducible first | exact HB.out | apply below_alloc | apply pw_below_drewN | apply below_drew1) | exact HB.out)⟩

/-! ### plan_Make: function 20 -/
def plan_Make.l0 : Nat → Int → List (S33) → Bool → Int → List (S37) → Int → Int → Int → Int → Int → List (S37) → Option (Int × Int × Int × (List (S37)) × Int)
  | 0, _, _, _, _, _, _, _, _, _, _, _ => none
  | k + 1, x0, x1, x2, x10, x40, x41, x42, x206000, x206001, x206002, x206003 => if x42 < x41 then (if 0 ≤ x42 then (if x42 < (x40.length : Int) then ((step_Table.f k x0 x1 x2 ((rd_T37 x40 x42).f0) ((rd_T37 x40 x42).f1) ((rd_T37 x40 x42).f2.f0) ((rd_T37 x40 x42).f2.f1) ((rd_T37 x40 x42).f2.f2)).bind fun bt208 => (if bt208.2 = 0 then (plan_Make.l0 k x0 x1 x2 x10 x40 x41 (wrap64 (x42 + 1)) x206000 (mx x206001 (bt208.1.length : Int)) x206002 x206003) else (some (0, 0, 0, ([] : List (S37)), bt208.2)))) else (none)) else (none)) else (some (x206000, x206001, wrap64 ((wrap64 (2 * (wrap64 (x10 + 6)))) + x206001), x206003, 0))
def plan_Make.f (k : Nat) (a0 : Int) (l1 : List (S33)) (a2 : Bool) : Option (Int × Int × Int × (List (S37)) × Int) := (plan_Steps.f k a0 l1 a2).bind fun bt196 => (if bt196.2 = 0 then ((grid_Dims.f k l1).bind fun t200 => ((shape_All.f k t200).bind fun bt203 => (if bt203.2 = 0 then (plan_Make.l0 k a0 l1 a2 bt203.1 bt196.1 (bt196.1.length : Int) 0 bt203.1 0 0 bt196.1) else (some (0, 0, 0, ([] : List (S37)), bt203.2))))) else (some (0, 0, 0, ([] : List (S37)), bt196.2)))
theorem plan_Make.mono_l : ∀ k, (∀ y0 y1 y2 y3 y4 y5 y6 y7 y8 y9 y10, LeO (plan_Make.l0 k y0 y1 y2 y3 y4 y5 y6 y7 y8 y9 y10) (plan_Make.l0 (k + 1) y0 y1 y2 y3 y4 y5 y6 y7 y8 y9 y10))
  | 0 => fun _ _ _ _ _ _ _ _ _ _ _ r h => by simp [plan_Make.l0] at h
  | k + 1 => by
    have ih0 := plan_Make.mono_l k
    · intro y0 y1 y2 y3 y4 y5 y6 y7 y8 y9 y10
      unfold plan_Make.l0
      repeat' first
      | (with_reducible exact ih0 _ _ _ _ _ _ _ _ _ _ _)
      | (with_reducible exact grid_Dims.mono _ _)
      | (with_reducible exact plan_Steps.mono _ _ _ _)
      | (with_reducible exact shape_All.mono _ _)
      | (with_reducible exact step_Table.mono _ _ _ _ _ _ _ _ _)
      | (with_reducible exact LeO.refl _)
      | (with_reducible exact LeO.none _)
      | (with_reducible refine LeO.ite ?_ ?_)
      | (with_reducible refine LeO.bind ?_ (fun _ => ?_))
      | exact ih0 _ _ _ _ _ _ _ _ _ _ _
      | exact grid_Dims.mono _ _
      | exact plan_Steps.mono _ _ _ _
      | exact shape_All.mono _ _
      | exact step_Table.mono _ _ _ _ _ _ _ _ _
      | exact LeO.none _
      | refine LeO.ite ?_ ?_
      | refine LeO.bind ?_ (fun _ => ?_)
theorem plan_Make.mono : ∀ a0 a1 a2 k, LeO (plan_Make.f k a0 a1 a2) (plan_Make.f (k + 1) a0 a1 a2) := by
  intro a0 a1 a2 k
  have ih0 := plan_Make.mono_l k
  unfold plan_Make.f
  repeat' first
      | (with_reducible exact ih0 _ _ _ _ _ _ _ _ _ _ _)
      | (with_reducible exact grid_Dims.mono _ _)
      | (with_reducible exact plan_Steps.mono _ _ _ _)
      | (with_reducible exact shape_All.mono _ _)
      | (with_reducible exact step_Table.mono _ _ _ _ _ _ _ _ _)
      | (with_reducible exact LeO.refl _)
      | (with_reducible exact LeO.none _)
      | (with_reducible refine LeO.ite ?_ ?_)
      | (with_reducible refine LeO.bind ?_ (fun _ => ?_))
      | exact ih0 _ _ _ _ _ _ _ _ _ _ _
      | exact grid_Dims.mono _ _
      | exact plan_Steps.mono _ _ _ _
      | exact shape_All.mono _ _
      | exact step_Table.mono _ _ _ _ _ _ _ _ _
      | exact LeO.none _
      | refine LeO.ite ?_ ?_
      | refine LeO.bind ?_ (fun _ => ?_)
set_option maxHeartbeats 8000000 in
set_option maxRecDepth 100000 in
theorem plan_Make.calls (k : Nat) (a0 : Int) (A1 : Option Addr) (c1 : Nat) (l1 : List (S33)) (a2 : Bool) (r1 : Int) (r2 : Int) (r3 : Int) (r4 : List (S37)) (r5 : Int) (w : World) (hG : Tab w) (hr1 : Kd.C k33 w A1 l1.length l1) (hc1 : l1.length ≤ c1) (h : plan_Make.f k a0 l1 a2 = some (r1, r2, r3, r4, r5)) :
    Calls Tryd.prog 20 #[.int .u64 a0, .slice A1 l1.length c1, .bool a2] w fun e w' => ∃ v3_ : Value, e = .returned (.tuple #[.agg #[.int .i64 r1, .int .i64 r2, .int .i64 r3, v3_], .int .i64 r5]) ∧ Kd.R k37 37 w' w.heap.size (fun _ => True) v3_ r4 ∧ Below w.heap.size w w' := by
  have HG := Aside0.mk hG
  clear hG
  have hu49 := Tryd.underlying49
  have hu37 := Tryd.underlying37
  have HR1 := Aside0.mk hr1
  have HC1 := Aside0.mk hc1
  clear hr1 hc1
  have HB := Aside0.mk (Below.refl w.heap.size w)
  have H : ((plan_Steps.f k a0 l1 a2).bind fun bt196 => (if bt196.2 = 0 then ((grid_Dims.f k l1).bind fun t200 => ((shape_All.f k t200).bind fun bt203 => (if bt203.2 = 0 then (plan_Make.l0 k a0 l1 a2 bt203.1 bt196.1 (bt196.1.length : Int) 0 bt203.1 0 0 bt196.1) else (some (0, 0, 0, ([] : List (S37)), bt203.2))))) else (some (0, 0, 0, ([] : List (S37)), bt196.2)))) = some (r1, r2, r3, r4, r5) := h
  clear h
  replace H := Option.bind_eq_some_iff.mp H
  obtain ⟨⟨t196, t197⟩, A40, H⟩ := H
  replace H : (if t197 = 0 then ((grid_Dims.f k l1).bind fun t200 => ((shape_All.f k t200).bind fun bt203 => (if bt203.2 = 0 then (plan_Make.l0 k a0 l1 a2 bt203.1 t196 (t196.length : Int) 0 bt203.1 0 0 t196) else (some (0, 0, 0, ([] : List (S37)), bt203.2))))) else (some (0, 0, 0, ([] : List (S37)), t197))) = some (r1, r2, r3, r4, r5) := H
  have A4 := Aside0.mk A40
  clear A40
  by_cases c5 : t197 = 0
  · rw [if_pos c5] at H
    have c5b0 : (t197 == 0) = true := beq_iff_eq.mpr c5
    have c5b1 : (t197 != 0) = false := bne_eq_false_iff_eq.mpr c5
    clear c5
    replace H := Option.bind_eq_some_iff.mp H
    obtain ⟨t200, A60, H⟩ := H
    replace H : ((shape_All.f k t200).bind fun bt203 => (if bt203.2 = 0 then (plan_Make.l0 k a0 l1 a2 bt203.1 t196 (t196.length : Int) 0 bt203.1 0 0 t196) else (some (0, 0, 0, ([] : List (S37)), bt203.2)))) = some (r1, r2, r3, r4, r5) := H
    have A6 := Aside0.mk A60
    clear A60
    replace H := Option.bind_eq_some_iff.mp H
    obtain ⟨⟨t203, t204⟩, A70, H⟩ := H
    replace H : (if t204 = 0 then (plan_Make.l0 k a0 l1 a2 t203 t196 (t196.length : Int) 0 t203 0 0 t196) else (some (0, 0, 0, ([] : List (S37)), t204))) = some (r1, r2, r3, r4, r5) := H
    have A7 := Aside0.mk A70
    clear A70
    by_cases c8 : t204 = 0
    · rw [if_pos c8] at H
      have c8b0 : (t204 == 0) = true := beq_iff_eq.mpr c8
      have c8b1 : (t204 != 0) = false := bne_eq_false_iff_eq.mpr c8
      clear c8
      have H' := Aside0.mk H
      clear H
      go_enter Tryd.func20, Tryd.ntmps20
      go_wp2_with (first | ((with_reducible refine gate_dst (N := 6) rfl ?_); refine box_event ?hg (N := 6) ?hd (cs := #[.int .i64 0, .int .i64 0, .int .i64 0, .slice none 0 0]) (t := 49) ?hr ?_; (case hd => rfl); (case hg => rfl); (case hr => first | (go_simp; done) | (go_simp; rfl)); intro gb195 hg w9 hbox hb; have n0_ := Aside0.mk (below_step (by repeat (first | (with_reducible first | exact HB.out | apply below_alloc | apply pw_below_drewN | apply below_drew1) | exact HB.out)) hb); have n1_ := Aside0.mk (hbox); have n2_ := Aside0.mk ((by rw [hg]; exact (below_size (by repeat (first | (with_reducible first | exact HB.out | apply below_alloc | apply pw_below_drewN | apply below_drew1) | exact HB.out))) : w.heap.size ≤ gb195)); have n3_ := Aside0.mk ((by rw [hg]; exact (below_size (by repeat (first | (with_reducible first | exact HB.out | apply below_alloc | apply pw_below_drewN | apply below_drew1) | exact HB.out))) : w.heap.size ≤ gb195)); clear HB; have HB := n0_; have BK195 := n1_; have GW195 := n2_; have GE195 := n3_; clear n0_ n1_ n2_ n3_; clear hb hbox hg) | ((with_reducible refine gate_callee (f := 10) rfl ?_); refine goesL_ (some 20) rfl rfl Tryd.func10 (by kernel_rfl) rfl #[.int .u64 a0, .slice A1 l1.length c1, .bool a2] rfl (by (try simp only [List.map_toArray, List.map_cons, List.map_nil]); first | done | rfl | (simp only [List.length_drop, List.length_take]; rfl)) ?_; (with_reducible refine (plan_Steps.calls (hG := ?sideG) k a0 _ _ l1 a2 t196 t197 _ ?side1 ?side2 A4.out).mono ?_); (case sideG => exact tab_below HG.out (by repeat (first | (with_reducible first | exact HB.out | apply below_alloc | apply pw_below_drewN | apply below_drew1 | refine below_set ?_ GE195.out) | exact HB.out))); (case side1 => repeat (first | exact (Kd.C_below HR1.out HB.out) | (with_reducible refine Kd.C_alloc ?_ _) | (with_reducible refine Kd.C_drewN ?_ _) | (with_reducible refine Kd.C_drew ?_))); (case side2 => exact HC1.out); rintro e w10 ⟨v198, rfl, ho0, hb⟩; refine ⟨_, rfl, ?_⟩; have n0_ := Aside0.mk (Kd.R_lower ho0 (below_size (by repeat (first | (with_reducible first | exact HB.out | apply below_alloc | apply pw_below_drewN | apply below_drew1 | refine below_set ?_ GE195.out) | exact HB.out)))); have n1_ := Aside0.mk (blk_below (g := gb195) (o := .cells #[.int .i64 0, .int .i64 0, .int .i64 0, .slice none 0 0] 49 (0, 0)) (by (with_reducible repeat (first | refine blk_drewN ?_ _ | refine blk_drew ?_ | refine blk_alloc ?_ _)); exact BK195.out) hb); have n2_ := Aside0.mk (below_step (by repeat (first | (with_reducible first | exact HB.out | apply below_alloc | apply pw_below_drewN | apply below_drew1 | refine below_set ?_ GE195.out) | exact HB.out)) hb); clear BK195; clear HB; have HO199 := n0_; have BK195 := n1_; have HB := n2_; clear n0_ n1_ n2_; (try clear hb); (try clear hb2); (try clear hk); (try clear hi); (try clear ho0)) | ((with_reducible refine gate_callee (f := 40) rfl ?_); refine goesL_ (some 29) rfl rfl Tryd.func40 (by kernel_rfl) rfl #[.slice A1 l1.length c1] rfl (by (try simp only [List.map_toArray, List.map_cons, List.map_nil]); first | done | rfl | (simp only [List.length_drop, List.length_take]; rfl)) ?_; (with_reducible refine (grid_Dims.calls k _ _ l1 t200 _ ?side1 ?side2 A6.out).mono ?_); (case side1 => repeat (first | exact (Kd.C_below HR1.out HB.out) | (with_reducible refine Kd.C_alloc ?_ _) | (with_reducible refine Kd.C_drewN ?_ _) | (with_reducible refine Kd.C_drew ?_))); (case side2 => exact HC1.out); rintro e w11 ⟨v201, rfl, ho0, hb⟩; refine ⟨_, rfl, ?_⟩; have n0_ := Aside0.mk (Kd.R_below (by (with_reducible repeat (first | apply Kd.R_alloc | apply Kd.R_drewN | apply Kd.R_drew)); exact HO199.out) hb); have n1_ := Aside0.mk (Kd.R_lower ho0 (below_size (by repeat (first | (with_reducible first | exact HB.out | apply below_alloc | apply pw_below_drewN | apply below_drew1 | refine below_set ?_ GE195.out) | exact HB.out)))); have n2_ := Aside0.mk (blk_below (g := gb195) (o := .cells #[.int .i64 0, .int .i64 0, .int .i64 0, .slice none 0 0] 49 (0, 0)) (by (with_reducible repeat (first | refine blk_drewN ?_ _ | refine blk_drew ?_ | refine blk_alloc ?_ _)); exact BK195.out) hb); have n3_ := Aside0.mk (below_step (by repeat (first | (with_reducible first | exact HB.out | apply below_alloc | apply pw_below_drewN | apply below_drew1 | refine below_set ?_ GE195.out) | exact HB.out)) hb); clear HO199; clear BK195; clear HB; have HO199 := n0_; have HO202 := n1_; have BK195 := n2_; have HB := n3_; clear n0_ n1_ n2_ n3_; (try clear hb); (try clear hb2); (try clear hk); (try clear hi); (try clear ho0); obtain ⟨Ao12, co12, eo12⟩ := Kd.R_slice HO202.out; subst eo12) | ((with_reducible refine gate_callee (f := 39) rfl ?_); refine goesL_ (some 30) rfl rfl Tryd.func39 (by kernel_rfl) rfl #[.slice Ao12 t200.length co12] rfl (by (try simp only [List.map_toArray, List.map_cons, List.map_nil]); first | done | rfl | (simp only [List.length_drop, List.length_take]; rfl)) ?_; (with_reducible refine (shape_All.calls k _ _ t200 t203 t204 _ ?side1 ?side2 A7.out).mono ?_); (case side1 => repeat (first | exact (Kd.R_reads' HO202.out).2.2 | (with_reducible refine Kd.C_alloc ?_ _) | (with_reducible refine Kd.C_drewN ?_ _) | (with_reducible refine Kd.C_drew ?_))); (case side2 => exact (Kd.R_reads' HO202.out).2.1); rintro e w' ⟨rfl, ⟨nd, rfl⟩⟩; refine ⟨_, rfl, ?_⟩; (try (rw [drewN_self w11]; generalize hq_ : World.drewN w11 _ = w11; have n0_ : Aside0 (Kd.R k37 37 w11 w.heap.size (fun _ => True) v198 t196) := ⟨by rw [← hq_]; exact (by (with_reducible repeat (first | apply Kd.R_alloc | apply Kd.R_drewN | apply Kd.R_drew)); exact HO199.out)⟩; have n1_ : Aside0 (Kd.R (Kd.int .i64) 3 w11 w.heap.size (fun _ => True) (.slice Ao12 t200.length co12) t200) := ⟨by rw [← hq_]; exact (by (with_reducible repeat (first | apply Kd.R_alloc | apply Kd.R_drewN | apply Kd.R_drew)); exact HO202.out)⟩; have n2_ : Aside0 (w11.heap[gb195]? = some (.cells #[.int .i64 0, .int .i64 0, .int .i64 0, .slice none 0 0] 49 (0, 0))) := ⟨by rw [← hq_]; exact (by (with_reducible repeat (first | refine blk_drewN ?_ _ | refine blk_drew ?_ | refine blk_alloc ?_ _)); exact BK195.out)⟩; have n3_ : Aside0 (Below w.heap.size w w11) := ⟨by rw [← hq_]; exact (by repeat (first | (with_reducible first | exact HB.out | apply below_alloc | apply pw_below_drewN | apply below_drew1 | refine below_set ?_ GE195.out) | exact HB.out))⟩; clear HO199 HO202 BK195 HB hq_; have HO199 := n0_; have HO202 := n1_; have BK195 := n2_; have HB := n3_; clear n0_ n1_ n2_ n3_)); obtain ⟨Ao13, co13, eo13⟩ := Kd.R_slice HO199.out; subst eo13) | ((with_reducible refine gate_dst (N := 11) rfl ?_); refine box_event ?hg (N := 11) ?hd (cs := #[.int .i64 0, .int .i64 0, .int .i64 0, .slice none 0 0]) (t := 49) ?hr ?_; (case hd => rfl); (case hg => rfl); (case hr => first | (go_simp; done) | (go_simp; rfl)); intro gb205 hg w14 hbox hb; have n0_ := Aside0.mk (Kd.R_below (by (with_reducible repeat (first | apply Kd.R_alloc | apply Kd.R_drewN | apply Kd.R_drew)); exact HO199.out) hb); have n1_ := Aside0.mk (Kd.R_below (by (with_reducible repeat (first | apply Kd.R_alloc | apply Kd.R_drewN | apply Kd.R_drew)); exact HO202.out) hb); have n2_ := Aside0.mk (blk_below (g := gb195) (o := .cells #[.int .i64 0, .int .i64 0, .int .i64 0, .slice none 0 0] 49 (0, 0)) (by (with_reducible repeat (first | refine blk_drewN ?_ _ | refine blk_drew ?_ | refine blk_alloc ?_ _)); exact BK195.out) hb); have n3_ := Aside0.mk (below_step (by repeat (first | (with_reducible first | exact HB.out | apply below_alloc | apply pw_below_drewN | apply below_drew1 | refine below_set ?_ GE195.out) | exact HB.out)) hb); have n4_ := Aside0.mk (hbox); have n5_ := Aside0.mk ((by rw [hg]; exact (below_size (by repeat (first | (with_reducible first | exact HB.out | apply below_alloc | apply pw_below_drewN | apply below_drew1 | refine below_set ?_ GE195.out) | exact HB.out))) : w.heap.size ≤ gb205)); have n6_ := Aside0.mk ((by rw [hg]; exact (below_size (by repeat (first | (with_reducible first | exact HB.out | apply below_alloc | apply pw_below_drewN | apply below_drew1 | refine below_set ?_ GE195.out) | exact HB.out))) : w.heap.size ≤ gb205)); have n7_ := Aside0.mk ((by rw [hg]; exact Nat.ne_of_lt (blk_lt (g := gb195) (o := .cells #[.int .i64 0, .int .i64 0, .int .i64 0, .slice none 0 0] 49 (0, 0)) (by (with_reducible repeat (first | refine blk_drewN ?_ _ | refine blk_drew ?_ | refine blk_alloc ?_ _)); exact BK195.out)) : gb195 ≠ gb205)); have n8_ := Aside0.mk ((by rw [hg]; exact Nat.ne_of_gt (blk_lt (g := gb195) (o := .cells #[.int .i64 0, .int .i64 0, .int .i64 0, .slice none 0 0] 49 (0, 0)) (by (with_reducible repeat (first | refine blk_drewN ?_ _ | refine blk_drew ?_ | refine blk_alloc ?_ _)); exact BK195.out)) : gb205 ≠ gb195)); clear HO199; clear HO202; clear BK195; clear HB; have HO199 := n0_; have HO202 := n1_; have BK195 := n2_; have HB := n3_; have BK205 := n4_; have GW205 := n5_; have GE205 := n6_; have NB195_205 := n7_; have NB205_195 := n8_; clear n0_ n1_ n2_ n3_ n4_ n5_ n6_ n7_ n8_; clear hb hbox hg; have hnb15 := NB205_195.out; have hnc15 := NB195_205.out; have hcz16_0 : w14.cell? ⟨gb205, 0, none⟩ = some (.int .i64 0) := (blk_cell BK205.out 0).trans rfl; have hcz16_1 : w14.cell? ⟨gb205, 1, none⟩ = some (.int .i64 0) := (blk_cell BK205.out 1).trans rfl; have hcz16_2 : w14.cell? ⟨gb205, 2, none⟩ = some (.int .i64 0) := (blk_cell BK205.out 2).trans rfl; have hcz16_3 : w14.cell? ⟨gb205, 3, none⟩ = some (.slice none 0 0) := (blk_cell BK205.out 3).trans rfl; have hfz16_0 := blk_frozen BK205.out 0; have hfz16_1 := blk_frozen BK205.out 1; have hfz16_2 := blk_frozen BK205.out 2; have hfz16_3 := blk_frozen BK205.out 3))
      go_loopg [42] k (fun kq v42 w' => ∃ (x42_1 : Int) (x196000_1 : Int) (x196001_1 : Int) (x196002_1 : Int) (x206001_1 : Int), v42 = .int .i64 x42_1 ∧ Aside0 (plan_Make.l0 kq a0 l1 a2 t203 t196 (t196.length : Int) x42_1 t203 x206001_1 0 t196 = some (r1, r2, r3, r4, r5)) ∧ Aside0 (kq ≤ k) ∧ Aside0 (Kd.R k37 37 w' w.heap.size (fun _ => True) (.slice Ao13 t196.length co13) t196) ∧ Aside0 (Kd.R k37 37 w' w.heap.size (fun _ => True) (.slice Ao13 t196.length co13) t196) ∧ Aside0 (w'.heap[gb195]? = some (.cells #[.int .i64 x196000_1, .int .i64 x196001_1, .int .i64 x196002_1, (.slice none 0 0)] 49 (0, 0))) ∧ Aside0 (w'.heap[gb205]? = some (.cells #[.int .i64 t203, .int .i64 x206001_1, .int .i64 0, (.slice Ao13 t196.length co13)] 49 (0, 0))) ∧ Aside0 (Below w.heap.size w w'))
      case atStart => exact ⟨(0), (0), (0), (0), (0), (by first | rfl | (simp; done) | (simp [*]; done)), H', ⟨Nat.le_refl _⟩, ⟨by (with_reducible repeat (first | apply Kd.R_alloc | apply Kd.R_drewN | apply Kd.R_drew)); exact Kd.R_mono (Kd.R_far (p := ⟨gb205, 3, none⟩) (Kd.R_far (p := ⟨gb205, 2, none⟩) (Kd.R_far (p := ⟨gb205, 1, none⟩) (Kd.R_far (p := ⟨gb205, 0, none⟩) (Kd.R_types HO199.out BK205.out (by decide)) (fun _ hk => hk.2) (.int .i64 t203)) (fun _ hk => hk.2) (.int .i64 0)) (fun _ hk => hk.2) (.int .i64 0)) (fun _ hk => hk.2) (.slice Ao13 t196.length co13)) (fun _ hk => trivial)⟩, ⟨by (with_reducible repeat (first | apply Kd.R_alloc | apply Kd.R_drewN | apply Kd.R_drew)); exact Kd.R_mono (Kd.R_far (p := ⟨gb205, 3, none⟩) (Kd.R_far (p := ⟨gb205, 2, none⟩) (Kd.R_far (p := ⟨gb205, 1, none⟩) (Kd.R_far (p := ⟨gb205, 0, none⟩) (Kd.R_types HO199.out BK205.out (by decide)) (fun _ hk => hk.2) (.int .i64 t203)) (fun _ hk => hk.2) (.int .i64 0)) (fun _ hk => hk.2) (.int .i64 0)) (fun _ hk => hk.2) (.slice Ao13 t196.length co13)) (fun _ hk => trivial)⟩, ⟨by (with_reducible repeat (first | refine blk_drewN ?_ _ | refine blk_drew ?_ | refine blk_alloc ?_ _)); refine blk_far ?_ NB195_205.out _; (with_reducible repeat (first | refine blk_drewN ?_ _ | refine blk_drew ?_ | refine blk_alloc ?_ _)); refine blk_far ?_ NB195_205.out _; (with_reducible repeat (first | refine blk_drewN ?_ _ | refine blk_drew ?_ | refine blk_alloc ?_ _)); refine blk_far ?_ NB195_205.out _; (with_reducible repeat (first | refine blk_drewN ?_ _ | refine blk_drew ?_ | refine blk_alloc ?_ _)); refine blk_far ?_ NB195_205.out _; (with_reducible repeat (first | refine blk_drewN ?_ _ | refine blk_drew ?_ | refine blk_alloc ?_ _)); exact BK195.out⟩, ⟨by (with_reducible repeat (first | refine blk_drewN ?_ _ | refine blk_drew ?_ | refine blk_alloc ?_ _)); refine blk_put (cs := #[.int .i64 t203, .int .i64 0, .int .i64 0, .slice none 0 0]) ?_ 3 _ rfl; (with_reducible repeat (first | refine blk_drewN ?_ _ | refine blk_drew ?_ | refine blk_alloc ?_ _)); refine blk_put (cs := #[.int .i64 t203, .int .i64 0, .int .i64 0, .slice none 0 0]) ?_ 2 _ rfl; (with_reducible repeat (first | refine blk_drewN ?_ _ | refine blk_drew ?_ | refine blk_alloc ?_ _)); refine blk_put (cs := #[.int .i64 t203, .int .i64 0, .int .i64 0, .slice none 0 0]) ?_ 1 _ rfl; (with_reducible repeat (first | refine blk_drewN ?_ _ | refine blk_drew ?_ | refine blk_alloc ?_ _)); refine blk_put (cs := #[.int .i64 0, .int .i64 0, .int .i64 0, .slice none 0 0]) ?_ 0 _ rfl; (with_reducible repeat (first | refine blk_drewN ?_ _ | refine blk_drew ?_ | refine blk_alloc ?_ _)); exact BK205.out⟩, ⟨by repeat (first | (with_reducible first | exact HB.out | apply below_alloc | apply pw_below_drewN | apply below_drew1 | refine below_set ?_ GE195.out | refine below_set ?_ GE205.out) | exact HB.out)⟩⟩
      case round =>
        clear H'
        try clear c1
        try clear c2
        try clear p2
        try clear c3
        try clear c4
        try clear c5
        try clear c5b0
        try clear c5b1
        try clear c8
        try clear c8b0
        try clear c8b1
        try clear c10
        try clear c15
        try clear hcz16_0
        try clear hcz16_1
        try clear hcz16_2
        try clear hcz16_3
        try clear hfz16_0
        try clear hfz16_1
        try clear hfz16_2
        try clear hfz16_3
        obtain ⟨x42_1, x196000_1, x196001_1, x196002_1, x206001_1, rfl, HA, HK1, HO_40, HO_206003, BK195, BK205, HB⟩ := hrel
        cases gk with
        | zero => exact absurd HA.out (by simp [plan_Make.l0])
        | succ k1 =>
          have H := HA.out
          clear HA
          simp only [plan_Make.l0] at H
          by_cases c17 : x42_1 < (t196.length : Int)
          · rw [if_pos c17] at H
            have c17b0 : decide (x42_1 < (t196.length : Int)) = true := decide_eq_true c17
            clear c17
            by_cases c18 : 0 ≤ x42_1
            · rw [if_pos c18] at H
              have c18b0 : decide (0 ≤ x42_1) = true := decide_eq_true c18
              clear c18
              by_cases c19 : x42_1 < (t196.length : Int)
              · rw [if_pos c19] at H
                have c19b0 : decide (x42_1 < (t196.length : Int)) = true := decide_eq_true c19
                clear c19
                replace H := Option.bind_eq_some_iff.mp H
                obtain ⟨⟨t208, t211⟩, A200, H⟩ := H
                replace H : (if t211 = 0 then (plan_Make.l0 k1 a0 l1 a2 t203 t196 (t196.length : Int) (wrap64 (x42_1 + 1)) t203 (mx x206001_1 (t208.length : Int)) 0 t196) else (some (0, 0, 0, ([] : List (S37)), t211))) = some (r1, r2, r3, r4, r5) := H
                have A20 := Aside0.mk A200
                clear A200
                by_cases c21 : t211 = 0
                · rw [if_pos c21] at H
                  have c21b0 : (t211 == 0) = true := beq_iff_eq.mpr c21
                  have c21b1 : (t211 != 0) = false := bne_eq_false_iff_eq.mpr c21
                  clear c21
                  obtain ⟨ji22, hji22⟩ : ∃ j_ : Int, (mx x206001_1 (t208.length : Int)) = j_ := ⟨_, rfl⟩
                  replace H : (plan_Make.l0 k1 a0 l1 a2 t203 t196 (t196.length : Int) (wrap64 (x42_1 + 1)) t203 ji22 0 t196) = some (r1, r2, r3, r4, r5) := by first | (rw [hji22] at H; exact H) | (simp only [hji22] at H ⊢; exact H)
                  (try rw [hji22] at A20)
                  have hji22_ : (if x206001_1 < (t208.length : Int) then (t208.length : Int) else x206001_1) = ji22 := hji22
                  have H' := Aside0.mk H
                  clear H
                  have p206 : 0 ≤ (x42_1 : Int) := of_decide_eq_true (by first | (with_reducible assumption) | assumption)
                  have q206 : x42_1 < (t196.length : Int) := of_decide_eq_true (by first | (with_reducible assumption) | assumption)
                  obtain ⟨ad206, e206, hx206_0, hx206_1, hx206_2, hx206_3, hx206_4⟩ := at_T37 (Kd.R_reads' HO_40.out).2.2 x42_1 p206 q206
                  cases e206
                  replace p206 := eq_true p206
                  replace q206 := eq_true q206
                  go_wp2_with (first | ((with_reducible refine gate_dst (N := 13) rfl ?_); refine box_event ?hg (N := 13) ?hd (cs := #[.int .i64 0, .bool false, .int .i64 0, .int .i64 0, .int .i64 0]) (t := 37) ?hr ?_; (case hd => rfl); (case hg => rfl); (case hr => first | (go_simp; done) | (go_simp; rfl)); intro gb207 hg w23 hbox hb; have n0_ := Aside0.mk (Kd.R_below (Kd.R_elderB (by (with_reducible repeat (first | apply Kd.R_alloc | apply Kd.R_drewN | apply Kd.R_drew)); exact HO_40.out) gb207 (Nat.le_of_eq hg.symm)) hb); have n1_ := Aside0.mk (Kd.R_below (Kd.R_elderB (by (with_reducible repeat (first | apply Kd.R_alloc | apply Kd.R_drewN | apply Kd.R_drew)); exact HO_206003.out) gb207 (Nat.le_of_eq hg.symm)) hb); have n2_ := Aside0.mk (blk_below (g := gb195) (o := .cells #[.int .i64 x196000_1, .int .i64 x196001_1, .int .i64 x196002_1, .slice none 0 0] 49 (0, 0)) (by (with_reducible repeat (first | refine blk_drewN ?_ _ | refine blk_drew ?_ | refine blk_alloc ?_ _)); exact BK195.out) hb); have n3_ := Aside0.mk (blk_below (g := gb205) (o := .cells #[.int .i64 t203, .int .i64 x206001_1, .int .i64 0, .slice (some ad206) t196.length co13] 49 (0, 0)) (by (with_reducible repeat (first | refine blk_drewN ?_ _ | refine blk_drew ?_ | refine blk_alloc ?_ _)); exact BK205.out) hb); have n4_ := Aside0.mk (below_step (by repeat (first | (with_reducible first | exact HB.out | apply below_alloc | apply pw_below_drewN | apply below_drew1 | refine below_set ?_ GE195.out | refine below_set ?_ GE205.out) | exact HB.out)) hb); have n5_ := Aside0.mk (hbox); have n6_ := Aside0.mk ((by rw [hg]; exact (below_size (by repeat (first | (with_reducible first | exact HB.out | apply below_alloc | apply pw_below_drewN | apply below_drew1 | refine below_set ?_ GE195.out | refine below_set ?_ GE205.out) | exact HB.out))) : w.heap.size ≤ gb207)); have n7_ := Aside0.mk ((by rw [hg]; exact (below_size (by repeat (first | (with_reducible first | exact HB.out | apply below_alloc | apply pw_below_drewN | apply below_drew1 | refine below_set ?_ GE195.out | refine below_set ?_ GE205.out) | exact HB.out))) : w.heap.size ≤ gb207)); have n8_ := Aside0.mk ((by rw [hg]; exact Nat.ne_of_lt (blk_lt (g := gb195) (o := .cells #[.int .i64 x196000_1, .int .i64 x196001_1, .int .i64 x196002_1, .slice none 0 0] 49 (0, 0)) (by (with_reducible repeat (first | refine blk_drewN ?_ _ | refine blk_drew ?_ | refine blk_alloc ?_ _)); exact BK195.out)) : gb195 ≠ gb207)); have n9_ := Aside0.mk ((by rw [hg]; exact Nat.ne_of_gt (blk_lt (g := gb195) (o := .cells #[.int .i64 x196000_1, .int .i64 x196001_1, .int .i64 x196002_1, .slice none 0 0] 49 (0, 0)) (by (with_reducible repeat (first | refine blk_drewN ?_ _ | refine blk_drew ?_ | refine blk_alloc ?_ _)); exact BK195.out)) : gb207 ≠ gb195)); have n10_ := Aside0.mk ((by rw [hg]; exact Nat.ne_of_lt (blk_lt (g := gb205) (o := .cells #[.int .i64 t203, .int .i64 x206001_1, .int .i64 0, .slice (some ad206) t196.length co13] 49 (0, 0)) (by (with_reducible repeat (first | refine blk_drewN ?_ _ | refine blk_drew ?_ | refine blk_alloc ?_ _)); exact BK205.out)) : gb205 ≠ gb207)); have n11_ := Aside0.mk ((by rw [hg]; exact Nat.ne_of_gt (blk_lt (g := gb205) (o := .cells #[.int .i64 t203, .int .i64 x206001_1, .int .i64 0, .slice (some ad206) t196.length co13] 49 (0, 0)) (by (with_reducible repeat (first | refine blk_drewN ?_ _ | refine blk_drew ?_ | refine blk_alloc ?_ _)); exact BK205.out)) : gb207 ≠ gb205)); clear HO_40; clear HO_206003; clear BK195; clear BK205; clear HB; have HO_40 := n0_; have HO_206003 := n1_; have BK195 := n2_; have BK205 := n3_; have HB := n4_; have BK207 := n5_; have GW207 := n6_; have GE207 := n7_; have NB195_207 := n8_; have NB207_195 := n9_; have NB205_207 := n10_; have NB207_205 := n11_; clear n0_ n1_ n2_ n3_ n4_ n5_ n6_ n7_ n8_ n9_ n10_ n11_; clear hb hbox hg; have hnb24 := NB207_195.out; have hnc24 := NB195_207.out; have hnb25 := NB207_205.out; have hnc25 := NB205_207.out; have hcz26_0 : w23.cell? ⟨gb207, 0, none⟩ = some (.int .i64 0) := (blk_cell BK207.out 0).trans rfl; have hcz26_1 : w23.cell? ⟨gb207, 1, none⟩ = some (.bool false) := (blk_cell BK207.out 1).trans rfl; have hcz26_2 : w23.cell? ⟨gb207, 2, none⟩ = some (.int .i64 0) := (blk_cell BK207.out 2).trans rfl; have hcz26_3 : w23.cell? ⟨gb207, 3, none⟩ = some (.int .i64 0) := (blk_cell BK207.out 3).trans rfl; have hcz26_4 : w23.cell? ⟨gb207, 4, none⟩ = some (.int .i64 0) := (blk_cell BK207.out 4).trans rfl; have hfz26_0 := blk_frozen BK207.out 0; have hfz26_1 := blk_frozen BK207.out 1; have hfz26_2 := blk_frozen BK207.out 2; have hfz26_3 := blk_frozen BK207.out 3; have hfz26_4 := blk_frozen BK207.out 4) | ((with_reducible refine gate_callee (f := 11) rfl ?_); refine goesL_ (some 51) rfl rfl Tryd.func11 (by kernel_rfl) rfl #[.int .u64 a0, .slice A1 l1.length c1, .bool a2, .agg #[.int .i64 ((rd_T37 t196 x42_1).f0), .bool ((rd_T37 t196 x42_1).f1), .int .i64 ((rd_T37 t196 x42_1).f2.f0), .int .i64 ((rd_T37 t196 x42_1).f2.f1), .int .i64 ((rd_T37 t196 x42_1).f2.f2)]] rfl (by (try simp only [List.map_toArray, List.map_cons, List.map_nil]); first | done | rfl | (simp only [List.length_drop, List.length_take]; rfl)) ?_; (with_reducible refine (step_Table.calls (hG := ?sideG) k1 a0 _ _ l1 a2 ((rd_T37 t196 x42_1).f0) ((rd_T37 t196 x42_1).f1) ((rd_T37 t196 x42_1).f2.f0) ((rd_T37 t196 x42_1).f2.f1) ((rd_T37 t196 x42_1).f2.f2) t208 t211 _ ?side1 ?side2 A20.out).mono ?_); (case sideG => exact tab_below HG.out (by repeat (first | (with_reducible first | exact HB.out | apply below_alloc | apply pw_below_drewN | apply below_drew1 | refine below_set ?_ GE195.out | refine below_set ?_ GE205.out | refine below_set ?_ GE207.out) | exact HB.out))); (case side1 => exact Kd.C_below HR1.out (by repeat (first | (with_reducible first | exact HB.out | apply below_alloc | apply pw_below_drewN | apply below_drew1 | refine below_set ?_ GE195.out | refine below_set ?_ GE205.out | refine below_set ?_ GE207.out) | exact HB.out))); (case side2 => exact HC1.out); rintro e w27 ⟨v209, rfl, ho0, hb⟩; refine ⟨_, rfl, ?_⟩; have n0_ := Aside0.mk (Kd.R_below (by (with_reducible repeat (first | apply Kd.R_alloc | apply Kd.R_drewN | apply Kd.R_drew)); exact (Kd.R_mono (Kd.R_far (p := ⟨gb207, 4, none⟩) (Kd.R_far (p := ⟨gb207, 3, none⟩) (Kd.R_far (p := ⟨gb207, 2, none⟩) (Kd.R_far (p := ⟨gb207, 1, none⟩) (Kd.R_far (p := ⟨gb207, 0, none⟩) (Kd.R_mono HO_40.out (fun k_ hk => (⟨hk, hk.2⟩ : _ ∧ k_ ≠ gb207))) (fun _ hk => hk.2) (.int .i64 ((rd_T37 t196 x42_1).f0))) (fun _ hk => hk.2) (.bool ((rd_T37 t196 x42_1).f1))) (fun _ hk => hk.2) (.int .i64 ((rd_T37 t196 x42_1).f2.f0))) (fun _ hk => hk.2) (.int .i64 ((rd_T37 t196 x42_1).f2.f1))) (fun _ hk => hk.2) (.int .i64 ((rd_T37 t196 x42_1).f2.f2))) (fun _ h_ => h_.1))) hb); have n1_ := Aside0.mk (Kd.R_below (by (with_reducible repeat (first | apply Kd.R_alloc | apply Kd.R_drewN | apply Kd.R_drew)); exact (Kd.R_mono (Kd.R_far (p := ⟨gb207, 4, none⟩) (Kd.R_far (p := ⟨gb207, 3, none⟩) (Kd.R_far (p := ⟨gb207, 2, none⟩) (Kd.R_far (p := ⟨gb207, 1, none⟩) (Kd.R_far (p := ⟨gb207, 0, none⟩) (Kd.R_mono HO_206003.out (fun k_ hk => (⟨hk, hk.2⟩ : _ ∧ k_ ≠ gb207))) (fun _ hk => hk.2) (.int .i64 ((rd_T37 t196 x42_1).f0))) (fun _ hk => hk.2) (.bool ((rd_T37 t196 x42_1).f1))) (fun _ hk => hk.2) (.int .i64 ((rd_T37 t196 x42_1).f2.f0))) (fun _ hk => hk.2) (.int .i64 ((rd_T37 t196 x42_1).f2.f1))) (fun _ hk => hk.2) (.int .i64 ((rd_T37 t196 x42_1).f2.f2))) (fun _ h_ => h_.1))) hb); have n2_ := Aside0.mk (Kd.R_lower ho0 (below_size (by repeat (first | (with_reducible first | exact HB.out | apply below_alloc | apply pw_below_drewN | apply below_drew1 | refine below_set ?_ GE195.out | refine below_set ?_ GE205.out | refine below_set ?_ GE207.out) | exact HB.out)))); have n3_ := Aside0.mk (blk_below (g := gb195) (o := .cells #[.int .i64 x196000_1, .int .i64 x196001_1, .int .i64 x196002_1, .slice none 0 0] 49 (0, 0)) (by (with_reducible repeat (first | refine blk_drewN ?_ _ | refine blk_drew ?_ | refine blk_alloc ?_ _)); refine blk_far ?_ NB195_207.out _; (with_reducible repeat (first | refine blk_drewN ?_ _ | refine blk_drew ?_ | refine blk_alloc ?_ _)); refine blk_far ?_ NB195_207.out _; (with_reducible repeat (first | refine blk_drewN ?_ _ | refine blk_drew ?_ | refine blk_alloc ?_ _)); refine blk_far ?_ NB195_207.out _; (with_reducible repeat (first | refine blk_drewN ?_ _ | refine blk_drew ?_ | refine blk_alloc ?_ _)); refine blk_far ?_ NB195_207.out _; (with_reducible repeat (first | refine blk_drewN ?_ _ | refine blk_drew ?_ | refine blk_alloc ?_ _)); refine blk_far ?_ NB195_207.out _; (with_reducible repeat (first | refine blk_drewN ?_ _ | refine blk_drew ?_ | refine blk_alloc ?_ _)); exact BK195.out) hb); have n4_ := Aside0.mk (blk_below (g := gb205) (o := .cells #[.int .i64 t203, .int .i64 x206001_1, .int .i64 0, .slice (some ad206) t196.length co13] 49 (0, 0)) (by (with_reducible repeat (first | refine blk_drewN ?_ _ | refine blk_drew ?_ | refine blk_alloc ?_ _)); refine blk_far ?_ NB205_207.out _; (with_reducible repeat (first | refine blk_drewN ?_ _ | refine blk_drew ?_ | refine blk_alloc ?_ _)); refine blk_far ?_ NB205_207.out _; (with_reducible repeat (first | refine blk_drewN ?_ _ | refine blk_drew ?_ | refine blk_alloc ?_ _)); refine blk_far ?_ NB205_207.out _; (with_reducible repeat (first | refine blk_drewN ?_ _ | refine blk_drew ?_ | refine blk_alloc ?_ _)); refine blk_far ?_ NB205_207.out _; (with_reducible repeat (first | refine blk_drewN ?_ _ | refine blk_drew ?_ | refine blk_alloc ?_ _)); refine blk_far ?_ NB205_207.out _; (with_reducible repeat (first | refine blk_drewN ?_ _ | refine blk_drew ?_ | refine blk_alloc ?_ _)); exact BK205.out) hb); have n5_ := Aside0.mk (blk_below (g := gb207) (o := .cells #[.int .i64 ((rd_T37 t196 x42_1).f0), .bool ((rd_T37 t196 x42_1).f1), .int .i64 ((rd_T37 t196 x42_1).f2.f0), .int .i64 ((rd_T37 t196 x42_1).f2.f1), .int .i64 ((rd_T37 t196 x42_1).f2.f2)] 37 (0, 0)) (by (with_reducible repeat (first | refine blk_drewN ?_ _ | refine blk_drew ?_ | refine blk_alloc ?_ _)); refine blk_put (cs := #[.int .i64 ((rd_T37 t196 x42_1).f0), .bool ((rd_T37 t196 x42_1).f1), .int .i64 ((rd_T37 t196 x42_1).f2.f0), .int .i64 ((rd_T37 t196 x42_1).f2.f1), .int .i64 0]) ?_ 4 _ rfl; (with_reducible repeat (first | refine blk_drewN ?_ _ | refine blk_drew ?_ | refine blk_alloc ?_ _)); refine blk_put (cs := #[.int .i64 ((rd_T37 t196 x42_1).f0), .bool ((rd_T37 t196 x42_1).f1), .int .i64 ((rd_T37 t196 x42_1).f2.f0), .int .i64 0, .int .i64 0]) ?_ 3 _ rfl; (with_reducible repeat (first | refine blk_drewN ?_ _ | refine blk_drew ?_ | refine blk_alloc ?_ _)); refine blk_put (cs := #[.int .i64 ((rd_T37 t196 x42_1).f0), .bool ((rd_T37 t196 x42_1).f1), .int .i64 0, .int .i64 0, .int .i64 0]) ?_ 2 _ rfl; (with_reducible repeat (first | refine blk_drewN ?_ _ | refine blk_drew ?_ | refine blk_alloc ?_ _)); refine blk_put (cs := #[.int .i64 ((rd_T37 t196 x42_1).f0), .bool false, .int .i64 0, .int .i64 0, .int .i64 0]) ?_ 1 _ rfl; (with_reducible repeat (first | refine blk_drewN ?_ _ | refine blk_drew ?_ | refine blk_alloc ?_ _)); refine blk_put (cs := #[.int .i64 0, .bool false, .int .i64 0, .int .i64 0, .int .i64 0]) ?_ 0 _ rfl; (with_reducible repeat (first | refine blk_drewN ?_ _ | refine blk_drew ?_ | refine blk_alloc ?_ _)); exact BK207.out) hb); have n6_ := Aside0.mk (below_step (by repeat (first | (with_reducible first | exact HB.out | apply below_alloc | apply pw_below_drewN | apply below_drew1 | refine below_set ?_ GE195.out | refine below_set ?_ GE205.out | refine below_set ?_ GE207.out) | exact HB.out)) hb); clear HO_40; clear HO_206003; clear BK195; clear BK205; clear BK207; clear HB; have HO_40 := n0_; have HO_206003 := n1_; have HO210 := n2_; have BK195 := n3_; have BK205 := n4_; have BK207 := n5_; have HB := n6_; clear n0_ n1_ n2_ n3_ n4_ n5_ n6_; (try clear hb); (try clear hb2); (try clear hk); (try clear hi); (try clear ho0); have hnb28 := NB205_195.out; have hnc28 := NB195_205.out; have hcz29_0 : w27.cell? ⟨gb205, 0, none⟩ = some (.int .i64 t203) := (blk_cell BK205.out 0).trans rfl; have hcz29_1 : w27.cell? ⟨gb205, 1, none⟩ = some (.int .i64 x206001_1) := (blk_cell BK205.out 1).trans rfl; have hcz29_2 : w27.cell? ⟨gb205, 2, none⟩ = some (.int .i64 0) := (blk_cell BK205.out 2).trans rfl; have hcz29_3 : w27.cell? ⟨gb205, 3, none⟩ = some (.slice (some ad206) t196.length co13) := (blk_cell BK205.out 3).trans rfl; have hfz29_0 := blk_frozen BK205.out 0; have hfz29_1 := blk_frozen BK205.out 1; have hfz29_2 := blk_frozen BK205.out 2; have hfz29_3 := blk_frozen BK205.out 3; obtain ⟨Ao30, co30, eo30⟩ := Kd.R_slice HO210.out; subst eo30))
                  go_roundg k1
                  case measure => have := HK1.out; omega
                  case rel => exact ⟨(wrap64 (x42_1 + 1)), (x196000_1), (x196001_1), (x196002_1), (ji22), (by first | rfl | (simp; done) | (simp [*]; done)), H', ⟨by have := HK1.out; omega⟩, ⟨by (with_reducible repeat (first | apply Kd.R_alloc | apply Kd.R_drewN | apply Kd.R_drew)); exact Kd.R_mono (Kd.R_far (p := ⟨gb205, 1, none⟩) (Kd.R_types HO_40.out BK205.out (by decide)) (fun _ hk => hk.2) (.int .i64 ji22)) (fun _ hk => trivial)⟩, ⟨by (with_reducible repeat (first | apply Kd.R_alloc | apply Kd.R_drewN | apply Kd.R_drew)); exact Kd.R_mono (Kd.R_far (p := ⟨gb205, 1, none⟩) (Kd.R_types HO_206003.out BK205.out (by decide)) (fun _ hk => hk.2) (.int .i64 ji22)) (fun _ hk => trivial)⟩, ⟨by (with_reducible repeat (first | refine blk_drewN ?_ _ | refine blk_drew ?_ | refine blk_alloc ?_ _)); refine blk_far ?_ NB195_205.out _; (with_reducible repeat (first | refine blk_drewN ?_ _ | refine blk_drew ?_ | refine blk_alloc ?_ _)); exact BK195.out⟩, ⟨by (with_reducible repeat (first | refine blk_drewN ?_ _ | refine blk_drew ?_ | refine blk_alloc ?_ _)); refine blk_put (cs := #[.int .i64 t203, .int .i64 x206001_1, .int .i64 0, .slice (some ad206) t196.length co13]) ?_ 1 _ rfl; (with_reducible repeat (first | refine blk_drewN ?_ _ | refine blk_drew ?_ | refine blk_alloc ?_ _)); exact BK205.out⟩, ⟨by repeat (first | (with_reducible first | exact HB.out | apply below_alloc | apply pw_below_drewN | apply below_drew1 | refine below_set ?_ GE195.out | refine below_set ?_ GE205.out | refine below_set ?_ GE207.out) | exact HB.out)⟩⟩
                · rw [if_neg c21] at H
                  have c21b0 : (t211 == 0) = false := beq_eq_false_iff_ne.mpr c21
                  have c21b1 : (t211 != 0) = true := bne_iff_ne.mpr c21
                  simp only [Option.some.injEq, Prod.mk.injEq] at H
                  obtain ⟨rfl, rfl, rfl, rfl, rfl⟩ := H
                  have p206 : 0 ≤ (x42_1 : Int) := of_decide_eq_true (by first | (with_reducible assumption) | assumption)
                  have q206 : x42_1 < (t196.length : Int) := of_decide_eq_true (by first | (with_reducible assumption) | assumption)
                  obtain ⟨ad206, e206, hx206_0, hx206_1, hx206_2, hx206_3, hx206_4⟩ := at_T37 (Kd.R_reads' HO_40.out).2.2 x42_1 p206 q206
                  cases e206
                  replace p206 := eq_true p206
                  replace q206 := eq_true q206
                  go_wp2_with (first | ((with_reducible refine gate_dst (N := 13) rfl ?_); refine box_event ?hg (N := 13) ?hd (cs := #[.int .i64 0, .bool false, .int .i64 0, .int .i64 0, .int .i64 0]) (t := 37) ?hr ?_; (case hd => rfl); (case hg => rfl); (case hr => first | (go_simp; done) | (go_simp; rfl)); intro gb207 hg w31 hbox hb; have n0_ := Aside0.mk (Kd.R_below (Kd.R_elderB (by (with_reducible repeat (first | apply Kd.R_alloc | apply Kd.R_drewN | apply Kd.R_drew)); exact HO_40.out) gb207 (Nat.le_of_eq hg.symm)) hb); have n1_ := Aside0.mk (Kd.R_below (Kd.R_elderB (by (with_reducible repeat (first | apply Kd.R_alloc | apply Kd.R_drewN | apply Kd.R_drew)); exact HO_206003.out) gb207 (Nat.le_of_eq hg.symm)) hb); have n2_ := Aside0.mk (blk_below (g := gb195) (o := .cells #[.int .i64 x196000_1, .int .i64 x196001_1, .int .i64 x196002_1, .slice none 0 0] 49 (0, 0)) (by (with_reducible repeat (first | refine blk_drewN ?_ _ | refine blk_drew ?_ | refine blk_alloc ?_ _)); exact BK195.out) hb); have n3_ := Aside0.mk (blk_below (g := gb205) (o := .cells #[.int .i64 t203, .int .i64 x206001_1, .int .i64 0, .slice (some ad206) t196.length co13] 49 (0, 0)) (by (with_reducible repeat (first | refine blk_drewN ?_ _ | refine blk_drew ?_ | refine blk_alloc ?_ _)); exact BK205.out) hb); have n4_ := Aside0.mk (below_step (by repeat (first | (with_reducible first | exact HB.out | apply below_alloc | apply pw_below_drewN | apply below_drew1 | refine below_set ?_ GE195.out | refine below_set ?_ GE205.out) | exact HB.out)) hb); have n5_ := Aside0.mk (hbox); have n6_ := Aside0.mk ((by rw [hg]; exact (below_size (by repeat (first | (with_reducible first | exact HB.out | apply below_alloc | apply pw_below_drewN | apply below_drew1 | refine below_set ?_ GE195.out | refine below_set ?_ GE205.out) | exact HB.out))) : w.heap.size ≤ gb207)); have n7_ := Aside0.mk ((by rw [hg]; exact (below_size (by repeat (first | (with_reducible first | exact HB.out | apply below_alloc | apply pw_below_drewN | apply below_drew1 | refine below_set ?_ GE195.out | refine below_set ?_ GE205.out) | exact HB.out))) : w.heap.size ≤ gb207)); have n8_ := Aside0.mk ((by rw [hg]; exact Nat.ne_of_lt (blk_lt (g := gb195) (o := .cells #[.int .i64 x196000_1, .int .i64 x196001_1, .int .i64 x196002_1, .slice none 0 0] 49 (0, 0)) (by (with_reducible repeat (first | refine blk_drewN ?_ _ | refine blk_drew ?_ | refine blk_alloc ?_ _)); exact BK195.out)) : gb195 ≠ gb207)); have n9_ := Aside0.mk ((by rw [hg]; exact Nat.ne_of_gt (blk_lt (g := gb195) (o := .cells #[.int .i64 x196000_1, .int .i64 x196001_1, .int .i64 x196002_1, .slice none 0 0] 49 (0, 0)) (by (with_reducible repeat (first | refine blk_drewN ?_ _ | refine blk_drew ?_ | refine blk_alloc ?_ _)); exact BK195.out)) : gb207 ≠ gb195)); have n10_ := Aside0.mk ((by rw [hg]; exact Nat.ne_of_lt (blk_lt (g := gb205) (o := .cells #[.int .i64 t203, .int .i64 x206001_1, .int .i64 0, .slice (some ad206) t196.length co13] 49 (0, 0)) (by (with_reducible repeat (first | refine blk_drewN ?_ _ | refine blk_drew ?_ | refine blk_alloc ?_ _)); exact BK205.out)) : gb205 ≠ gb207)); have n11_ := Aside0.mk ((by rw [hg]; exact Nat.ne_of_gt (blk_lt (g := gb205) (o := .cells #[.int .i64 t203, .int .i64 x206001_1, .int .i64 0, .slice (some ad206) t196.length co13] 49 (0, 0)) (by (with_reducible repeat (first | refine blk_drewN ?_ _ | refine blk_drew ?_ | refine blk_alloc ?_ _)); exact BK205.out)) : gb207 ≠ gb205)); clear HO_40; clear HO_206003; clear BK195; clear BK205; clear HB; have HO_40 := n0_; have HO_206003 := n1_; have BK195 := n2_; have BK205 := n3_; have HB := n4_; have BK207 := n5_; have GW207 := n6_; have GE207 := n7_; have NB195_207 := n8_; have NB207_195 := n9_; have NB205_207 := n10_; have NB207_205 := n11_; clear n0_ n1_ n2_ n3_ n4_ n5_ n6_ n7_ n8_ n9_ n10_ n11_; clear hb hbox hg; have hnb32 := NB207_195.out; have hnc32 := NB195_207.out; have hnb33 := NB207_205.out; have hnc33 := NB205_207.out; have hcz34_0 : w31.cell? ⟨gb207, 0, none⟩ = some (.int .i64 0) := (blk_cell BK207.out 0).trans rfl; have hcz34_1 : w31.cell? ⟨gb207, 1, none⟩ = some (.bool false) := (blk_cell BK207.out 1).trans rfl; have hcz34_2 : w31.cell? ⟨gb207, 2, none⟩ = some (.int .i64 0) := (blk_cell BK207.out 2).trans rfl; have hcz34_3 : w31.cell? ⟨gb207, 3, none⟩ = some (.int .i64 0) := (blk_cell BK207.out 3).trans rfl; have hcz34_4 : w31.cell? ⟨gb207, 4, none⟩ = some (.int .i64 0) := (blk_cell BK207.out 4).trans rfl; have hfz34_0 := blk_frozen BK207.out 0; have hfz34_1 := blk_frozen BK207.out 1; have hfz34_2 := blk_frozen BK207.out 2; have hfz34_3 := blk_frozen BK207.out 3; have hfz34_4 := blk_frozen BK207.out 4) | ((with_reducible refine gate_callee (f := 11) rfl ?_); refine goesL_ (some 51) rfl rfl Tryd.func11 (by kernel_rfl) rfl #[.int .u64 a0, .slice A1 l1.length c1, .bool a2, .agg #[.int .i64 ((rd_T37 t196 x42_1).f0), .bool ((rd_T37 t196 x42_1).f1), .int .i64 ((rd_T37 t196 x42_1).f2.f0), .int .i64 ((rd_T37 t196 x42_1).f2.f1), .int .i64 ((rd_T37 t196 x42_1).f2.f2)]] rfl (by (try simp only [List.map_toArray, List.map_cons, List.map_nil]); first | done | rfl | (simp only [List.length_drop, List.length_take]; rfl)) ?_; (with_reducible refine (step_Table.calls (hG := ?sideG) k1 a0 _ _ l1 a2 ((rd_T37 t196 x42_1).f0) ((rd_T37 t196 x42_1).f1) ((rd_T37 t196 x42_1).f2.f0) ((rd_T37 t196 x42_1).f2.f1) ((rd_T37 t196 x42_1).f2.f2) t208 t211 _ ?side1 ?side2 A20.out).mono ?_); (case sideG => exact tab_below HG.out (by repeat (first | (with_reducible first | exact HB.out | apply below_alloc | apply pw_below_drewN | apply below_drew1 | refine below_set ?_ GE195.out | refine below_set ?_ GE205.out | refine below_set ?_ GE207.out) | exact HB.out))); (case side1 => exact Kd.C_below HR1.out (by repeat (first | (with_reducible first | exact HB.out | apply below_alloc | apply pw_below_drewN | apply below_drew1 | refine below_set ?_ GE195.out | refine below_set ?_ GE205.out | refine below_set ?_ GE207.out) | exact HB.out))); (case side2 => exact HC1.out); rintro e w35 ⟨v209, rfl, ho0, hb⟩; refine ⟨_, rfl, ?_⟩; have n0_ := Aside0.mk (Kd.R_below (by (with_reducible repeat (first | apply Kd.R_alloc | apply Kd.R_drewN | apply Kd.R_drew)); exact (Kd.R_mono (Kd.R_far (p := ⟨gb207, 4, none⟩) (Kd.R_far (p := ⟨gb207, 3, none⟩) (Kd.R_far (p := ⟨gb207, 2, none⟩) (Kd.R_far (p := ⟨gb207, 1, none⟩) (Kd.R_far (p := ⟨gb207, 0, none⟩) (Kd.R_mono HO_40.out (fun k_ hk => (⟨hk, hk.2⟩ : _ ∧ k_ ≠ gb207))) (fun _ hk => hk.2) (.int .i64 ((rd_T37 t196 x42_1).f0))) (fun _ hk => hk.2) (.bool ((rd_T37 t196 x42_1).f1))) (fun _ hk => hk.2) (.int .i64 ((rd_T37 t196 x42_1).f2.f0))) (fun _ hk => hk.2) (.int .i64 ((rd_T37 t196 x42_1).f2.f1))) (fun _ hk => hk.2) (.int .i64 ((rd_T37 t196 x42_1).f2.f2))) (fun _ h_ => h_.1))) hb); have n1_ := Aside0.mk (Kd.R_below (by (with_reducible repeat (first | apply Kd.R_alloc | apply Kd.R_drewN | apply Kd.R_drew)); exact (Kd.R_mono (Kd.R_far (p := ⟨gb207, 4, none⟩) (Kd.R_far (p := ⟨gb207, 3, none⟩) (Kd.R_far (p := ⟨gb207, 2, none⟩) (Kd.R_far (p := ⟨gb207, 1, none⟩) (Kd.R_far (p := ⟨gb207, 0, none⟩) (Kd.R_mono HO_206003.out (fun k_ hk => (⟨hk, hk.2⟩ : _ ∧ k_ ≠ gb207))) (fun _ hk => hk.2) (.int .i64 ((rd_T37 t196 x42_1).f0))) (fun _ hk => hk.2) (.bool ((rd_T37 t196 x42_1).f1))) (fun _ hk => hk.2) (.int .i64 ((rd_T37 t196 x42_1).f2.f0))) (fun _ hk => hk.2) (.int .i64 ((rd_T37 t196 x42_1).f2.f1))) (fun _ hk => hk.2) (.int .i64 ((rd_T37 t196 x42_1).f2.f2))) (fun _ h_ => h_.1))) hb); have n2_ := Aside0.mk (Kd.R_lower ho0 (below_size (by repeat (first | (with_reducible first | exact HB.out | apply below_alloc | apply pw_below_drewN | apply below_drew1 | refine below_set ?_ GE195.out | refine below_set ?_ GE205.out | refine below_set ?_ GE207.out) | exact HB.out)))); have n3_ := Aside0.mk (blk_below (g := gb195) (o := .cells #[.int .i64 x196000_1, .int .i64 x196001_1, .int .i64 x196002_1, .slice none 0 0] 49 (0, 0)) (by (with_reducible repeat (first | refine blk_drewN ?_ _ | refine blk_drew ?_ | refine blk_alloc ?_ _)); refine blk_far ?_ NB195_207.out _; (with_reducible repeat (first | refine blk_drewN ?_ _ | refine blk_drew ?_ | refine blk_alloc ?_ _)); refine blk_far ?_ NB195_207.out _; (with_reducible repeat (first | refine blk_drewN ?_ _ | refine blk_drew ?_ | refine blk_alloc ?_ _)); refine blk_far ?_ NB195_207.out _; (with_reducible repeat (first | refine blk_drewN ?_ _ | refine blk_drew ?_ | refine blk_alloc ?_ _)); refine blk_far ?_ NB195_207.out _; (with_reducible repeat (first | refine blk_drewN ?_ _ | refine blk_drew ?_ | refine blk_alloc ?_ _)); refine blk_far ?_ NB195_207.out _; (with_reducible repeat (first | refine blk_drewN ?_ _ | refine blk_drew ?_ | refine blk_alloc ?_ _)); exact BK195.out) hb); have n4_ := Aside0.mk (blk_below (g := gb205) (o := .cells #[.int .i64 t203, .int .i64 x206001_1, .int .i64 0, .slice (some ad206) t196.length co13] 49 (0, 0)) (by (with_reducible repeat (first | refine blk_drewN ?_ _ | refine blk_drew ?_ | refine blk_alloc ?_ _)); refine blk_far ?_ NB205_207.out _; (with_reducible repeat (first | refine blk_drewN ?_ _ | refine blk_drew ?_ | refine blk_alloc ?_ _)); refine blk_far ?_ NB205_207.out _; (with_reducible repeat (first | refine blk_drewN ?_ _ | refine blk_drew ?_ | refine blk_alloc ?_ _)); refine blk_far ?_ NB205_207.out _; (with_reducible repeat (first | refine blk_drewN ?_ _ | refine blk_drew ?_ | refine blk_alloc ?_ _)); refine blk_far ?_ NB205_207.out _; (with_reducible repeat (first | refine blk_drewN ?_ _ | refine blk_drew ?_ | refine blk_alloc ?_ _)); refine blk_far ?_ NB205_207.out _; (with_reducible repeat (first | refine blk_drewN ?_ _ | refine blk_drew ?_ | refine blk_alloc ?_ _)); exact BK205.out) hb); have n5_ := Aside0.mk (blk_below (g := gb207) (o := .cells #[.int .i64 ((rd_T37 t196 x42_1).f0), .bool ((rd_T37 t196 x42_1).f1), .int .i64 ((rd_T37 t196 x42_1).f2.f0), .int .i64 ((rd_T37 t196 x42_1).f2.f1), .int .i64 ((rd_T37 t196 x42_1).f2.f2)] 37 (0, 0)) (by (with_reducible repeat (first | refine blk_drewN ?_ _ | refine blk_drew ?_ | refine blk_alloc ?_ _)); refine blk_put (cs := #[.int .i64 ((rd_T37 t196 x42_1).f0), .bool ((rd_T37 t196 x42_1).f1), .int .i64 ((rd_T37 t196 x42_1).f2.f0), .int .i64 ((rd_T37 t196 x42_1).f2.f1), .int .i64 0]) ?_ 4 _ rfl; (with_reducible repeat (first | refine blk_drewN ?_ _ | refine blk_drew ?_ | refine blk_alloc ?_ _)); refine blk_put (cs := #[.int .i64 ((rd_T37 t196 x42_1).f0), .bool ((rd_T37 t196 x42_1).f1), .int .i64 ((rd_T37 t196 x42_1).f2.f0), .int .i64 0, .int .i64 0]) ?_ 3 _ rfl; (with_reducible repeat (first | refine blk_drewN ?_ _ | refine blk_drew ?_ | refine blk_alloc ?_ _)); refine blk_put (cs := #[.int .i64 ((rd_T37 t196 x42_1).f0), .bool ((rd_T37 t196 x42_1).f1), .int .i64 0, .int .i64 0, .int .i64 0]) ?_ 2 _ rfl; (with_reducible repeat (first | refine blk_drewN ?_ _ | refine blk_drew ?_ | refine blk_alloc ?_ _)); refine blk_put (cs := #[.int .i64 ((rd_T37 t196 x42_1).f0), .bool false, .int .i64 0, .int .i64 0, .int .i64 0]) ?_ 1 _ rfl; (with_reducible repeat (first | refine blk_drewN ?_ _ | refine blk_drew ?_ | refine blk_alloc ?_ _)); refine blk_put (cs := #[.int .i64 0, .bool false, .int .i64 0, .int .i64 0, .int .i64 0]) ?_ 0 _ rfl; (with_reducible repeat (first | refine blk_drewN ?_ _ | refine blk_drew ?_ | refine blk_alloc ?_ _)); exact BK207.out) hb); have n6_ := Aside0.mk (below_step (by repeat (first | (with_reducible first | exact HB.out | apply below_alloc | apply pw_below_drewN | apply below_drew1 | refine below_set ?_ GE195.out | refine below_set ?_ GE205.out | refine below_set ?_ GE207.out) | exact HB.out)) hb); clear HO_40; clear HO_206003; clear BK195; clear BK205; clear BK207; clear HB; have HO_40 := n0_; have HO_206003 := n1_; have HO210 := n2_; have BK195 := n3_; have BK205 := n4_; have BK207 := n5_; have HB := n6_; clear n0_ n1_ n2_ n3_ n4_ n5_ n6_; (try clear hb); (try clear hb2); (try clear hk); (try clear hi); (try clear ho0); have hnb36 := NB195_205.out; have hnc36 := NB205_195.out; have hcz37_0 : w35.cell? ⟨gb195, 0, none⟩ = some (.int .i64 x196000_1) := (blk_cell BK195.out 0).trans rfl; have hcz37_1 : w35.cell? ⟨gb195, 1, none⟩ = some (.int .i64 x196001_1) := (blk_cell BK195.out 1).trans rfl; have hcz37_2 : w35.cell? ⟨gb195, 2, none⟩ = some (.int .i64 x196002_1) := (blk_cell BK195.out 2).trans rfl; have hcz37_3 : w35.cell? ⟨gb195, 3, none⟩ = some (.slice none 0 0) := (blk_cell BK195.out 3).trans rfl; have hfz37_0 := blk_frozen BK195.out 0; have hfz37_1 := blk_frozen BK195.out 1; have hfz37_2 := blk_frozen BK195.out 2; have hfz37_3 := blk_frozen BK195.out 3))
                  refine bodyPost_ret (results_ct rfl _ _ gb195 49 #[.int .i64 0, .int .i64 0, .int .i64 0, .slice none 0 0] (0, 0) _ rfl (by (with_reducible repeat (first | refine blk_drewN ?_ _ | refine blk_drew ?_ | refine blk_alloc ?_ _)); refine blk_put (cs := #[.int .i64 0, .int .i64 0, .int .i64 0, .slice none 0 0]) ?_ 3 _ rfl; (with_reducible repeat (first | refine blk_drewN ?_ _ | refine blk_drew ?_ | refine blk_alloc ?_ _)); refine blk_put (cs := #[.int .i64 0, .int .i64 0, .int .i64 x196002_1, .slice none 0 0]) ?_ 2 _ rfl; (with_reducible repeat (first | refine blk_drewN ?_ _ | refine blk_drew ?_ | refine blk_alloc ?_ _)); refine blk_put (cs := #[.int .i64 0, .int .i64 x196001_1, .int .i64 x196002_1, .slice none 0 0]) ?_ 1 _ rfl; (with_reducible repeat (first | refine blk_drewN ?_ _ | refine blk_drew ?_ | refine blk_alloc ?_ _)); refine blk_put (cs := #[.int .i64 x196000_1, .int .i64 x196001_1, .int .i64 x196002_1, .slice none 0 0]) ?_ 0 _ rfl; (with_reducible repeat (first | refine blk_drewN ?_ _ | refine blk_drew ?_ | refine blk_alloc ?_ _)); exact BK195.out) Tryd.underlying49 rfl (by kernel_rfl)) rfl ?_
                  exact ⟨_, by first | rfl | (simp [errW_none, errW_some] <;> rfl) | (simp [*, errW_none, errW_some] <;> rfl), by first | exact Kd.R_nil _ _ _ _ _ | exact Kd.N_nil _ _ _ _ _ | exact Kd.V_nil _ _ _ _ _ | exact Kd.Q_nil _ _ _ _ _ | exact Kd.S_nil _ _ _ _ _, by repeat (first | (with_reducible first | exact HB.out | apply below_alloc | apply pw_below_drewN | apply below_drew1 | refine below_set ?_ GE195.out | refine below_set ?_ GE205.out | refine below_set ?_ GE207.out) | exact HB.out)⟩
              · rw [if_neg c19] at H
                exact absurd H (by simp)
            · rw [if_neg c18] at H
              exact absurd H (by simp)
          · rw [if_neg c17] at H
            have c17b0 : decide (x42_1 < (t196.length : Int)) = false := decide_eq_false c17
            clear c17
            simp only [Option.some.injEq, Prod.mk.injEq] at H
            obtain ⟨rfl, rfl, rfl, rfl, rfl⟩ := H
            have hnb38 := NB205_195.out
            have hnc38 := NB195_205.out
            have hcz39_0 : wr.cell? ⟨gb205, 0, none⟩ = some (.int .i64 t203) := (blk_cell BK205.out 0).trans rfl
            have hcz39_1 : wr.cell? ⟨gb205, 1, none⟩ = some (.int .i64 x206001_1) := (blk_cell BK205.out 1).trans rfl
            have hcz39_2 : wr.cell? ⟨gb205, 2, none⟩ = some (.int .i64 0) := (blk_cell BK205.out 2).trans rfl
            have hcz39_3 : wr.cell? ⟨gb205, 3, none⟩ = some (.slice Ao13 t196.length co13) := (blk_cell BK205.out 3).trans rfl
            have hfz39_0 := blk_frozen BK205.out 0
            have hfz39_1 := blk_frozen BK205.out 1
            have hfz39_2 := blk_frozen BK205.out 2
            have hfz39_3 := blk_frozen BK205.out 3
            have hcz40_0 : wr.cell? ⟨gb195, 0, none⟩ = some (.int .i64 x196000_1) := (blk_cell BK195.out 0).trans rfl
            have hcz40_1 : wr.cell? ⟨gb195, 1, none⟩ = some (.int .i64 x196001_1) := (blk_cell BK195.out 1).trans rfl
            have hcz40_2 : wr.cell? ⟨gb195, 2, none⟩ = some (.int .i64 x196002_1) := (blk_cell BK195.out 2).trans rfl
            have hcz40_3 : wr.cell? ⟨gb195, 3, none⟩ = some (.slice none 0 0) := (blk_cell BK195.out 3).trans rfl
            have hfz40_0 := blk_frozen BK195.out 0
            have hfz40_1 := blk_frozen BK195.out 1
            have hfz40_2 := blk_frozen BK195.out 2
            have hfz40_3 := blk_frozen BK195.out 3
            go_wp2
            refine bodyPost_ret (results_ct rfl _ _ gb195 49 #[.int .i64 t203, .int .i64 x206001_1, .int .i64 (wrap64 ((wrap64 (2 * (wrap64 (t203 + 6)))) + x206001_1)), .slice Ao13 t196.length co13] (0, 0) _ rfl (by (with_reducible repeat (first | refine blk_drewN ?_ _ | refine blk_drew ?_ | refine blk_alloc ?_ _)); refine blk_put (cs := #[.int .i64 t203, .int .i64 x206001_1, .int .i64 (wrap64 ((wrap64 (2 * (wrap64 (t203 + 6)))) + x206001_1)), .slice none 0 0]) ?_ 3 _ rfl; (with_reducible repeat (first | refine blk_drewN ?_ _ | refine blk_drew ?_ | refine blk_alloc ?_ _)); refine blk_put (cs := #[.int .i64 t203, .int .i64 x206001_1, .int .i64 x196002_1, .slice none 0 0]) ?_ 2 _ rfl; (with_reducible repeat (first | refine blk_drewN ?_ _ | refine blk_drew ?_ | refine blk_alloc ?_ _)); refine blk_put (cs := #[.int .i64 t203, .int .i64 x196001_1, .int .i64 x196002_1, .slice none 0 0]) ?_ 1 _ rfl; (with_reducible repeat (first | refine blk_drewN ?_ _ | refine blk_drew ?_ | refine blk_alloc ?_ _)); refine blk_put (cs := #[.int .i64 x196000_1, .int .i64 x196001_1, .int .i64 x196002_1, .slice none 0 0]) ?_ 0 _ rfl; (with_reducible repeat (first | refine blk_drewN ?_ _ | refine blk_drew ?_ | refine blk_alloc ?_ _)); refine blk_far ?_ NB195_205.out _; (with_reducible repeat (first | refine blk_drewN ?_ _ | refine blk_drew ?_ | refine blk_alloc ?_ _)); exact BK195.out) Tryd.underlying49 rfl (by kernel_rfl)) rfl ?_
            exact ⟨_, by first | rfl | (simp [errW_none, errW_some] <;> rfl) | (simp [*, errW_none, errW_some] <;> rfl), by (with_reducible repeat (first | apply Kd.R_alloc | apply Kd.R_drewN | apply Kd.R_drew)); exact Kd.R_mono (Kd.R_far (p := ⟨gb195, 3, none⟩) (Kd.R_far (p := ⟨gb195, 2, none⟩) (Kd.R_far (p := ⟨gb195, 1, none⟩) (Kd.R_far (p := ⟨gb195, 0, none⟩) (Kd.R_far (p := ⟨gb205, 2, none⟩) (Kd.R_types (Kd.R_types HO_206003.out BK205.out (by decide)) BK195.out (by decide)) (fun _ hk => hk.1.2) (.int .i64 (wrap64 ((wrap64 (2 * (wrap64 (t203 + 6)))) + x206001_1)))) (fun _ hk => hk.2) (.int .i64 t203)) (fun _ hk => hk.2) (.int .i64 x206001_1)) (fun _ hk => hk.2) (.int .i64 (wrap64 ((wrap64 (2 * (wrap64 (t203 + 6)))) + x206001_1)))) (fun _ hk => hk.2) (.slice Ao13 t196.length co13)) (fun _ hk => trivial), by repeat (first | (with_reducible first | exact HB.out | apply below_alloc | apply pw_below_drewN | apply below_drew1 | refine below_set ?_ GE195.out | refine below_set ?_ GE205.out) | exact HB.out)⟩
    · rw [if_neg c8] at H
      have c8b0 : (t204 == 0) = false := beq_eq_false_iff_ne.mpr c8
      have c8b1 : (t204 != 0) = true := bne_iff_ne.mpr c8
      simp only [Option.some.injEq, Prod.mk.injEq] at H
      obtain ⟨rfl, rfl, rfl, rfl, rfl⟩ := H
      go_enter Tryd.func20, Tryd.ntmps20
      go_wp2_with (first | ((with_reducible refine gate_dst (N := 6) rfl ?_); refine box_event ?hg (N := 6) ?hd (cs := #[.int .i64 0, .int .i64 0, .int .i64 0, .slice none 0 0]) (t := 49) ?hr ?_; (case hd => rfl); (case hg => rfl); (case hr => first | (go_simp; done) | (go_simp; rfl)); intro gb195 hg w41 hbox hb; have n0_ := Aside0.mk (below_step (by repeat (first | (with_reducible first | exact HB.out | apply below_alloc | apply pw_below_drewN | apply below_drew1) | exact HB.out)) hb); have n1_ := Aside0.mk (hbox); have n2_ := Aside0.mk ((by rw [hg]; exact (below_size (by repeat (first | (with_reducible first | exact HB.out | apply below_alloc | apply pw_below_drewN | apply below_drew1) | exact HB.out))) : w.heap.size ≤ gb195)); have n3_ := Aside0.mk ((by rw [hg]; exact (below_size (by repeat (first | (with_reducible first | exact HB.out | apply below_alloc | apply pw_below_drewN | apply below_drew1) | exact HB.out))) : w.heap.size ≤ gb195)); clear HB; have HB := n0_; have BK195 := n1_; have GW195 := n2_; have GE195 := n3_; clear n0_ n1_ n2_ n3_; clear hb hbox hg) | ((with_reducible refine gate_callee (f := 10) rfl ?_); refine goesL_ (some 20) rfl rfl Tryd.func10 (by kernel_rfl) rfl #[.int .u64 a0, .slice A1 l1.length c1, .bool a2] rfl (by (try simp only [List.map_toArray, List.map_cons, List.map_nil]); first | done | rfl | (simp only [List.length_drop, List.length_take]; rfl)) ?_; (with_reducible refine (plan_Steps.calls (hG := ?sideG) k a0 _ _ l1 a2 t196 t197 _ ?side1 ?side2 A4.out).mono ?_); (case sideG => exact tab_below HG.out (by repeat (first | (with_reducible first | exact HB.out | apply below_alloc | apply pw_below_drewN | apply below_drew1 | refine below_set ?_ GE195.out) | exact HB.out))); (case side1 => repeat (first | exact (Kd.C_below HR1.out HB.out) | (with_reducible refine Kd.C_alloc ?_ _) | (with_reducible refine Kd.C_drewN ?_ _) | (with_reducible refine Kd.C_drew ?_))); (case side2 => exact HC1.out); rintro e w42 ⟨v198, rfl, ho0, hb⟩; refine ⟨_, rfl, ?_⟩; have n0_ := Aside0.mk (Kd.R_lower ho0 (below_size (by repeat (first | (with_reducible first | exact HB.out | apply below_alloc | apply pw_below_drewN | apply below_drew1 | refine below_set ?_ GE195.out) | exact HB.out)))); have n1_ := Aside0.mk (blk_below (g := gb195) (o := .cells #[.int .i64 0, .int .i64 0, .int .i64 0, .slice none 0 0] 49 (0, 0)) (by (with_reducible repeat (first | refine blk_drewN ?_ _ | refine blk_drew ?_ | refine blk_alloc ?_ _)); exact BK195.out) hb); have n2_ := Aside0.mk (below_step (by repeat (first | (with_reducible first | exact HB.out | apply below_alloc | apply pw_below_drewN | apply below_drew1 | refine below_set ?_ GE195.out) | exact HB.out)) hb); clear BK195; clear HB; have HO199 := n0_; have BK195 := n1_; have HB := n2_; clear n0_ n1_ n2_; (try clear hb); (try clear hb2); (try clear hk); (try clear hi); (try clear ho0)) | ((with_reducible refine gate_callee (f := 40) rfl ?_); refine goesL_ (some 29) rfl rfl Tryd.func40 (by kernel_rfl) rfl #[.slice A1 l1.length c1] rfl (by (try simp only [List.map_toArray, List.map_cons, List.map_nil]); first | done | rfl | (simp only [List.length_drop, List.length_take]; rfl)) ?_; (with_reducible refine (grid_Dims.calls k _ _ l1 t200 _ ?side1 ?side2 A6.out).mono ?_); (case side1 => repeat (first | exact (Kd.C_below HR1.out HB.out) | (with_reducible refine Kd.C_alloc ?_ _) | (with_reducible refine Kd.C_drewN ?_ _) | (with_reducible refine Kd.C_drew ?_))); (case side2 => exact HC1.out); rintro e w43 ⟨v201, rfl, ho0, hb⟩; refine ⟨_, rfl, ?_⟩; have n0_ := Aside0.mk (Kd.R_below (by (with_reducible repeat (first | apply Kd.R_alloc | apply Kd.R_drewN | apply Kd.R_drew)); exact HO199.out) hb); have n1_ := Aside0.mk (Kd.R_lower ho0 (below_size (by repeat (first | (with_reducible first | exact HB.out | apply below_alloc | apply pw_below_drewN | apply below_drew1 | refine below_set ?_ GE195.out) | exact HB.out)))); have n2_ := Aside0.mk (blk_below (g := gb195) (o := .cells #[.int .i64 0, .int .i64 0, .int .i64 0, .slice none 0 0] 49 (0, 0)) (by (with_reducible repeat (first | refine blk_drewN ?_ _ | refine blk_drew ?_ | refine blk_alloc ?_ _)); exact BK195.out) hb); have n3_ := Aside0.mk (below_step (by repeat (first | (with_reducible first | exact HB.out | apply below_alloc | apply pw_below_drewN | apply below_drew1 | refine below_set ?_ GE195.out) | exact HB.out)) hb); clear HO199; clear BK195; clear HB; have HO199 := n0_; have HO202 := n1_; have BK195 := n2_; have HB := n3_; clear n0_ n1_ n2_ n3_; (try clear hb); (try clear hb2); (try clear hk); (try clear hi); (try clear ho0); obtain ⟨Ao44, co44, eo44⟩ := Kd.R_slice HO202.out; subst eo44) | ((with_reducible refine gate_callee (f := 39) rfl ?_); refine goesL_ (some 30) rfl rfl Tryd.func39 (by kernel_rfl) rfl #[.slice Ao44 t200.length co44] rfl (by (try simp only [List.map_toArray, List.map_cons, List.map_nil]); first | done | rfl | (simp only [List.length_drop, List.length_take]; rfl)) ?_; (with_reducible refine (shape_All.calls k _ _ t200 t203 t204 _ ?side1 ?side2 A7.out).mono ?_); (case side1 => repeat (first | exact (Kd.R_reads' HO202.out).2.2 | (with_reducible refine Kd.C_alloc ?_ _) | (with_reducible refine Kd.C_drewN ?_ _) | (with_reducible refine Kd.C_drew ?_))); (case side2 => exact (Kd.R_reads' HO202.out).2.1); rintro e w' ⟨rfl, ⟨nd, rfl⟩⟩; refine ⟨_, rfl, ?_⟩; (try (rw [drewN_self w43]; generalize hq_ : World.drewN w43 _ = w43; have n0_ : Aside0 (Kd.R k37 37 w43 w.heap.size (fun _ => True) v198 t196) := ⟨by rw [← hq_]; exact (by (with_reducible repeat (first | apply Kd.R_alloc | apply Kd.R_drewN | apply Kd.R_drew)); exact HO199.out)⟩; have n1_ : Aside0 (Kd.R (Kd.int .i64) 3 w43 w.heap.size (fun _ => True) (.slice Ao44 t200.length co44) t200) := ⟨by rw [← hq_]; exact (by (with_reducible repeat (first | apply Kd.R_alloc | apply Kd.R_drewN | apply Kd.R_drew)); exact HO202.out)⟩; have n2_ : Aside0 (w43.heap[gb195]? = some (.cells #[.int .i64 0, .int .i64 0, .int .i64 0, .slice none 0 0] 49 (0, 0))) := ⟨by rw [← hq_]; exact (by (with_reducible repeat (first | refine blk_drewN ?_ _ | refine blk_drew ?_ | refine blk_alloc ?_ _)); exact BK195.out)⟩; have n3_ : Aside0 (Below w.heap.size w w43) := ⟨by rw [← hq_]; exact (by repeat (first | (with_reducible first | exact HB.out | apply below_alloc | apply pw_below_drewN | apply below_drew1 | refine below_set ?_ GE195.out) | exact HB.out))⟩; clear HO199 HO202 BK195 HB hq_; have HO199 := n0_; have HO202 := n1_; have BK195 := n2_; have HB := n3_; clear n0_ n1_ n2_ n3_)); have hcz45_0 : w43.cell? ⟨gb195, 0, none⟩ = some (.int .i64 0) := (blk_cell BK195.out 0).trans rfl; have hcz45_1 : w43.cell? ⟨gb195, 1, none⟩ = some (.int .i64 0) := (blk_cell BK195.out 1).trans rfl; have hcz45_2 : w43.cell? ⟨gb195, 2, none⟩ = some (.int .i64 0) := (blk_cell BK195.out 2).trans rfl; have hcz45_3 : w43.cell? ⟨gb195, 3, none⟩ = some (.slice none 0 0) := (blk_cell BK195.out 3).trans rfl; have hfz45_0 := blk_frozen BK195.out 0; have hfz45_1 := blk_frozen BK195.out 1; have hfz45_2 := blk_frozen BK195.out 2; have hfz45_3 := blk_frozen BK195.out 3))
      refine bodyPost_ret (results_ct rfl _ _ gb195 49 #[.int .i64 0, .int .i64 0, .int .i64 0, .slice none 0 0] (0, 0) _ rfl (by (with_reducible repeat (first | refine blk_drewN ?_ _ | refine blk_drew ?_ | refine blk_alloc ?_ _)); refine blk_put (cs := #[.int .i64 0, .int .i64 0, .int .i64 0, .slice none 0 0]) ?_ 3 _ rfl; (with_reducible repeat (first | refine blk_drewN ?_ _ | refine blk_drew ?_ | refine blk_alloc ?_ _)); refine blk_put (cs := #[.int .i64 0, .int .i64 0, .int .i64 0, .slice none 0 0]) ?_ 2 _ rfl; (with_reducible repeat (first | refine blk_drewN ?_ _ | refine blk_drew ?_ | refine blk_alloc ?_ _)); refine blk_put (cs := #[.int .i64 0, .int .i64 0, .int .i64 0, .slice none 0 0]) ?_ 1 _ rfl; (with_reducible repeat (first | refine blk_drewN ?_ _ | refine blk_drew ?_ | refine blk_alloc ?_ _)); refine blk_put (cs := #[.int .i64 0, .int .i64 0, .int .i64 0, .slice none 0 0]) ?_ 0 _ rfl; (with_reducible repeat (first | refine blk_drewN ?_ _ | refine blk_drew ?_ | refine blk_alloc ?_ _)); exact BK195.out) Tryd.underlying49 rfl (by kernel_rfl)) rfl ?_
      exact ⟨_, by first | rfl | (simp [errW_none, errW_some] <;> rfl) | (simp [*, errW_none, errW_some] <;> rfl), by first | exact Kd.R_nil _ _ _ _ _ | exact Kd.N_nil _ _ _ _ _ | exact Kd.V_nil _ _ _ _ _ | exact Kd.Q_nil _ _ _ _ _ | exact Kd.S_nil _ _ _ _ _, by repeat (first | (with_reducible first | exact HB.out | apply below_alloc | apply pw_below_drewN | apply below_drew1 | refine below_set ?_ GE195.out) | exact HB.out)⟩
  · rw [if_neg c5] at H
    have c5b0 : (t197 == 0) = false := beq_eq_false_iff_ne.mpr c5
    have c5b1 : (t197 != 0) = true := bne_iff_ne.mpr c5
    simp only [Option.some.injEq, Prod.mk.injEq] at H
    obtain ⟨rfl, rfl, rfl, rfl, rfl⟩ := H
    go_enter Tryd.func20, Tryd.ntmps20
    go_wp2_with (first | ((with_reducible refine gate_dst (N := 6) rfl ?_); refine box_event ?hg (N := 6) ?hd (cs := #[.int .i64 0, .int .i64 0, .int .i64 0, .slice none 0 0]) (t := 49) ?hr ?_; (case hd => rfl); (case hg => rfl); (case hr => first | (go_simp; done) | (go_simp; rfl)); intro gb195 hg w46 hbox hb; have n0_ := Aside0.mk (below_step (by repeat (first | (with_reducible first | exact HB.out | apply below_alloc | apply pw_below_drewN | apply below_drew1) | exact HB.out)) hb); have n1_ := Aside0.mk (hbox); have n2_ := Aside0.mk ((by rw [hg]; exact (below_size (by repeat (first | (with_reducible first | exact HB.out | apply below_alloc | apply pw_below_drewN | apply below_drew1) | exact HB.out))) : w.heap.size ≤ gb195)); have n3_ := Aside0.mk ((by rw [hg]; exact (below_size (by repeat (first | (with_reducible first | exact HB.out | apply below_alloc | apply pw_below_drewN | apply below_drew1) | exact HB.out))) : w.heap.size ≤ gb195)); clear HB; have HB := n0_; have BK195 := n1_; have GW195 := n2_; have GE195 := n3_; clear n0_ n1_ n2_ n3_; clear hb hbox hg) | ((with_reducible refine gate_callee (f := 10) rfl ?_); refine goesL_ (some 20) rfl rfl Tryd.func10 (by kernel_rfl) rfl #[.int .u64 a0, .slice A1 l1.length c1, .bool a2] rfl (by (try simp only [List.map_toArray, List.map_cons, List.map_nil]); first | done | rfl | (simp only [List.length_drop, List.length_take]; rfl)) ?_; (with_reducible refine (plan_Steps.calls (hG := ?sideG) k a0 _ _ l1 a2 t196 t197 _ ?side1 ?side2 A4.out).mono ?_); (case sideG => exact tab_below HG.out (by repeat (first | (with_reducible first | exact HB.out | apply below_alloc | apply pw_below_drewN | apply below_drew1 | refine below_set ?_ GE195.out) | exact HB.out))); (case side1 => repeat (first | exact (Kd.C_below HR1.out HB.out) | (with_reducible refine Kd.C_alloc ?_ _) | (with_reducible refine Kd.C_drewN ?_ _) | (with_reducible refine Kd.C_drew ?_))); (case side2 => exact HC1.out); rintro e w47 ⟨v198, rfl, ho0, hb⟩; refine ⟨_, rfl, ?_⟩; have n0_ := Aside0.mk (Kd.R_lower ho0 (below_size (by repeat (first | (with_reducible first | exact HB.out | apply below_alloc | apply pw_below_drewN | apply below_drew1 | refine below_set ?_ GE195.out) | exact HB.out)))); have n1_ := Aside0.mk (blk_below (g := gb195) (o := .cells #[.int .i64 0, .int .i64 0, .int .i64 0, .slice none 0 0] 49 (0, 0)) (by (with_reducible repeat (first | refine blk_drewN ?_ _ | refine blk_drew ?_ | refine blk_alloc ?_ _)); exact BK195.out) hb); have n2_ := Aside0.mk (below_step (by repeat (first | (with_reducible first | exact HB.out | apply below_alloc | apply pw_below_drewN | apply below_drew1 | refine below_set ?_ GE195.out) | exact HB.out)) hb); clear BK195; clear HB; have HO199 := n0_; have BK195 := n1_; have HB := n2_; clear n0_ n1_ n2_; (try clear hb); (try clear hb2); (try clear hk); (try clear hi); (try clear ho0); have hcz48_0 : w47.cell? ⟨gb195, 0, none⟩ = some (.int .i64 0) := (blk_cell BK195.out 0).trans rfl; have hcz48_1 : w47.cell? ⟨gb195, 1, none⟩ = some (.int .i64 0) := (blk_cell BK195.out 1).trans rfl; have hcz48_2 : w47.cell? ⟨gb195, 2, none⟩ = some (.int .i64 0) := (blk_cell BK195.out 2).trans rfl; have hcz48_3 : w47.cell? ⟨gb195, 3, none⟩ = some (.slice none 0 0) := (blk_cell BK195.out 3).trans rfl; have hfz48_0 := blk_frozen BK195.out 0; have hfz48_1 := blk_frozen BK195.out 1; have hfz48_2 := blk_frozen BK195.out 2; have hfz48_3 := blk_frozen BK195.out 3))
    refine bodyPost_ret (results_ct rfl _ _ gb195 49 #[.int .i64 0, .int .i64 0, .int .i64 0, .slice none 0 0] (0, 0) _ rfl (by (with_reducible repeat (first | refine blk_drewN ?_ _ | refine blk_drew ?_ | refine blk_alloc ?_ _)); refine blk_put (cs := #[.int .i64 0, .int .i64 0, .int .i64 0, .slice none 0 0]) ?_ 3 _ rfl; (with_reducible repeat (first | refine blk_drewN ?_ _ | refine blk_drew ?_ | refine blk_alloc ?_ _)); refine blk_put (cs := #[.int .i64 0, .int .i64 0, .int .i64 0, .slice none 0 0]) ?_ 2 _ rfl; (with_reducible repeat (first | refine blk_drewN ?_ _ | refine blk_drew ?_ | refine blk_alloc ?_ _)); refine blk_put (cs := #[.int .i64 0, .int .i64 0, .int .i64 0, .slice none 0 0]) ?_ 1 _ rfl; (with_reducible repeat (first | refine blk_drewN ?_ _ | refine blk_drew ?_ | refine blk_alloc ?_ _)); refine blk_put (cs := #[.int .i64 0, .int .i64 0, .int .i64 0, .slice none 0 0]) ?_ 0 _ rfl; (with_reducible repeat (first | refine blk_drewN ?_ _ | refine blk_drew ?_ | refine blk_alloc ?_ _)); exact BK195.out) Tryd.underlying49 rfl (by kernel_rfl)) rfl ?_
    exact ⟨_, by first | rfl | (simp [errW_none, errW_some] <;> rfl) | (simp [*, errW_none, errW_some] <;> rfl), by first | exact Kd.R_nil _ _ _ _ _ | exact Kd.N_nil _ _ _ _ _ | exact Kd.V_nil _ _ _ _ _ | exact Kd.Q_nil _ _ _ _ _ | exact Kd.S_nil _ _ _ _ _, by repeat (first | (with_reducible first | exact HB.out | apply below_alloc | apply pw_below_drewN | apply below_drew1 | refine below_set ?_ GE195.out) | exact HB.out)⟩

end Go.Proofs.YtcilfgedcnehfaaDoor.PCP
