-- Written by a program (wip/pr.py) over the kit's printer and contracts of my own
import Derived.Test.YtcilfgedcnehfaaDoorPCPx0
import Derived.Test.YtcilfgedcnehfaaDoorPCPx2
import Derived.Test.YtcilfgedcnehfaaDoorPCPx5
import Derived.Test.YtcilfgedcnehfaaDoorPCPx6
import Derived.Test.YtcilfgedcnehfaaDoorPCPx7
namespace Go.Proofs.YtcilfgedcnehfaaDoor.PCP
open Go.RowKit Go.Proofs.YtcilfgedcnehfaaDoorW.PrintWords Go.Proofs.YtcilfgedcnehfaaDoorW.PrintLast Go.Proofs.YtcilfgedcnehfaaDoorW.PrintMore
attribute [local go_sem] max2_int min2_int max_two min_two max_three min_three max_four min_four   -- for this text's walks alone
set_option linter.unusedVariables false
set_option linter.unusedSimpArgs false

/-! ### brackenlaw22_CostParts: function 3 -/
mutual
def brackenlaw22_CostParts.j0 : Nat → Int → List (S33) → Bool → Int → Int → List (S37) → Int → Bool → Option (Bool)
  | 0, _, _, _, _, _, _, _, _ => none
  | k + 1, x0, x1, x2, x7, x8, x9, x10, x46 => if x46 = true then (if x8 = x10 then (some (x7 == 0)) else (some false)) else (brackenlaw22_CostParts.l0 k x0 x1 x2 x7 x9 1 x1 (x1.length : Int) 0)
def brackenlaw22_CostParts.l0 : Nat → Int → List (S33) → Bool → Int → List (S37) → Int → List (S33) → Int → Int → Option (Bool)
  | 0, _, _, _, _, _, _, _, _, _ => none
  | k + 1, x0, x1, x2, x7, x9, x11, x54, x55, x56 => if x56 < x55 then (if 0 ≤ x56 then (if x56 < (x54.length : Int) then (brackenlaw22_CostParts.l0 k x0 x1 x2 x7 x9 (wrap64 (x11 * ((rd_T33 x54 x56).f0))) x54 x55 (wrap64 (x56 + 1))) else (none)) else (none)) else (brackenlaw22_CostParts.l1 k x0 x1 x2 x7 x11 (wrap64 ((wrap64 (3 * x11)) + 12)) x9 (x9.length : Int) 0)
def brackenlaw22_CostParts.l1 : Nat → Int → List (S33) → Bool → Int → Int → Int → List (S37) → Int → Int → Option (Bool)
  | 0, _, _, _, _, _, _, _, _, _ => none
  | k + 1, x0, x1, x2, x7, x11, x14, x68, x69, x70 => if x70 < x69 then (if 0 ≤ x70 then (if x70 < (x68.length : Int) then ((step_Table.f k x0 x1 x2 ((rd_T37 x68 x70).f0) ((rd_T37 x68 x70).f1) ((rd_T37 x68 x70).f2.f0) ((rd_T37 x68 x70).f2.f1) ((rd_T37 x68 x70).f2.f2)).bind fun bt270 => ((cost_Step.f k x11 (bt270.1.length : Int)).bind fun bt274 => (if bt270.2 = 0 then (if bt274.2 = 0 then (if bt274.1 = (wrap64 ((wrap64 ((wrap64 (6 * x11)) + (wrap64 (2 * (bt270.1.length : Int))))) + 12)) then (brackenlaw22_CostParts.l1 k x0 x1 x2 x7 x11 (wrap64 (x14 + bt274.1)) x68 x69 (wrap64 (x70 + 1))) else (some false)) else (some false)) else (some false)))) else (none)) else (none)) else (some (x7 == x14))
end
def brackenlaw22_CostParts.f (k : Nat) (a0 : Int) (l1 : List (S33)) (a2 : Bool) : Option (Bool) := (brackenlaw22_live.f k).bind fun t258 => (if t258 = true then ((brackenref07_Few.f k l1 100).bind fun t259 => (if t259 = true then ((cost_Trial.f k a0 l1 a2).bind fun bt260 => ((plan_Steps.f k a0 l1 a2).bind fun bt262 => (if bt260.2 = bt262.2 then (brackenlaw22_CostParts.j0 k a0 l1 a2 bt260.1 bt260.2 bt262.1 bt262.2 (bt260.2 != 0)) else (brackenlaw22_CostParts.j0 k a0 l1 a2 bt260.1 bt260.2 bt262.1 bt262.2 true)))) else (some true))) else (some false))
theorem brackenlaw22_CostParts.mono_l : ∀ k, (∀ y0 y1 y2 y3 y4 y5 y6 y7, LeO (brackenlaw22_CostParts.j0 k y0 y1 y2 y3 y4 y5 y6 y7) (brackenlaw22_CostParts.j0 (k + 1) y0 y1 y2 y3 y4 y5 y6 y7)) ∧ (∀ y0 y1 y2 y3 y4 y5 y6 y7 y8, LeO (brackenlaw22_CostParts.l0 k y0 y1 y2 y3 y4 y5 y6 y7 y8) (brackenlaw22_CostParts.l0 (k + 1) y0 y1 y2 y3 y4 y5 y6 y7 y8)) ∧ (∀ y0 y1 y2 y3 y4 y5 y6 y7 y8, LeO (brackenlaw22_CostParts.l1 k y0 y1 y2 y3 y4 y5 y6 y7 y8) (brackenlaw22_CostParts.l1 (k + 1) y0 y1 y2 y3 y4 y5 y6 y7 y8))
  | 0 => ⟨fun _ _ _ _ _ _ _ _ r h => by simp [brackenlaw22_CostParts.j0] at h, fun _ _ _ _ _ _ _ _ _ r h => by simp [brackenlaw22_CostParts.l0] at h, fun _ _ _ _ _ _ _ _ _ r h => by simp [brackenlaw22_CostParts.l1] at h⟩
  | k + 1 => by
    obtain ⟨ih0, ih1, ih2⟩ := brackenlaw22_CostParts.mono_l k
    refine ⟨?_, ?_, ?_⟩
    · intro y0 y1 y2 y3 y4 y5 y6 y7
      unfold brackenlaw22_CostParts.j0
      repeat' first
      | (with_reducible exact ih0 _ _ _ _ _ _ _ _)
      | (with_reducible exact ih1 _ _ _ _ _ _ _ _ _)
      | (with_reducible exact ih2 _ _ _ _ _ _ _ _ _)
      | (with_reducible exact brackenlaw22_live.mono _)
      | (with_reducible exact brackenref07_Few.mono _ _ _)
      | (with_reducible exact cost_Step.mono _ _ _)
      | (with_reducible exact cost_Trial.mono _ _ _ _)
      | (with_reducible exact plan_Steps.mono _ _ _ _)
      | (with_reducible exact step_Table.mono _ _ _ _ _ _ _ _ _)
      | (with_reducible exact LeO.refl _)
      | (with_reducible exact LeO.none _)
      | (with_reducible refine LeO.ite ?_ ?_)
      | (with_reducible refine LeO.bind ?_ (fun _ => ?_))
      | exact ih0 _ _ _ _ _ _ _ _
      | exact ih1 _ _ _ _ _ _ _ _ _
      | exact ih2 _ _ _ _ _ _ _ _ _
      | exact brackenlaw22_live.mono _
      | exact brackenref07_Few.mono _ _ _
      | exact cost_Step.mono _ _ _
      | exact cost_Trial.mono _ _ _ _
      | exact plan_Steps.mono _ _ _ _
      | exact step_Table.mono _ _ _ _ _ _ _ _ _
      | exact LeO.none _
      | refine LeO.ite ?_ ?_
      | refine LeO.bind ?_ (fun _ => ?_)
    · intro y0 y1 y2 y3 y4 y5 y6 y7 y8
      unfold brackenlaw22_CostParts.l0
      repeat' first
      | (with_reducible exact ih0 _ _ _ _ _ _ _ _)
      | (with_reducible exact ih1 _ _ _ _ _ _ _ _ _)
      | (with_reducible exact ih2 _ _ _ _ _ _ _ _ _)
      | (with_reducible exact brackenlaw22_live.mono _)
      | (with_reducible exact brackenref07_Few.mono _ _ _)
      | (with_reducible exact cost_Step.mono _ _ _)
      | (with_reducible exact cost_Trial.mono _ _ _ _)
      | (with_reducible exact plan_Steps.mono _ _ _ _)
      | (with_reducible exact step_Table.mono _ _ _ _ _ _ _ _ _)
      | (with_reducible exact LeO.refl _)
      | (with_reducible exact LeO.none _)
      | (with_reducible refine LeO.ite ?_ ?_)
      | (with_reducible refine LeO.bind ?_ (fun _ => ?_))
      | exact ih0 _ _ _ _ _ _ _ _
      | exact ih1 _ _ _ _ _ _ _ _ _
      | exact ih2 _ _ _ _ _ _ _ _ _
      | exact brackenlaw22_live.mono _
      | exact brackenref07_Few.mono _ _ _
      | exact cost_Step.mono _ _ _
      | exact cost_Trial.mono _ _ _ _
      | exact plan_Steps.mono _ _ _ _
      | exact step_Table.mono _ _ _ _ _ _ _ _ _
      | exact LeO.none _
      | refine LeO.ite ?_ ?_
      | refine LeO.bind ?_ (fun _ => ?_)
    · intro y0 y1 y2 y3 y4 y5 y6 y7 y8
      unfold brackenlaw22_CostParts.l1
      repeat' first
      | (with_reducible exact ih0 _ _ _ _ _ _ _ _)
      | (with_reducible exact ih1 _ _ _ _ _ _ _ _ _)
      | (with_reducible exact ih2 _ _ _ _ _ _ _ _ _)
      | (with_reducible exact brackenlaw22_live.mono _)
      | (with_reducible exact brackenref07_Few.mono _ _ _)
      | (with_reducible exact cost_Step.mono _ _ _)
      | (with_reducible exact cost_Trial.mono _ _ _ _)
      | (with_reducible exact plan_Steps.mono _ _ _ _)
      | (with_reducible exact step_Table.mono _ _ _ _ _ _ _ _ _)
      | (with_reducible exact LeO.refl _)
      | (with_reducible exact LeO.none _)
      | (with_reducible refine LeO.ite ?_ ?_)
      | (with_reducible refine LeO.bind ?_ (fun _ => ?_))
      | exact ih0 _ _ _ _ _ _ _ _
      | exact ih1 _ _ _ _ _ _ _ _ _
      | exact ih2 _ _ _ _ _ _ _ _ _
      | exact brackenlaw22_live.mono _
      | exact brackenref07_Few.mono _ _ _
      | exact cost_Step.mono _ _ _
      | exact cost_Trial.mono _ _ _ _
      | exact plan_Steps.mono _ _ _ _
      | exact step_Table.mono _ _ _ _ _ _ _ _ _
      | exact LeO.none _
      | refine LeO.ite ?_ ?_
      | refine LeO.bind ?_ (fun _ => ?_)
theorem brackenlaw22_CostParts.mono : ∀ a0 a1 a2 k, LeO (brackenlaw22_CostParts.f k a0 a1 a2) (brackenlaw22_CostParts.f (k + 1) a0 a1 a2) := by
  intro a0 a1 a2 k
  obtain ⟨ih0, ih1, ih2⟩ := brackenlaw22_CostParts.mono_l k
  unfold brackenlaw22_CostParts.f
  repeat' first
      | (with_reducible exact ih0 _ _ _ _ _ _ _ _)
      | (with_reducible exact ih1 _ _ _ _ _ _ _ _ _)
      | (with_reducible exact ih2 _ _ _ _ _ _ _ _ _)
      | (with_reducible exact brackenlaw22_live.mono _)
      | (with_reducible exact brackenref07_Few.mono _ _ _)
      | (with_reducible exact cost_Step.mono _ _ _)
      | (with_reducible exact cost_Trial.mono _ _ _ _)
      | (with_reducible exact plan_Steps.mono _ _ _ _)
      | (with_reducible exact step_Table.mono _ _ _ _ _ _ _ _ _)
      | (with_reducible exact LeO.refl _)
      | (with_reducible exact LeO.none _)
      | (with_reducible refine LeO.ite ?_ ?_)
      | (with_reducible refine LeO.bind ?_ (fun _ => ?_))
      | exact ih0 _ _ _ _ _ _ _ _
      | exact ih1 _ _ _ _ _ _ _ _ _
      | exact ih2 _ _ _ _ _ _ _ _ _
      | exact brackenlaw22_live.mono _
      | exact brackenref07_Few.mono _ _ _
      | exact cost_Step.mono _ _ _
      | exact cost_Trial.mono _ _ _ _
      | exact plan_Steps.mono _ _ _ _
      | exact step_Table.mono _ _ _ _ _ _ _ _ _
      | exact LeO.none _
      | refine LeO.ite ?_ ?_
      | refine LeO.bind ?_ (fun _ => ?_)
set_option maxHeartbeats 8000000 in
set_option maxRecDepth 100000 in
theorem brackenlaw22_CostParts.calls (k : Nat) (a0 : Int) (A1 : Option Addr) (c1 : Nat) (l1 : List (S33)) (a2 : Bool) (r : Bool) (w : World) (hG : Tab w) (hr1 : Kd.C k33 w A1 l1.length l1) (hc1 : l1.length ≤ c1) (h : brackenlaw22_CostParts.f k a0 l1 a2 = some r) :
    Calls Tryd.prog 3 #[.int .u64 a0, .slice A1 l1.length c1, .bool a2] w fun e w' => e = .returned (.bool r) ∧ Below w.heap.size w w' := by
  have HG := Aside0.mk hG
  clear hG
  have hu33 := Tryd.underlying33
  have hu37 := Tryd.underlying37
  have HR1 := Aside0.mk hr1
  have HC1 := Aside0.mk hc1
  clear hr1 hc1
  have HB := Aside0.mk (Below.refl w.heap.size w)
  have H : ((brackenlaw22_live.f k).bind fun t258 => (if t258 = true then ((brackenref07_Few.f k l1 100).bind fun t259 => (if t259 = true then ((cost_Trial.f k a0 l1 a2).bind fun bt260 => ((plan_Steps.f k a0 l1 a2).bind fun bt262 => (if bt260.2 = bt262.2 then (brackenlaw22_CostParts.j0 k a0 l1 a2 bt260.1 bt260.2 bt262.1 bt262.2 (bt260.2 != 0)) else (brackenlaw22_CostParts.j0 k a0 l1 a2 bt260.1 bt260.2 bt262.1 bt262.2 true)))) else (some true))) else (some false))) = some r := h
  clear h
  replace H := Option.bind_eq_some_iff.mp H
  obtain ⟨t258, A40, H⟩ := H
  replace H : (if t258 = true then ((brackenref07_Few.f k l1 100).bind fun t259 => (if t259 = true then ((cost_Trial.f k a0 l1 a2).bind fun bt260 => ((plan_Steps.f k a0 l1 a2).bind fun bt262 => (if bt260.2 = bt262.2 then (brackenlaw22_CostParts.j0 k a0 l1 a2 bt260.1 bt260.2 bt262.1 bt262.2 (bt260.2 != 0)) else (brackenlaw22_CostParts.j0 k a0 l1 a2 bt260.1 bt260.2 bt262.1 bt262.2 true)))) else (some true))) else (some false)) = some r := H
  have A4 := Aside0.mk A40
  clear A40
  by_cases c5 : t258 = true
  · subst c5
    have H1 : ((brackenref07_Few.f k l1 100).bind fun t259 => (if t259 = true then ((cost_Trial.f k a0 l1 a2).bind fun bt260 => ((plan_Steps.f k a0 l1 a2).bind fun bt262 => (if bt260.2 = bt262.2 then (brackenlaw22_CostParts.j0 k a0 l1 a2 bt260.1 bt260.2 bt262.1 bt262.2 (bt260.2 != 0)) else (brackenlaw22_CostParts.j0 k a0 l1 a2 bt260.1 bt260.2 bt262.1 bt262.2 true)))) else (some true))) = some r := by rw [if_pos rfl] at H; exact H
    clear H
    have H := H1
    clear H1
    replace H := Option.bind_eq_some_iff.mp H
    obtain ⟨t259, A60, H⟩ := H
    replace H : (if t259 = true then ((cost_Trial.f k a0 l1 a2).bind fun bt260 => ((plan_Steps.f k a0 l1 a2).bind fun bt262 => (if bt260.2 = bt262.2 then (brackenlaw22_CostParts.j0 k a0 l1 a2 bt260.1 bt260.2 bt262.1 bt262.2 (bt260.2 != 0)) else (brackenlaw22_CostParts.j0 k a0 l1 a2 bt260.1 bt260.2 bt262.1 bt262.2 true)))) else (some true)) = some r := H
    have A6 := Aside0.mk A60
    clear A60
    by_cases c7 : t259 = true
    · subst c7
      have H1 : ((cost_Trial.f k a0 l1 a2).bind fun bt260 => ((plan_Steps.f k a0 l1 a2).bind fun bt262 => (if bt260.2 = bt262.2 then (brackenlaw22_CostParts.j0 k a0 l1 a2 bt260.1 bt260.2 bt262.1 bt262.2 (bt260.2 != 0)) else (brackenlaw22_CostParts.j0 k a0 l1 a2 bt260.1 bt260.2 bt262.1 bt262.2 true)))) = some r := by rw [if_pos rfl] at H; exact H
      clear H
      have H := H1
      clear H1
      replace H := Option.bind_eq_some_iff.mp H
      obtain ⟨⟨t260, t261⟩, A80, H⟩ := H
      replace H : ((plan_Steps.f k a0 l1 a2).bind fun bt262 => (if t261 = bt262.2 then (brackenlaw22_CostParts.j0 k a0 l1 a2 t260 t261 bt262.1 bt262.2 (t261 != 0)) else (brackenlaw22_CostParts.j0 k a0 l1 a2 t260 t261 bt262.1 bt262.2 true))) = some r := H
      have A8 := Aside0.mk A80
      clear A80
      replace H := Option.bind_eq_some_iff.mp H
      obtain ⟨⟨t262, t263⟩, A90, H⟩ := H
      replace H : (if t261 = t263 then (brackenlaw22_CostParts.j0 k a0 l1 a2 t260 t261 t262 t263 (t261 != 0)) else (brackenlaw22_CostParts.j0 k a0 l1 a2 t260 t261 t262 t263 true)) = some r := H
      have A9 := Aside0.mk A90
      clear A90
      have HC10 := Aside0.mk H
      clear H
      go_enter Tryd.func3, Tryd.ntmps3
      go_upto_region 7 with (first | ((with_reducible refine gate_callee (f := 7) rfl ?_); refine goesL_ (some 21) rfl rfl Tryd.func7 (by kernel_rfl) rfl #[] rfl (by (try simp only [List.map_toArray, List.map_cons, List.map_nil]); first | done | rfl | (simp only [List.length_drop, List.length_take]; rfl)) ?_; (with_reducible refine (brackenlaw22_live.calls (hG := ?sideG) k  true _ A4.out).mono ?_); (case sideG => exact tab_below HG.out (by repeat (first | (with_reducible first | exact HB.out | apply below_alloc | apply pw_below_drewN | apply below_drew1) | exact HB.out))); rintro e w11 ⟨rfl, hb⟩; refine ⟨_, rfl, ?_⟩; have n0_ := Aside0.mk (below_step (by repeat (first | (with_reducible first | exact HB.out | apply below_alloc | apply pw_below_drewN | apply below_drew1) | exact HB.out)) hb); clear HB; have HB := n0_; clear n0_; (try clear hb); (try clear hb2); (try clear hk); (try clear hi)) | ((with_reducible refine gate_callee (f := 8) rfl ?_); refine goesL_ (some 24) rfl rfl Tryd.func8 (by kernel_rfl) rfl #[.slice A1 l1.length c1, .int .i64 100] rfl (by (try simp only [List.map_toArray, List.map_cons, List.map_nil]); first | done | rfl | (simp only [List.length_drop, List.length_take]; rfl)) ?_; (with_reducible refine (brackenref07_Few.calls k _ _ l1 100 true _ ?side1 ?side2 A6.out).mono ?_); (case side1 => repeat (first | exact (Kd.C_below HR1.out HB.out) | (with_reducible refine Kd.C_alloc ?_ _) | (with_reducible refine Kd.C_drewN ?_ _) | (with_reducible refine Kd.C_drew ?_))); (case side2 => exact HC1.out); rintro e w12 ⟨rfl, hb⟩; refine ⟨_, rfl, ?_⟩; have n0_ := Aside0.mk (below_step (by repeat (first | (with_reducible first | exact HB.out | apply below_alloc | apply pw_below_drewN | apply below_drew1) | exact HB.out)) hb); clear HB; have HB := n0_; clear n0_; (try clear hb); (try clear hb2); (try clear hk); (try clear hi)) | ((with_reducible refine gate_callee (f := 9) rfl ?_); refine goesL_ (some 30) rfl rfl Tryd.func9 (by kernel_rfl) rfl #[.int .u64 a0, .slice A1 l1.length c1, .bool a2] rfl (by (try simp only [List.map_toArray, List.map_cons, List.map_nil]); first | done | rfl | (simp only [List.length_drop, List.length_take]; rfl)) ?_; (with_reducible refine (cost_Trial.calls (hG := ?sideG) k a0 _ _ l1 a2 t260 t261 _ ?side1 ?side2 A8.out).mono ?_); (case sideG => exact tab_below HG.out (by repeat (first | (with_reducible first | exact HB.out | apply below_alloc | apply pw_below_drewN | apply below_drew1) | exact HB.out))); (case side1 => repeat (first | exact (Kd.C_below HR1.out HB.out) | (with_reducible refine Kd.C_alloc ?_ _) | (with_reducible refine Kd.C_drewN ?_ _) | (with_reducible refine Kd.C_drew ?_))); (case side2 => exact HC1.out); rintro e w13 ⟨rfl, hb⟩; refine ⟨_, rfl, ?_⟩; have n0_ := Aside0.mk (below_step (by repeat (first | (with_reducible first | exact HB.out | apply below_alloc | apply pw_below_drewN | apply below_drew1) | exact HB.out)) hb); clear HB; have HB := n0_; clear n0_; (try clear hb); (try clear hb2); (try clear hk); (try clear hi)) | ((with_reducible refine gate_callee (f := 10) rfl ?_); refine goesL_ (some 37) rfl rfl Tryd.func10 (by kernel_rfl) rfl #[.int .u64 a0, .slice A1 l1.length c1, .bool a2] rfl (by (try simp only [List.map_toArray, List.map_cons, List.map_nil]); first | done | rfl | (simp only [List.length_drop, List.length_take]; rfl)) ?_; (with_reducible refine (plan_Steps.calls (hG := ?sideG) k a0 _ _ l1 a2 t262 t263 _ ?side1 ?side2 A9.out).mono ?_); (case sideG => exact tab_below HG.out (by repeat (first | (with_reducible first | exact HB.out | apply below_alloc | apply pw_below_drewN | apply below_drew1) | exact HB.out))); (case side1 => repeat (first | exact (Kd.C_below HR1.out HB.out) | (with_reducible refine Kd.C_alloc ?_ _) | (with_reducible refine Kd.C_drewN ?_ _) | (with_reducible refine Kd.C_drew ?_))); (case side2 => exact HC1.out); rintro e w14 ⟨v264, rfl, ho0, hb⟩; refine ⟨_, rfl, ?_⟩; have n0_ := Aside0.mk (Kd.R_lower ho0 (below_size (by repeat (first | (with_reducible first | exact HB.out | apply below_alloc | apply pw_below_drewN | apply below_drew1) | exact HB.out)))); have n1_ := Aside0.mk (below_step (by repeat (first | (with_reducible first | exact HB.out | apply below_alloc | apply pw_below_drewN | apply below_drew1) | exact HB.out)) hb); clear HB; have HO265 := n0_; have HB := n1_; clear n0_ n1_; (try clear hb); (try clear hb2); (try clear hk); (try clear hi); (try clear ho0)))
      (try simp only [Act.put, List.setIfInBounds_toArray, List.set_cons_zero, List.set_cons_succ])
      go_cut [46] (fun v46 wc => ∃ (kq : Nat) (x46_9 : Bool), v46 = .bool x46_9 ∧ Aside0 (brackenlaw22_CostParts.j0 kq a0 l1 a2 t260 t261 t262 t263 x46_9 = some r) ∧ Aside0 (kq ≤ k) ∧ Aside0 (Kd.R k37 37 wc w.heap.size (fun _ => True) v264 t262) ∧ Aside0 (Below w.heap.size w wc))
      case first =>
        have H := HC10.out
        clear HC10
        by_cases c15 : t261 = t263
        · rw [if_pos c15] at H
          have c15b0 : (t261 == t263) = true := beq_iff_eq.mpr c15
          have c15b1 : (t261 != t263) = false := bne_eq_false_iff_eq.mpr c15
          clear c15
          (first | rw [c15b0] | (simp only [i64_w, i32_w]; rw [c15b0]) | skip)
          have H' := Aside0.mk H
          clear H
          go_wp2
          go_meet
          case rel => exact ⟨_, ((t261 != 0)), (by first | rfl | (simp; done) | (simp [*]; done)), H', ⟨by first | omega | exact Nat.le_refl _⟩, ⟨by (with_reducible repeat (first | apply Kd.R_alloc | apply Kd.R_drewN | apply Kd.R_drew)); exact HO265.out⟩, ⟨by repeat (first | (with_reducible first | exact HB.out | apply below_alloc | apply pw_below_drewN | apply below_drew1) | exact HB.out)⟩⟩
        · rw [if_neg c15] at H
          have c15b0 : (t261 == t263) = false := beq_eq_false_iff_ne.mpr c15
          have c15b1 : (t261 != t263) = true := bne_iff_ne.mpr c15
          (first | rw [c15b0] | (simp only [i64_w, i32_w]; rw [c15b0]) | skip)
          have H' := Aside0.mk H
          clear H
          go_wp2
          go_meet
          case rel => exact ⟨_, (true), (by first | rfl | (simp; done) | (simp [*]; done)), H', ⟨by first | omega | exact Nat.le_refl _⟩, ⟨by (with_reducible repeat (first | apply Kd.R_alloc | apply Kd.R_drewN | apply Kd.R_drew)); exact HO265.out⟩, ⟨by repeat (first | (with_reducible first | exact HB.out | apply below_alloc | apply pw_below_drewN | apply below_drew1) | exact HB.out)⟩⟩
      case rest =>
        clear HC10
        try clear c1
        try clear p2
        try clear c3
        try clear c5
        try clear c7
        try clear c8
        try clear c9
        try clear c10
        try clear c15
        try clear c15b0
        try clear c15b1
        obtain ⟨kq, x46_9, rfl, HA, HJ9, HO_9, HB⟩ := hcut
        cases kq with
        | zero => exact absurd HA.out (by simp [brackenlaw22_CostParts.j0])
        | succ kj9 =>
          have H := HA.out
          clear HA
          simp only [brackenlaw22_CostParts.j0] at H
          by_cases c16 : x46_9 = true
          · subst c16
            have H1 : (if t261 = t263 then (some (t260 == 0)) else (some false)) = some r := by rw [if_pos rfl] at H; exact H
            clear H
            have H := H1
            clear H1
            by_cases c17 : t261 = t263
            · rw [if_pos c17] at H
              have c17b0 : (t261 == t263) = true := beq_iff_eq.mpr c17
              have c17b1 : (t261 != t263) = false := bne_eq_false_iff_eq.mpr c17
              clear c17
              obtain rfl := Option.some.inj H
              go_wp2
              go_ret
              exact ⟨by first | rfl | (simp [errW_none, errW_some] <;> rfl) | (simp [*, errW_none, errW_some] <;> rfl), by repeat (first | (with_reducible first | exact HB.out | apply below_alloc | apply pw_below_drewN | apply below_drew1) | exact HB.out)⟩
            · rw [if_neg c17] at H
              have c17b0 : (t261 == t263) = false := beq_eq_false_iff_ne.mpr c17
              have c17b1 : (t261 != t263) = true := bne_iff_ne.mpr c17
              obtain rfl := Option.some.inj H
              go_wp2
              go_ret
              exact ⟨by first | rfl | (simp [errW_none, errW_some] <;> rfl) | (simp [*, errW_none, errW_some] <;> rfl), by repeat (first | (with_reducible first | exact HB.out | apply below_alloc | apply pw_below_drewN | apply below_drew1) | exact HB.out)⟩
          · replace c16 := Bool.eq_false_iff.mpr c16
            subst c16
            have H1 : (brackenlaw22_CostParts.l0 kj9 a0 l1 a2 t260 t262 1 l1 (l1.length : Int) 0) = some r := by rw [if_neg (show ¬ (false = true) by decide)] at H; exact H
            clear H
            have H := H1
            clear H1
            have H' := Aside0.mk H
            clear H
            go_wp2
            go_loopg [11, 56] kj9 (fun kq v11 v56 w' => ∃ (x11_2 : Int) (x56_2 : Int), v11 = .int .i64 x11_2 ∧ v56 = .int .i64 x56_2 ∧ Aside0 (brackenlaw22_CostParts.l0 kq a0 l1 a2 t260 t262 x11_2 l1 (l1.length : Int) x56_2 = some r) ∧ Aside0 (kq ≤ kj9) ∧ Aside0 (Kd.R k37 37 w' w.heap.size (fun _ => True) v264 t262) ∧ Aside0 (Below w.heap.size w w'))
            case atStart => exact ⟨(1), (0), (by first | rfl | (simp; done) | (simp [*]; done)), (by first | rfl | (simp; done) | (simp [*]; done)), H', ⟨Nat.le_refl _⟩, ⟨by (with_reducible repeat (first | apply Kd.R_alloc | apply Kd.R_drewN | apply Kd.R_drew)); exact HO_9.out⟩, ⟨by repeat (first | (with_reducible first | exact HB.out | apply below_alloc | apply pw_below_drewN | apply below_drew1) | exact HB.out)⟩⟩
            case round =>
              clear H'
              try clear c1
              try clear p2
              try clear c3
              try clear c5
              try clear c7
              try clear c8
              try clear c9
              try clear c10
              try clear c15
              try clear c15b0
              try clear c15b1
              try clear c16
              try clear c17
              try clear c17b0
              try clear c17b1
              try clear p2
              obtain ⟨x11_2, x56_2, rfl, rfl, HA, HK2, HO_9, HB⟩ := hrel
              cases gk with
              | zero => exact absurd HA.out (by simp [brackenlaw22_CostParts.l0])
              | succ k2 =>
                have H := HA.out
                clear HA
                simp only [brackenlaw22_CostParts.l0] at H
                by_cases c18 : x56_2 < (l1.length : Int)
                · rw [if_pos c18] at H
                  have c18b0 : decide (x56_2 < (l1.length : Int)) = true := decide_eq_true c18
                  clear c18
                  by_cases c19 : 0 ≤ x56_2
                  · rw [if_pos c19] at H
                    have c19b0 : decide (0 ≤ x56_2) = true := decide_eq_true c19
                    clear c19
                    by_cases c20 : x56_2 < (l1.length : Int)
                    · rw [if_pos c20] at H
                      have c20b0 : decide (x56_2 < (l1.length : Int)) = true := decide_eq_true c20
                      clear c20
                      have H' := Aside0.mk H
                      clear H
                      have p266 : 0 ≤ (x56_2 : Int) := of_decide_eq_true (by first | (with_reducible assumption) | assumption)
                      have q266 : x56_2 < (l1.length : Int) := of_decide_eq_true (by first | (with_reducible assumption) | assumption)
                      obtain ⟨ad266, e266, hx266_0, hx266_1⟩ := at_T33 HR1.out x56_2 p266 q266
                      cases e266
                      replace hx266_0 := (HB.out.cell (World.block_lt_of_cell? w _ hx266_0)).trans hx266_0
                      replace hx266_1 := (HB.out.cell (World.block_lt_of_cell? w _ hx266_1)).trans hx266_1
                      replace p266 := eq_true p266
                      replace q266 := eq_true q266
                      go_wp2_with (first | ((with_reducible refine gate_dst (N := 13) rfl ?_); (try (refine gate_guard (by rfl) ?_; dsimp only)); refine box_event ?hg (N := 13) ?hd (cs := #[.int .i64 0, .bool false]) (t := 33) ?hr ?_; (case hd => rfl); (case hg => rfl); (case hr => first | (go_simp; done) | (go_simp; rfl)); intro gb267 hg w21 hbox hb; have n0_ := Aside0.mk (Kd.R_below (by (with_reducible repeat (first | apply Kd.R_alloc | apply Kd.R_drewN | apply Kd.R_drew)); exact HO_9.out) hb); have n1_ := Aside0.mk (below_step (by repeat (first | (with_reducible first | exact HB.out | apply below_alloc | apply pw_below_drewN | apply below_drew1) | exact HB.out)) hb); have n2_ := Aside0.mk (hbox); have n3_ := Aside0.mk ((by rw [hg]; exact (below_size (by repeat (first | (with_reducible first | exact HB.out | apply below_alloc | apply pw_below_drewN | apply below_drew1) | exact HB.out))) : w.heap.size ≤ gb267)); have n4_ := Aside0.mk ((by rw [hg]; exact (below_size (by repeat (first | (with_reducible first | exact HB.out | apply below_alloc | apply pw_below_drewN | apply below_drew1) | exact HB.out))) : w.heap.size ≤ gb267)); clear HO_9; clear HB; have HO_9 := n0_; have HB := n1_; have BK267 := n2_; have GW267 := n3_; have GE267 := n4_; clear n0_ n1_ n2_ n3_ n4_; clear hb hbox hg; have hcz22_0 : w21.cell? ⟨gb267, 0, none⟩ = some (.int .i64 0) := (blk_cell BK267.out 0).trans rfl; have hcz22_1 : w21.cell? ⟨gb267, 1, none⟩ = some (.bool false) := (blk_cell BK267.out 1).trans rfl; have hfz22_0 := blk_frozen BK267.out 0; have hfz22_1 := blk_frozen BK267.out 1))
                      go_roundg k2
                      case measure => have := HJ9.out; have := HK2.out; omega
                      case rel => exact ⟨(wrap64 (x11_2 * ((rd_T33 l1 x56_2).f0))), (wrap64 (x56_2 + 1)), (by first | rfl | (simp; done) | (simp [*]; done)), (by first | rfl | (simp; done) | (simp [*]; done)), H', ⟨by have := HJ9.out; have := HK2.out; omega⟩, ⟨by (with_reducible repeat (first | apply Kd.R_alloc | apply Kd.R_drewN | apply Kd.R_drew)); exact Kd.R_mono (Kd.R_far (p := ⟨gb267, 1, none⟩) (Kd.R_far (p := ⟨gb267, 0, none⟩) (Kd.R_types HO_9.out BK267.out (by decide)) (fun _ hk => hk.2) (.int .i64 ((rd_T33 l1 x56_2).f0))) (fun _ hk => hk.2) (.bool ((rd_T33 l1 x56_2).f1))) (fun _ hk => trivial)⟩, ⟨by repeat (first | (with_reducible first | exact HB.out | apply below_alloc | apply pw_below_drewN | apply below_drew1 | refine below_set ?_ GE267.out) | exact HB.out)⟩⟩
                    · rw [if_neg c20] at H
                      exact absurd H (by simp)
                  · rw [if_neg c19] at H
                    exact absurd H (by simp)
                · rw [if_neg c18] at H
                  have c18b0 : decide (x56_2 < (l1.length : Int)) = false := decide_eq_false c18
                  clear c18
                  have H' := Aside0.mk H
                  clear H
                  obtain ⟨Ao23, co23, eo23⟩ := Kd.R_slice HO_9.out
                  subst eo23
                  go_wp2
                  go_loopg [14, 70] k2 (fun kq v14 v70 w' => ∃ (x14_3 : Int) (x70_3 : Int), v14 = .int .i64 x14_3 ∧ v70 = .int .i64 x70_3 ∧ Aside0 (brackenlaw22_CostParts.l1 kq a0 l1 a2 t260 x11_2 x14_3 t262 (t262.length : Int) x70_3 = some r) ∧ Aside0 (kq ≤ k2) ∧ Aside0 (Kd.R k37 37 w' w.heap.size (fun _ => True) (.slice Ao23 t262.length co23) t262) ∧ Aside0 (Below w.heap.size w w'))
                  case atStart => exact ⟨(wrap64 ((wrap64 (3 * x11_2)) + 12)), (0), (by first | rfl | (simp; done) | (simp [*]; done)), (by first | rfl | (simp; done) | (simp [*]; done)), H', ⟨Nat.le_refl _⟩, ⟨by (with_reducible repeat (first | apply Kd.R_alloc | apply Kd.R_drewN | apply Kd.R_drew)); exact HO_9.out⟩, ⟨by repeat (first | (with_reducible first | exact HB.out | apply below_alloc | apply pw_below_drewN | apply below_drew1) | exact HB.out)⟩⟩
                  case round =>
                    clear H'
                    try clear c1
                    try clear c2
                    try clear p2
                    try clear q2
                    try clear hx2
                    try clear c3
                    try clear c5
                    try clear p6
                    try clear c7
                    try clear c8
                    try clear c9
                    try clear c10
                    try clear c15
                    try clear c15b0
                    try clear c15b1
                    try clear c16
                    try clear c17
                    try clear c17b0
                    try clear c17b1
                    try clear c18
                    try clear c18b0
                    try clear c19
                    try clear c19b0
                    try clear c20
                    try clear c20b0
                    try clear hcz22_0
                    try clear hcz22_1
                    try clear hfz22_0
                    try clear hfz22_1
                    try clear hx266_0
                    try clear hx266_1
                    try clear p2
                    try clear p266
                    try clear q266
                    obtain ⟨x14_3, x70_3, rfl, rfl, HA, HK3, HO_68, HB⟩ := hrel
                    cases gk with
                    | zero => exact absurd HA.out (by simp [brackenlaw22_CostParts.l1])
                    | succ k3 =>
                      have H := HA.out
                      clear HA
                      simp only [brackenlaw22_CostParts.l1] at H
                      by_cases c24 : x70_3 < (t262.length : Int)
                      · rw [if_pos c24] at H
                        have c24b0 : decide (x70_3 < (t262.length : Int)) = true := decide_eq_true c24
                        clear c24
                        by_cases c25 : 0 ≤ x70_3
                        · rw [if_pos c25] at H
                          have c25b0 : decide (0 ≤ x70_3) = true := decide_eq_true c25
                          clear c25
                          by_cases c26 : x70_3 < (t262.length : Int)
                          · rw [if_pos c26] at H
                            have c26b0 : decide (x70_3 < (t262.length : Int)) = true := decide_eq_true c26
                            clear c26
                            replace H := Option.bind_eq_some_iff.mp H
                            obtain ⟨⟨t270, t273⟩, A270, H⟩ := H
                            replace H : ((cost_Step.f k3 x11_2 (t270.length : Int)).bind fun bt274 => (if t273 = 0 then (if bt274.2 = 0 then (if bt274.1 = (wrap64 ((wrap64 ((wrap64 (6 * x11_2)) + (wrap64 (2 * (t270.length : Int))))) + 12)) then (brackenlaw22_CostParts.l1 k3 a0 l1 a2 t260 x11_2 (wrap64 (x14_3 + bt274.1)) t262 (t262.length : Int) (wrap64 (x70_3 + 1))) else (some false)) else (some false)) else (some false))) = some r := H
                            have A27 := Aside0.mk A270
                            clear A270
                            replace H := Option.bind_eq_some_iff.mp H
                            obtain ⟨⟨t274, t275⟩, A280, H⟩ := H
                            replace H : (if t273 = 0 then (if t275 = 0 then (if t274 = (wrap64 ((wrap64 ((wrap64 (6 * x11_2)) + (wrap64 (2 * (t270.length : Int))))) + 12)) then (brackenlaw22_CostParts.l1 k3 a0 l1 a2 t260 x11_2 (wrap64 (x14_3 + t274)) t262 (t262.length : Int) (wrap64 (x70_3 + 1))) else (some false)) else (some false)) else (some false)) = some r := H
                            have A28 := Aside0.mk A280
                            clear A280
                            by_cases c29 : t273 = 0
                            · rw [if_pos c29] at H
                              have c29b0 : (t273 == 0) = true := beq_iff_eq.mpr c29
                              have c29b1 : (t273 != 0) = false := bne_eq_false_iff_eq.mpr c29
                              clear c29
                              by_cases c30 : t275 = 0
                              · rw [if_pos c30] at H
                                have c30b0 : (t275 == 0) = true := beq_iff_eq.mpr c30
                                have c30b1 : (t275 != 0) = false := bne_eq_false_iff_eq.mpr c30
                                clear c30
                                by_cases c31 : t274 = (wrap64 ((wrap64 ((wrap64 (6 * x11_2)) + (wrap64 (2 * (t270.length : Int))))) + 12))
                                · rw [if_pos c31] at H
                                  have c31b0 : (t274 == (wrap64 ((wrap64 ((wrap64 (6 * x11_2)) + (wrap64 (2 * (t270.length : Int))))) + 12))) = true := beq_iff_eq.mpr c31
                                  have c31b1 : (t274 != (wrap64 ((wrap64 ((wrap64 (6 * x11_2)) + (wrap64 (2 * (t270.length : Int))))) + 12))) = false := bne_eq_false_iff_eq.mpr c31
                                  clear c31
                                  have H' := Aside0.mk H
                                  clear H
                                  have p268 : 0 ≤ (x70_3 : Int) := of_decide_eq_true (by first | (with_reducible assumption) | assumption)
                                  have q268 : x70_3 < (t262.length : Int) := of_decide_eq_true (by first | (with_reducible assumption) | assumption)
                                  obtain ⟨ad268, e268, hx268_0, hx268_1, hx268_2, hx268_3, hx268_4⟩ := at_T37 (Kd.R_reads' HO_68.out).2.2 x70_3 p268 q268
                                  cases e268
                                  replace p268 := eq_true p268
                                  replace q268 := eq_true q268
                                  go_wp2_with (first | ((with_reducible refine gate_dst (N := 16) rfl ?_); (try (refine gate_guard (by rfl) ?_; dsimp only)); refine box_event ?hg (N := 16) ?hd (cs := #[.int .i64 0, .bool false, .int .i64 0, .int .i64 0, .int .i64 0]) (t := 37) ?hr ?_; (case hd => rfl); (case hg => rfl); (case hr => first | (go_simp; done) | (go_simp; rfl)); intro gb269 hg w32 hbox hb; have n0_ := Aside0.mk (Kd.R_below (Kd.R_elderB (by (with_reducible repeat (first | apply Kd.R_alloc | apply Kd.R_drewN | apply Kd.R_drew)); exact HO_68.out) gb269 (Nat.le_of_eq hg.symm)) hb); have n1_ := Aside0.mk (below_step (by repeat (first | (with_reducible first | exact HB.out | apply below_alloc | apply pw_below_drewN | apply below_drew1) | exact HB.out)) hb); have n2_ := Aside0.mk (hbox); have n3_ := Aside0.mk ((by rw [hg]; exact (below_size (by repeat (first | (with_reducible first | exact HB.out | apply below_alloc | apply pw_below_drewN | apply below_drew1) | exact HB.out))) : w.heap.size ≤ gb269)); have n4_ := Aside0.mk ((by rw [hg]; exact (below_size (by repeat (first | (with_reducible first | exact HB.out | apply below_alloc | apply pw_below_drewN | apply below_drew1) | exact HB.out))) : w.heap.size ≤ gb269)); clear HO_68; clear HB; have HO_68 := n0_; have HB := n1_; have BK269 := n2_; have GW269 := n3_; have GE269 := n4_; clear n0_ n1_ n2_ n3_ n4_; clear hb hbox hg; have hcz33_0 : w32.cell? ⟨gb269, 0, none⟩ = some (.int .i64 0) := (blk_cell BK269.out 0).trans rfl; have hcz33_1 : w32.cell? ⟨gb269, 1, none⟩ = some (.bool false) := (blk_cell BK269.out 1).trans rfl; have hcz33_2 : w32.cell? ⟨gb269, 2, none⟩ = some (.int .i64 0) := (blk_cell BK269.out 2).trans rfl; have hcz33_3 : w32.cell? ⟨gb269, 3, none⟩ = some (.int .i64 0) := (blk_cell BK269.out 3).trans rfl; have hcz33_4 : w32.cell? ⟨gb269, 4, none⟩ = some (.int .i64 0) := (blk_cell BK269.out 4).trans rfl; have hfz33_0 := blk_frozen BK269.out 0; have hfz33_1 := blk_frozen BK269.out 1; have hfz33_2 := blk_frozen BK269.out 2; have hfz33_3 := blk_frozen BK269.out 3; have hfz33_4 := blk_frozen BK269.out 4) | ((with_reducible refine gate_callee (f := 11) rfl ?_); refine goesL_ (some 79) rfl rfl Tryd.func11 (by kernel_rfl) rfl #[.int .u64 a0, .slice A1 l1.length c1, .bool a2, .agg #[.int .i64 ((rd_T37 t262 x70_3).f0), .bool ((rd_T37 t262 x70_3).f1), .int .i64 ((rd_T37 t262 x70_3).f2.f0), .int .i64 ((rd_T37 t262 x70_3).f2.f1), .int .i64 ((rd_T37 t262 x70_3).f2.f2)]] rfl (by (try simp only [List.map_toArray, List.map_cons, List.map_nil]); first | done | rfl | (simp only [List.length_drop, List.length_take]; rfl)) ?_; (with_reducible refine (step_Table.calls (hG := ?sideG) k3 a0 _ _ l1 a2 ((rd_T37 t262 x70_3).f0) ((rd_T37 t262 x70_3).f1) ((rd_T37 t262 x70_3).f2.f0) ((rd_T37 t262 x70_3).f2.f1) ((rd_T37 t262 x70_3).f2.f2) t270 t273 _ ?side1 ?side2 A27.out).mono ?_); (case sideG => exact tab_below HG.out (by repeat (first | (with_reducible first | exact HB.out | apply below_alloc | apply pw_below_drewN | apply below_drew1 | refine below_set ?_ GE269.out) | exact HB.out))); (case side1 => exact Kd.C_below HR1.out (by repeat (first | (with_reducible first | exact HB.out | apply below_alloc | apply pw_below_drewN | apply below_drew1 | refine below_set ?_ GE269.out) | exact HB.out))); (case side2 => exact HC1.out); rintro e w34 ⟨v271, rfl, ho0, hb⟩; refine ⟨_, rfl, ?_⟩; have n0_ := Aside0.mk (Kd.R_below (by (with_reducible repeat (first | apply Kd.R_alloc | apply Kd.R_drewN | apply Kd.R_drew)); exact (Kd.R_mono (Kd.R_far (p := ⟨gb269, 4, none⟩) (Kd.R_far (p := ⟨gb269, 3, none⟩) (Kd.R_far (p := ⟨gb269, 2, none⟩) (Kd.R_far (p := ⟨gb269, 1, none⟩) (Kd.R_far (p := ⟨gb269, 0, none⟩) (Kd.R_mono HO_68.out (fun k_ hk => (⟨hk, hk.2⟩ : _ ∧ k_ ≠ gb269))) (fun _ hk => hk.2) (.int .i64 ((rd_T37 t262 x70_3).f0))) (fun _ hk => hk.2) (.bool ((rd_T37 t262 x70_3).f1))) (fun _ hk => hk.2) (.int .i64 ((rd_T37 t262 x70_3).f2.f0))) (fun _ hk => hk.2) (.int .i64 ((rd_T37 t262 x70_3).f2.f1))) (fun _ hk => hk.2) (.int .i64 ((rd_T37 t262 x70_3).f2.f2))) (fun _ h_ => h_.1))) hb); have n1_ := Aside0.mk (Kd.R_lower ho0 (below_size (by repeat (first | (with_reducible first | exact HB.out | apply below_alloc | apply pw_below_drewN | apply below_drew1 | refine below_set ?_ GE269.out) | exact HB.out)))); have n2_ := Aside0.mk (blk_below (g := gb269) (o := .cells #[.int .i64 ((rd_T37 t262 x70_3).f0), .bool ((rd_T37 t262 x70_3).f1), .int .i64 ((rd_T37 t262 x70_3).f2.f0), .int .i64 ((rd_T37 t262 x70_3).f2.f1), .int .i64 ((rd_T37 t262 x70_3).f2.f2)] 37 (0, 0)) (by (with_reducible repeat (first | refine blk_drewN ?_ _ | refine blk_drew ?_ | refine blk_alloc ?_ _)); refine blk_put (cs := #[.int .i64 ((rd_T37 t262 x70_3).f0), .bool ((rd_T37 t262 x70_3).f1), .int .i64 ((rd_T37 t262 x70_3).f2.f0), .int .i64 ((rd_T37 t262 x70_3).f2.f1), .int .i64 0]) ?_ 4 _ rfl; (with_reducible repeat (first | refine blk_drewN ?_ _ | refine blk_drew ?_ | refine blk_alloc ?_ _)); refine blk_put (cs := #[.int .i64 ((rd_T37 t262 x70_3).f0), .bool ((rd_T37 t262 x70_3).f1), .int .i64 ((rd_T37 t262 x70_3).f2.f0), .int .i64 0, .int .i64 0]) ?_ 3 _ rfl; (with_reducible repeat (first | refine blk_drewN ?_ _ | refine blk_drew ?_ | refine blk_alloc ?_ _)); refine blk_put (cs := #[.int .i64 ((rd_T37 t262 x70_3).f0), .bool ((rd_T37 t262 x70_3).f1), .int .i64 0, .int .i64 0, .int .i64 0]) ?_ 2 _ rfl; (with_reducible repeat (first | refine blk_drewN ?_ _ | refine blk_drew ?_ | refine blk_alloc ?_ _)); refine blk_put (cs := #[.int .i64 ((rd_T37 t262 x70_3).f0), .bool false, .int .i64 0, .int .i64 0, .int .i64 0]) ?_ 1 _ rfl; (with_reducible repeat (first | refine blk_drewN ?_ _ | refine blk_drew ?_ | refine blk_alloc ?_ _)); refine blk_put (cs := #[.int .i64 0, .bool false, .int .i64 0, .int .i64 0, .int .i64 0]) ?_ 0 _ rfl; (with_reducible repeat (first | refine blk_drewN ?_ _ | refine blk_drew ?_ | refine blk_alloc ?_ _)); exact BK269.out) hb); have n3_ := Aside0.mk (below_step (by repeat (first | (with_reducible first | exact HB.out | apply below_alloc | apply pw_below_drewN | apply below_drew1 | refine below_set ?_ GE269.out) | exact HB.out)) hb); clear HO_68; clear BK269; clear HB; have HO_68 := n0_; have HO272 := n1_; have BK269 := n2_; have HB := n3_; clear n0_ n1_ n2_ n3_; (try clear hb); (try clear hb2); (try clear hk); (try clear hi); (try clear ho0); obtain ⟨Ao35, co35, eo35⟩ := Kd.R_slice HO272.out; subst eo35) | ((with_reducible refine gate_callee (f := 12) rfl ?_); refine goesL_ (some 86) rfl rfl Tryd.func12 (by kernel_rfl) rfl #[.int .i64 x11_2, .int .i64 (t270.length : Int)] rfl (by (try simp only [List.map_toArray, List.map_cons, List.map_nil]); first | done | rfl | (simp only [List.length_drop, List.length_take]; rfl)) ?_; (with_reducible refine (cost_Step.calls k3 x11_2 (t270.length : Int) t274 t275 _ A28.out).mono ?_); rintro e w36 ⟨rfl, hb⟩; refine ⟨_, rfl, ?_⟩; have n0_ := Aside0.mk (Kd.R_below (by (with_reducible repeat (first | apply Kd.R_alloc | apply Kd.R_drewN | apply Kd.R_drew)); exact HO_68.out) hb); have n1_ := Aside0.mk (Kd.R_below (by (with_reducible repeat (first | apply Kd.R_alloc | apply Kd.R_drewN | apply Kd.R_drew)); exact HO272.out) hb); have n2_ := Aside0.mk (blk_below (g := gb269) (o := .cells #[.int .i64 ((rd_T37 t262 x70_3).f0), .bool ((rd_T37 t262 x70_3).f1), .int .i64 ((rd_T37 t262 x70_3).f2.f0), .int .i64 ((rd_T37 t262 x70_3).f2.f1), .int .i64 ((rd_T37 t262 x70_3).f2.f2)] 37 (0, 0)) (by (with_reducible repeat (first | refine blk_drewN ?_ _ | refine blk_drew ?_ | refine blk_alloc ?_ _)); exact BK269.out) hb); have n3_ := Aside0.mk (below_step (by repeat (first | (with_reducible first | exact HB.out | apply below_alloc | apply pw_below_drewN | apply below_drew1 | refine below_set ?_ GE269.out) | exact HB.out)) hb); clear HO_68; clear HO272; clear BK269; clear HB; have HO_68 := n0_; have HO272 := n1_; have BK269 := n2_; have HB := n3_; clear n0_ n1_ n2_ n3_; (try clear hb); (try clear hb2); (try clear hk); (try clear hi)))
                                  go_roundg k3
                                  case measure => have := HJ9.out; have := HK2.out; have := HK3.out; omega
                                  case rel => exact ⟨(wrap64 (x14_3 + t274)), (wrap64 (x70_3 + 1)), (by first | rfl | (simp; done) | (simp [*]; done)), (by first | rfl | (simp; done) | (simp [*]; done)), H', ⟨by have := HJ9.out; have := HK2.out; have := HK3.out; omega⟩, ⟨by (with_reducible repeat (first | apply Kd.R_alloc | apply Kd.R_drewN | apply Kd.R_drew)); exact Kd.R_mono HO_68.out (fun _ hk => trivial)⟩, ⟨by repeat (first | (with_reducible first | exact HB.out | apply below_alloc | apply pw_below_drewN | apply below_drew1 | refine below_set ?_ GE269.out) | exact HB.out)⟩⟩
                                · rw [if_neg c31] at H
                                  have c31b0 : (t274 == (wrap64 ((wrap64 ((wrap64 (6 * x11_2)) + (wrap64 (2 * (t270.length : Int))))) + 12))) = false := beq_eq_false_iff_ne.mpr c31
                                  have c31b1 : (t274 != (wrap64 ((wrap64 ((wrap64 (6 * x11_2)) + (wrap64 (2 * (t270.length : Int))))) + 12))) = true := bne_iff_ne.mpr c31
                                  obtain rfl := Option.some.inj H
                                  have p268 : 0 ≤ (x70_3 : Int) := of_decide_eq_true (by first | (with_reducible assumption) | assumption)
                                  have q268 : x70_3 < (t262.length : Int) := of_decide_eq_true (by first | (with_reducible assumption) | assumption)
                                  obtain ⟨ad268, e268, hx268_0, hx268_1, hx268_2, hx268_3, hx268_4⟩ := at_T37 (Kd.R_reads' HO_68.out).2.2 x70_3 p268 q268
                                  cases e268
                                  replace p268 := eq_true p268
                                  replace q268 := eq_true q268
                                  go_wp2_with (first | ((with_reducible refine gate_dst (N := 16) rfl ?_); (try (refine gate_guard (by rfl) ?_; dsimp only)); refine box_event ?hg (N := 16) ?hd (cs := #[.int .i64 0, .bool false, .int .i64 0, .int .i64 0, .int .i64 0]) (t := 37) ?hr ?_; (case hd => rfl); (case hg => rfl); (case hr => first | (go_simp; done) | (go_simp; rfl)); intro gb269 hg w37 hbox hb; have n0_ := Aside0.mk (Kd.R_below (Kd.R_elderB (by (with_reducible repeat (first | apply Kd.R_alloc | apply Kd.R_drewN | apply Kd.R_drew)); exact HO_68.out) gb269 (Nat.le_of_eq hg.symm)) hb); have n1_ := Aside0.mk (below_step (by repeat (first | (with_reducible first | exact HB.out | apply below_alloc | apply pw_below_drewN | apply below_drew1) | exact HB.out)) hb); have n2_ := Aside0.mk (hbox); have n3_ := Aside0.mk ((by rw [hg]; exact (below_size (by repeat (first | (with_reducible first | exact HB.out | apply below_alloc | apply pw_below_drewN | apply below_drew1) | exact HB.out))) : w.heap.size ≤ gb269)); have n4_ := Aside0.mk ((by rw [hg]; exact (below_size (by repeat (first | (with_reducible first | exact HB.out | apply below_alloc | apply pw_below_drewN | apply below_drew1) | exact HB.out))) : w.heap.size ≤ gb269)); clear HO_68; clear HB; have HO_68 := n0_; have HB := n1_; have BK269 := n2_; have GW269 := n3_; have GE269 := n4_; clear n0_ n1_ n2_ n3_ n4_; clear hb hbox hg; have hcz38_0 : w37.cell? ⟨gb269, 0, none⟩ = some (.int .i64 0) := (blk_cell BK269.out 0).trans rfl; have hcz38_1 : w37.cell? ⟨gb269, 1, none⟩ = some (.bool false) := (blk_cell BK269.out 1).trans rfl; have hcz38_2 : w37.cell? ⟨gb269, 2, none⟩ = some (.int .i64 0) := (blk_cell BK269.out 2).trans rfl; have hcz38_3 : w37.cell? ⟨gb269, 3, none⟩ = some (.int .i64 0) := (blk_cell BK269.out 3).trans rfl; have hcz38_4 : w37.cell? ⟨gb269, 4, none⟩ = some (.int .i64 0) := (blk_cell BK269.out 4).trans rfl; have hfz38_0 := blk_frozen BK269.out 0; have hfz38_1 := blk_frozen BK269.out 1; have hfz38_2 := blk_frozen BK269.out 2; have hfz38_3 := blk_frozen BK269.out 3; have hfz38_4 := blk_frozen BK269.out 4) | ((with_reducible refine gate_callee (f := 11) rfl ?_); refine goesL_ (some 79) rfl rfl Tryd.func11 (by kernel_rfl) rfl #[.int .u64 a0, .slice A1 l1.length c1, .bool a2, .agg #[.int .i64 ((rd_T37 t262 x70_3).f0), .bool ((rd_T37 t262 x70_3).f1), .int .i64 ((rd_T37 t262 x70_3).f2.f0), .int .i64 ((rd_T37 t262 x70_3).f2.f1), .int .i64 ((rd_T37 t262 x70_3).f2.f2)]] rfl (by (try simp only [List.map_toArray, List.map_cons, List.map_nil]); first | done | rfl | (simp only [List.length_drop, List.length_take]; rfl)) ?_; (with_reducible refine (step_Table.calls (hG := ?sideG) k3 a0 _ _ l1 a2 ((rd_T37 t262 x70_3).f0) ((rd_T37 t262 x70_3).f1) ((rd_T37 t262 x70_3).f2.f0) ((rd_T37 t262 x70_3).f2.f1) ((rd_T37 t262 x70_3).f2.f2) t270 t273 _ ?side1 ?side2 A27.out).mono ?_); (case sideG => exact tab_below HG.out (by repeat (first | (with_reducible first | exact HB.out | apply below_alloc | apply pw_below_drewN | apply below_drew1 | refine below_set ?_ GE269.out) | exact HB.out))); (case side1 => exact Kd.C_below HR1.out (by repeat (first | (with_reducible first | exact HB.out | apply below_alloc | apply pw_below_drewN | apply below_drew1 | refine below_set ?_ GE269.out) | exact HB.out))); (case side2 => exact HC1.out); rintro e w39 ⟨v271, rfl, ho0, hb⟩; refine ⟨_, rfl, ?_⟩; have n0_ := Aside0.mk (Kd.R_below (by (with_reducible repeat (first | apply Kd.R_alloc | apply Kd.R_drewN | apply Kd.R_drew)); exact (Kd.R_mono (Kd.R_far (p := ⟨gb269, 4, none⟩) (Kd.R_far (p := ⟨gb269, 3, none⟩) (Kd.R_far (p := ⟨gb269, 2, none⟩) (Kd.R_far (p := ⟨gb269, 1, none⟩) (Kd.R_far (p := ⟨gb269, 0, none⟩) (Kd.R_mono HO_68.out (fun k_ hk => (⟨hk, hk.2⟩ : _ ∧ k_ ≠ gb269))) (fun _ hk => hk.2) (.int .i64 ((rd_T37 t262 x70_3).f0))) (fun _ hk => hk.2) (.bool ((rd_T37 t262 x70_3).f1))) (fun _ hk => hk.2) (.int .i64 ((rd_T37 t262 x70_3).f2.f0))) (fun _ hk => hk.2) (.int .i64 ((rd_T37 t262 x70_3).f2.f1))) (fun _ hk => hk.2) (.int .i64 ((rd_T37 t262 x70_3).f2.f2))) (fun _ h_ => h_.1))) hb); have n1_ := Aside0.mk (Kd.R_lower ho0 (below_size (by repeat (first | (with_reducible first | exact HB.out | apply below_alloc | apply pw_below_drewN | apply below_drew1 | refine below_set ?_ GE269.out) | exact HB.out)))); have n2_ := Aside0.mk (blk_below (g := gb269) (o := .cells #[.int .i64 ((rd_T37 t262 x70_3).f0), .bool ((rd_T37 t262 x70_3).f1), .int .i64 ((rd_T37 t262 x70_3).f2.f0), .int .i64 ((rd_T37 t262 x70_3).f2.f1), .int .i64 ((rd_T37 t262 x70_3).f2.f2)] 37 (0, 0)) (by (with_reducible repeat (first | refine blk_drewN ?_ _ | refine blk_drew ?_ | refine blk_alloc ?_ _)); refine blk_put (cs := #[.int .i64 ((rd_T37 t262 x70_3).f0), .bool ((rd_T37 t262 x70_3).f1), .int .i64 ((rd_T37 t262 x70_3).f2.f0), .int .i64 ((rd_T37 t262 x70_3).f2.f1), .int .i64 0]) ?_ 4 _ rfl; (with_reducible repeat (first | refine blk_drewN ?_ _ | refine blk_drew ?_ | refine blk_alloc ?_ _)); refine blk_put (cs := #[.int .i64 ((rd_T37 t262 x70_3).f0), .bool ((rd_T37 t262 x70_3).f1), .int .i64 ((rd_T37 t262 x70_3).f2.f0), .int .i64 0, .int .i64 0]) ?_ 3 _ rfl; (with_reducible repeat (first | refine blk_drewN ?_ _ | refine blk_drew ?_ | refine blk_alloc ?_ _)); refine blk_put (cs := #[.int .i64 ((rd_T37 t262 x70_3).f0), .bool ((rd_T37 t262 x70_3).f1), .int .i64 0, .int .i64 0, .int .i64 0]) ?_ 2 _ rfl; (with_reducible repeat (first | refine blk_drewN ?_ _ | refine blk_drew ?_ | refine blk_alloc ?_ _)); refine blk_put (cs := #[.int .i64 ((rd_T37 t262 x70_3).f0), .bool false, .int .i64 0, .int .i64 0, .int .i64 0]) ?_ 1 _ rfl; (with_reducible repeat (first | refine blk_drewN ?_ _ | refine blk_drew ?_ | refine blk_alloc ?_ _)); refine blk_put (cs := #[.int .i64 0, .bool false, .int .i64 0, .int .i64 0, .int .i64 0]) ?_ 0 _ rfl; (with_reducible repeat (first | refine blk_drewN ?_ _ | refine blk_drew ?_ | refine blk_alloc ?_ _)); exact BK269.out) hb); have n3_ := Aside0.mk (below_step (by repeat (first | (with_reducible first | exact HB.out | apply below_alloc | apply pw_below_drewN | apply below_drew1 | refine below_set ?_ GE269.out) | exact HB.out)) hb); clear HO_68; clear BK269; clear HB; have HO_68 := n0_; have HO272 := n1_; have BK269 := n2_; have HB := n3_; clear n0_ n1_ n2_ n3_; (try clear hb); (try clear hb2); (try clear hk); (try clear hi); (try clear ho0); obtain ⟨Ao40, co40, eo40⟩ := Kd.R_slice HO272.out; subst eo40) | ((with_reducible refine gate_callee (f := 12) rfl ?_); refine goesL_ (some 86) rfl rfl Tryd.func12 (by kernel_rfl) rfl #[.int .i64 x11_2, .int .i64 (t270.length : Int)] rfl (by (try simp only [List.map_toArray, List.map_cons, List.map_nil]); first | done | rfl | (simp only [List.length_drop, List.length_take]; rfl)) ?_; (with_reducible refine (cost_Step.calls k3 x11_2 (t270.length : Int) t274 t275 _ A28.out).mono ?_); rintro e w41 ⟨rfl, hb⟩; refine ⟨_, rfl, ?_⟩; have n0_ := Aside0.mk (Kd.R_below (by (with_reducible repeat (first | apply Kd.R_alloc | apply Kd.R_drewN | apply Kd.R_drew)); exact HO_68.out) hb); have n1_ := Aside0.mk (Kd.R_below (by (with_reducible repeat (first | apply Kd.R_alloc | apply Kd.R_drewN | apply Kd.R_drew)); exact HO272.out) hb); have n2_ := Aside0.mk (blk_below (g := gb269) (o := .cells #[.int .i64 ((rd_T37 t262 x70_3).f0), .bool ((rd_T37 t262 x70_3).f1), .int .i64 ((rd_T37 t262 x70_3).f2.f0), .int .i64 ((rd_T37 t262 x70_3).f2.f1), .int .i64 ((rd_T37 t262 x70_3).f2.f2)] 37 (0, 0)) (by (with_reducible repeat (first | refine blk_drewN ?_ _ | refine blk_drew ?_ | refine blk_alloc ?_ _)); exact BK269.out) hb); have n3_ := Aside0.mk (below_step (by repeat (first | (with_reducible first | exact HB.out | apply below_alloc | apply pw_below_drewN | apply below_drew1 | refine below_set ?_ GE269.out) | exact HB.out)) hb); clear HO_68; clear HO272; clear BK269; clear HB; have HO_68 := n0_; have HO272 := n1_; have BK269 := n2_; have HB := n3_; clear n0_ n1_ n2_ n3_; (try clear hb); (try clear hb2); (try clear hk); (try clear hi)))
                                  go_ret
                                  exact ⟨by first | rfl | (simp [errW_none, errW_some] <;> rfl) | (simp [*, errW_none, errW_some] <;> rfl), by repeat (first | (with_reducible first | exact HB.out | apply below_alloc | apply pw_below_drewN | apply below_drew1 | refine below_set ?_ GE269.out) | exact HB.out)⟩
                              · rw [if_neg c30] at H
                                have c30b0 : (t275 == 0) = false := beq_eq_false_iff_ne.mpr c30
                                have c30b1 : (t275 != 0) = true := bne_iff_ne.mpr c30
                                obtain rfl := Option.some.inj H
                                have p268 : 0 ≤ (x70_3 : Int) := of_decide_eq_true (by first | (with_reducible assumption) | assumption)
                                have q268 : x70_3 < (t262.length : Int) := of_decide_eq_true (by first | (with_reducible assumption) | assumption)
                                obtain ⟨ad268, e268, hx268_0, hx268_1, hx268_2, hx268_3, hx268_4⟩ := at_T37 (Kd.R_reads' HO_68.out).2.2 x70_3 p268 q268
                                cases e268
                                replace p268 := eq_true p268
                                replace q268 := eq_true q268
                                go_wp2_with (first | ((with_reducible refine gate_dst (N := 16) rfl ?_); (try (refine gate_guard (by rfl) ?_; dsimp only)); refine box_event ?hg (N := 16) ?hd (cs := #[.int .i64 0, .bool false, .int .i64 0, .int .i64 0, .int .i64 0]) (t := 37) ?hr ?_; (case hd => rfl); (case hg => rfl); (case hr => first | (go_simp; done) | (go_simp; rfl)); intro gb269 hg w42 hbox hb; have n0_ := Aside0.mk (Kd.R_below (Kd.R_elderB (by (with_reducible repeat (first | apply Kd.R_alloc | apply Kd.R_drewN | apply Kd.R_drew)); exact HO_68.out) gb269 (Nat.le_of_eq hg.symm)) hb); have n1_ := Aside0.mk (below_step (by repeat (first | (with_reducible first | exact HB.out | apply below_alloc | apply pw_below_drewN | apply below_drew1) | exact HB.out)) hb); have n2_ := Aside0.mk (hbox); have n3_ := Aside0.mk ((by rw [hg]; exact (below_size (by repeat (first | (with_reducible first | exact HB.out | apply below_alloc | apply pw_below_drewN | apply below_drew1) | exact HB.out))) : w.heap.size ≤ gb269)); have n4_ := Aside0.mk ((by rw [hg]; exact (below_size (by repeat (first | (with_reducible first | exact HB.out | apply below_alloc | apply pw_below_drewN | apply below_drew1) | exact HB.out))) : w.heap.size ≤ gb269)); clear HO_68; clear HB; have HO_68 := n0_; have HB := n1_; have BK269 := n2_; have GW269 := n3_; have GE269 := n4_; clear n0_ n1_ n2_ n3_ n4_; clear hb hbox hg; have hcz43_0 : w42.cell? ⟨gb269, 0, none⟩ = some (.int .i64 0) := (blk_cell BK269.out 0).trans rfl; have hcz43_1 : w42.cell? ⟨gb269, 1, none⟩ = some (.bool false) := (blk_cell BK269.out 1).trans rfl; have hcz43_2 : w42.cell? ⟨gb269, 2, none⟩ = some (.int .i64 0) := (blk_cell BK269.out 2).trans rfl; have hcz43_3 : w42.cell? ⟨gb269, 3, none⟩ = some (.int .i64 0) := (blk_cell BK269.out 3).trans rfl; have hcz43_4 : w42.cell? ⟨gb269, 4, none⟩ = some (.int .i64 0) := (blk_cell BK269.out 4).trans rfl; have hfz43_0 := blk_frozen BK269.out 0; have hfz43_1 := blk_frozen BK269.out 1; have hfz43_2 := blk_frozen BK269.out 2; have hfz43_3 := blk_frozen BK269.out 3; have hfz43_4 := blk_frozen BK269.out 4) | ((with_reducible refine gate_callee (f := 11) rfl ?_); refine goesL_ (some 79) rfl rfl Tryd.func11 (by kernel_rfl) rfl #[.int .u64 a0, .slice A1 l1.length c1, .bool a2, .agg #[.int .i64 ((rd_T37 t262 x70_3).f0), .bool ((rd_T37 t262 x70_3).f1), .int .i64 ((rd_T37 t262 x70_3).f2.f0), .int .i64 ((rd_T37 t262 x70_3).f2.f1), .int .i64 ((rd_T37 t262 x70_3).f2.f2)]] rfl (by (try simp only [List.map_toArray, List.map_cons, List.map_nil]); first | done | rfl | (simp only [List.length_drop, List.length_take]; rfl)) ?_; (with_reducible refine (step_Table.calls (hG := ?sideG) k3 a0 _ _ l1 a2 ((rd_T37 t262 x70_3).f0) ((rd_T37 t262 x70_3).f1) ((rd_T37 t262 x70_3).f2.f0) ((rd_T37 t262 x70_3).f2.f1) ((rd_T37 t262 x70_3).f2.f2) t270 t273 _ ?side1 ?side2 A27.out).mono ?_); (case sideG => exact tab_below HG.out (by repeat (first | (with_reducible first | exact HB.out | apply below_alloc | apply pw_below_drewN | apply below_drew1 | refine below_set ?_ GE269.out) | exact HB.out))); (case side1 => exact Kd.C_below HR1.out (by repeat (first | (with_reducible first | exact HB.out | apply below_alloc | apply pw_below_drewN | apply below_drew1 | refine below_set ?_ GE269.out) | exact HB.out))); (case side2 => exact HC1.out); rintro e w44 ⟨v271, rfl, ho0, hb⟩; refine ⟨_, rfl, ?_⟩; have n0_ := Aside0.mk (Kd.R_below (by (with_reducible repeat (first | apply Kd.R_alloc | apply Kd.R_drewN | apply Kd.R_drew)); exact (Kd.R_mono (Kd.R_far (p := ⟨gb269, 4, none⟩) (Kd.R_far (p := ⟨gb269, 3, none⟩) (Kd.R_far (p := ⟨gb269, 2, none⟩) (Kd.R_far (p := ⟨gb269, 1, none⟩) (Kd.R_far (p := ⟨gb269, 0, none⟩) (Kd.R_mono HO_68.out (fun k_ hk => (⟨hk, hk.2⟩ : _ ∧ k_ ≠ gb269))) (fun _ hk => hk.2) (.int .i64 ((rd_T37 t262 x70_3).f0))) (fun _ hk => hk.2) (.bool ((rd_T37 t262 x70_3).f1))) (fun _ hk => hk.2) (.int .i64 ((rd_T37 t262 x70_3).f2.f0))) (fun _ hk => hk.2) (.int .i64 ((rd_T37 t262 x70_3).f2.f1))) (fun _ hk => hk.2) (.int .i64 ((rd_T37 t262 x70_3).f2.f2))) (fun _ h_ => h_.1))) hb); have n1_ := Aside0.mk (Kd.R_lower ho0 (below_size (by repeat (first | (with_reducible first | exact HB.out | apply below_alloc | apply pw_below_drewN | apply below_drew1 | refine below_set ?_ GE269.out) | exact HB.out)))); have n2_ := Aside0.mk (blk_below (g := gb269) (o := .cells #[.int .i64 ((rd_T37 t262 x70_3).f0), .bool ((rd_T37 t262 x70_3).f1), .int .i64 ((rd_T37 t262 x70_3).f2.f0), .int .i64 ((rd_T37 t262 x70_3).f2.f1), .int .i64 ((rd_T37 t262 x70_3).f2.f2)] 37 (0, 0)) (by (with_reducible repeat (first | refine blk_drewN ?_ _ | refine blk_drew ?_ | refine blk_alloc ?_ _)); refine blk_put (cs := #[.int .i64 ((rd_T37 t262 x70_3).f0), .bool ((rd_T37 t262 x70_3).f1), .int .i64 ((rd_T37 t262 x70_3).f2.f0), .int .i64 ((rd_T37 t262 x70_3).f2.f1), .int .i64 0]) ?_ 4 _ rfl; (with_reducible repeat (first | refine blk_drewN ?_ _ | refine blk_drew ?_ | refine blk_alloc ?_ _)); refine blk_put (cs := #[.int .i64 ((rd_T37 t262 x70_3).f0), .bool ((rd_T37 t262 x70_3).f1), .int .i64 ((rd_T37 t262 x70_3).f2.f0), .int .i64 0, .int .i64 0]) ?_ 3 _ rfl; (with_reducible repeat (first | refine blk_drewN ?_ _ | refine blk_drew ?_ | refine blk_alloc ?_ _)); refine blk_put (cs := #[.int .i64 ((rd_T37 t262 x70_3).f0), .bool ((rd_T37 t262 x70_3).f1), .int .i64 0, .int .i64 0, .int .i64 0]) ?_ 2 _ rfl; (with_reducible repeat (first | refine blk_drewN ?_ _ | refine blk_drew ?_ | refine blk_alloc ?_ _)); refine blk_put (cs := #[.int .i64 ((rd_T37 t262 x70_3).f0), .bool false, .int .i64 0, .int .i64 0, .int .i64 0]) ?_ 1 _ rfl; (with_reducible repeat (first | refine blk_drewN ?_ _ | refine blk_drew ?_ | refine blk_alloc ?_ _)); refine blk_put (cs := #[.int .i64 0, .bool false, .int .i64 0, .int .i64 0, .int .i64 0]) ?_ 0 _ rfl; (with_reducible repeat (first | refine blk_drewN ?_ _ | refine blk_drew ?_ | refine blk_alloc ?_ _)); exact BK269.out) hb); have n3_ := Aside0.mk (below_step (by repeat (first | (with_reducible first | exact HB.out | apply below_alloc | apply pw_below_drewN | apply below_drew1 | refine below_set ?_ GE269.out) | exact HB.out)) hb); clear HO_68; clear BK269; clear HB; have HO_68 := n0_; have HO272 := n1_; have BK269 := n2_; have HB := n3_; clear n0_ n1_ n2_ n3_; (try clear hb); (try clear hb2); (try clear hk); (try clear hi); (try clear ho0); obtain ⟨Ao45, co45, eo45⟩ := Kd.R_slice HO272.out; subst eo45) | ((with_reducible refine gate_callee (f := 12) rfl ?_); refine goesL_ (some 86) rfl rfl Tryd.func12 (by kernel_rfl) rfl #[.int .i64 x11_2, .int .i64 (t270.length : Int)] rfl (by (try simp only [List.map_toArray, List.map_cons, List.map_nil]); first | done | rfl | (simp only [List.length_drop, List.length_take]; rfl)) ?_; (with_reducible refine (cost_Step.calls k3 x11_2 (t270.length : Int) t274 t275 _ A28.out).mono ?_); rintro e w46 ⟨rfl, hb⟩; refine ⟨_, rfl, ?_⟩; have n0_ := Aside0.mk (Kd.R_below (by (with_reducible repeat (first | apply Kd.R_alloc | apply Kd.R_drewN | apply Kd.R_drew)); exact HO_68.out) hb); have n1_ := Aside0.mk (Kd.R_below (by (with_reducible repeat (first | apply Kd.R_alloc | apply Kd.R_drewN | apply Kd.R_drew)); exact HO272.out) hb); have n2_ := Aside0.mk (blk_below (g := gb269) (o := .cells #[.int .i64 ((rd_T37 t262 x70_3).f0), .bool ((rd_T37 t262 x70_3).f1), .int .i64 ((rd_T37 t262 x70_3).f2.f0), .int .i64 ((rd_T37 t262 x70_3).f2.f1), .int .i64 ((rd_T37 t262 x70_3).f2.f2)] 37 (0, 0)) (by (with_reducible repeat (first | refine blk_drewN ?_ _ | refine blk_drew ?_ | refine blk_alloc ?_ _)); exact BK269.out) hb); have n3_ := Aside0.mk (below_step (by repeat (first | (with_reducible first | exact HB.out | apply below_alloc | apply pw_below_drewN | apply below_drew1 | refine below_set ?_ GE269.out) | exact HB.out)) hb); clear HO_68; clear HO272; clear BK269; clear HB; have HO_68 := n0_; have HO272 := n1_; have BK269 := n2_; have HB := n3_; clear n0_ n1_ n2_ n3_; (try clear hb); (try clear hb2); (try clear hk); (try clear hi)))
                                go_ret
                                exact ⟨by first | rfl | (simp [errW_none, errW_some] <;> rfl) | (simp [*, errW_none, errW_some] <;> rfl), by repeat (first | (with_reducible first | exact HB.out | apply below_alloc | apply pw_below_drewN | apply below_drew1 | refine below_set ?_ GE269.out) | exact HB.out)⟩
                            · rw [if_neg c29] at H
                              have c29b0 : (t273 == 0) = false := beq_eq_false_iff_ne.mpr c29
                              have c29b1 : (t273 != 0) = true := bne_iff_ne.mpr c29
                              obtain rfl := Option.some.inj H
                              have p268 : 0 ≤ (x70_3 : Int) := of_decide_eq_true (by first | (with_reducible assumption) | assumption)
                              have q268 : x70_3 < (t262.length : Int) := of_decide_eq_true (by first | (with_reducible assumption) | assumption)
                              obtain ⟨ad268, e268, hx268_0, hx268_1, hx268_2, hx268_3, hx268_4⟩ := at_T37 (Kd.R_reads' HO_68.out).2.2 x70_3 p268 q268
                              cases e268
                              replace p268 := eq_true p268
                              replace q268 := eq_true q268
                              go_wp2_with (first | ((with_reducible refine gate_dst (N := 16) rfl ?_); (try (refine gate_guard (by rfl) ?_; dsimp only)); refine box_event ?hg (N := 16) ?hd (cs := #[.int .i64 0, .bool false, .int .i64 0, .int .i64 0, .int .i64 0]) (t := 37) ?hr ?_; (case hd => rfl); (case hg => rfl); (case hr => first | (go_simp; done) | (go_simp; rfl)); intro gb269 hg w47 hbox hb; have n0_ := Aside0.mk (Kd.R_below (Kd.R_elderB (by (with_reducible repeat (first | apply Kd.R_alloc | apply Kd.R_drewN | apply Kd.R_drew)); exact HO_68.out) gb269 (Nat.le_of_eq hg.symm)) hb); have n1_ := Aside0.mk (below_step (by repeat (first | (with_reducible first | exact HB.out | apply below_alloc | apply pw_below_drewN | apply below_drew1) | exact HB.out)) hb); have n2_ := Aside0.mk (hbox); have n3_ := Aside0.mk ((by rw [hg]; exact (below_size (by repeat (first | (with_reducible first | exact HB.out | apply below_alloc | apply pw_below_drewN | apply below_drew1) | exact HB.out))) : w.heap.size ≤ gb269)); have n4_ := Aside0.mk ((by rw [hg]; exact (below_size (by repeat (first | (with_reducible first | exact HB.out | apply below_alloc | apply pw_below_drewN | apply below_drew1) | exact HB.out))) : w.heap.size ≤ gb269)); clear HO_68; clear HB; have HO_68 := n0_; have HB := n1_; have BK269 := n2_; have GW269 := n3_; have GE269 := n4_; clear n0_ n1_ n2_ n3_ n4_; clear hb hbox hg; have hcz48_0 : w47.cell? ⟨gb269, 0, none⟩ = some (.int .i64 0) := (blk_cell BK269.out 0).trans rfl; have hcz48_1 : w47.cell? ⟨gb269, 1, none⟩ = some (.bool false) := (blk_cell BK269.out 1).trans rfl; have hcz48_2 : w47.cell? ⟨gb269, 2, none⟩ = some (.int .i64 0) := (blk_cell BK269.out 2).trans rfl; have hcz48_3 : w47.cell? ⟨gb269, 3, none⟩ = some (.int .i64 0) := (blk_cell BK269.out 3).trans rfl; have hcz48_4 : w47.cell? ⟨gb269, 4, none⟩ = some (.int .i64 0) := (blk_cell BK269.out 4).trans rfl; have hfz48_0 := blk_frozen BK269.out 0; have hfz48_1 := blk_frozen BK269.out 1; have hfz48_2 := blk_frozen BK269.out 2; have hfz48_3 := blk_frozen BK269.out 3; have hfz48_4 := blk_frozen BK269.out 4) | ((with_reducible refine gate_callee (f := 11) rfl ?_); refine goesL_ (some 79) rfl rfl Tryd.func11 (by kernel_rfl) rfl #[.int .u64 a0, .slice A1 l1.length c1, .bool a2, .agg #[.int .i64 ((rd_T37 t262 x70_3).f0), .bool ((rd_T37 t262 x70_3).f1), .int .i64 ((rd_T37 t262 x70_3).f2.f0), .int .i64 ((rd_T37 t262 x70_3).f2.f1), .int .i64 ((rd_T37 t262 x70_3).f2.f2)]] rfl (by (try simp only [List.map_toArray, List.map_cons, List.map_nil]); first | done | rfl | (simp only [List.length_drop, List.length_take]; rfl)) ?_; (with_reducible refine (step_Table.calls (hG := ?sideG) k3 a0 _ _ l1 a2 ((rd_T37 t262 x70_3).f0) ((rd_T37 t262 x70_3).f1) ((rd_T37 t262 x70_3).f2.f0) ((rd_T37 t262 x70_3).f2.f1) ((rd_T37 t262 x70_3).f2.f2) t270 t273 _ ?side1 ?side2 A27.out).mono ?_); (case sideG => exact tab_below HG.out (by repeat (first | (with_reducible first | exact HB.out | apply below_alloc | apply pw_below_drewN | apply below_drew1 | refine below_set ?_ GE269.out) | exact HB.out))); (case side1 => exact Kd.C_below HR1.out (by repeat (first | (with_reducible first | exact HB.out | apply below_alloc | apply pw_below_drewN | apply below_drew1 | refine below_set ?_ GE269.out) | exact HB.out))); (case side2 => exact HC1.out); rintro e w49 ⟨v271, rfl, ho0, hb⟩; refine ⟨_, rfl, ?_⟩; have n0_ := Aside0.mk (Kd.R_below (by (with_reducible repeat (first | apply Kd.R_alloc | apply Kd.R_drewN | apply Kd.R_drew)); exact (Kd.R_mono (Kd.R_far (p := ⟨gb269, 4, none⟩) (Kd.R_far (p := ⟨gb269, 3, none⟩) (Kd.R_far (p := ⟨gb269, 2, none⟩) (Kd.R_far (p := ⟨gb269, 1, none⟩) (Kd.R_far (p := ⟨gb269, 0, none⟩) (Kd.R_mono HO_68.out (fun k_ hk => (⟨hk, hk.2⟩ : _ ∧ k_ ≠ gb269))) (fun _ hk => hk.2) (.int .i64 ((rd_T37 t262 x70_3).f0))) (fun _ hk => hk.2) (.bool ((rd_T37 t262 x70_3).f1))) (fun _ hk => hk.2) (.int .i64 ((rd_T37 t262 x70_3).f2.f0))) (fun _ hk => hk.2) (.int .i64 ((rd_T37 t262 x70_3).f2.f1))) (fun _ hk => hk.2) (.int .i64 ((rd_T37 t262 x70_3).f2.f2))) (fun _ h_ => h_.1))) hb); have n1_ := Aside0.mk (Kd.R_lower ho0 (below_size (by repeat (first | (with_reducible first | exact HB.out | apply below_alloc | apply pw_below_drewN | apply below_drew1 | refine below_set ?_ GE269.out) | exact HB.out)))); have n2_ := Aside0.mk (blk_below (g := gb269) (o := .cells #[.int .i64 ((rd_T37 t262 x70_3).f0), .bool ((rd_T37 t262 x70_3).f1), .int .i64 ((rd_T37 t262 x70_3).f2.f0), .int .i64 ((rd_T37 t262 x70_3).f2.f1), .int .i64 ((rd_T37 t262 x70_3).f2.f2)] 37 (0, 0)) (by (with_reducible repeat (first | refine blk_drewN ?_ _ | refine blk_drew ?_ | refine blk_alloc ?_ _)); refine blk_put (cs := #[.int .i64 ((rd_T37 t262 x70_3).f0), .bool ((rd_T37 t262 x70_3).f1), .int .i64 ((rd_T37 t262 x70_3).f2.f0), .int .i64 ((rd_T37 t262 x70_3).f2.f1), .int .i64 0]) ?_ 4 _ rfl; (with_reducible repeat (first | refine blk_drewN ?_ _ | refine blk_drew ?_ | refine blk_alloc ?_ _)); refine blk_put (cs := #[.int .i64 ((rd_T37 t262 x70_3).f0), .bool ((rd_T37 t262 x70_3).f1), .int .i64 ((rd_T37 t262 x70_3).f2.f0), .int .i64 0, .int .i64 0]) ?_ 3 _ rfl; (with_reducible repeat (first | refine blk_drewN ?_ _ | refine blk_drew ?_ | refine blk_alloc ?_ _)); refine blk_put (cs := #[.int .i64 ((rd_T37 t262 x70_3).f0), .bool ((rd_T37 t262 x70_3).f1), .int .i64 0, .int .i64 0, .int .i64 0]) ?_ 2 _ rfl; (with_reducible repeat (first | refine blk_drewN ?_ _ | refine blk_drew ?_ | refine blk_alloc ?_ _)); refine blk_put (cs := #[.int .i64 ((rd_T37 t262 x70_3).f0), .bool false, .int .i64 0, .int .i64 0, .int .i64 0]) ?_ 1 _ rfl; (with_reducible repeat (first | refine blk_drewN ?_ _ | refine blk_drew ?_ | refine blk_alloc ?_ _)); refine blk_put (cs := #[.int .i64 0, .bool false, .int .i64 0, .int .i64 0, .int .i64 0]) ?_ 0 _ rfl; (with_reducible repeat (first | refine blk_drewN ?_ _ | refine blk_drew ?_ | refine blk_alloc ?_ _)); exact BK269.out) hb); have n3_ := Aside0.mk (below_step (by repeat (first | (with_reducible first | exact HB.out | apply below_alloc | apply pw_below_drewN | apply below_drew1 | refine below_set ?_ GE269.out) | exact HB.out)) hb); clear HO_68; clear BK269; clear HB; have HO_68 := n0_; have HO272 := n1_; have BK269 := n2_; have HB := n3_; clear n0_ n1_ n2_ n3_; (try clear hb); (try clear hb2); (try clear hk); (try clear hi); (try clear ho0); obtain ⟨Ao50, co50, eo50⟩ := Kd.R_slice HO272.out; subst eo50) | ((with_reducible refine gate_callee (f := 12) rfl ?_); refine goesL_ (some 86) rfl rfl Tryd.func12 (by kernel_rfl) rfl #[.int .i64 x11_2, .int .i64 (t270.length : Int)] rfl (by (try simp only [List.map_toArray, List.map_cons, List.map_nil]); first | done | rfl | (simp only [List.length_drop, List.length_take]; rfl)) ?_; (with_reducible refine (cost_Step.calls k3 x11_2 (t270.length : Int) t274 t275 _ A28.out).mono ?_); rintro e w51 ⟨rfl, hb⟩; refine ⟨_, rfl, ?_⟩; have n0_ := Aside0.mk (Kd.R_below (by (with_reducible repeat (first | apply Kd.R_alloc | apply Kd.R_drewN | apply Kd.R_drew)); exact HO_68.out) hb); have n1_ := Aside0.mk (Kd.R_below (by (with_reducible repeat (first | apply Kd.R_alloc | apply Kd.R_drewN | apply Kd.R_drew)); exact HO272.out) hb); have n2_ := Aside0.mk (blk_below (g := gb269) (o := .cells #[.int .i64 ((rd_T37 t262 x70_3).f0), .bool ((rd_T37 t262 x70_3).f1), .int .i64 ((rd_T37 t262 x70_3).f2.f0), .int .i64 ((rd_T37 t262 x70_3).f2.f1), .int .i64 ((rd_T37 t262 x70_3).f2.f2)] 37 (0, 0)) (by (with_reducible repeat (first | refine blk_drewN ?_ _ | refine blk_drew ?_ | refine blk_alloc ?_ _)); exact BK269.out) hb); have n3_ := Aside0.mk (below_step (by repeat (first | (with_reducible first | exact HB.out | apply below_alloc | apply pw_below_drewN | apply below_drew1 | refine below_set ?_ GE269.out) | exact HB.out)) hb); clear HO_68; clear HO272; clear BK269; clear HB; have HO_68 := n0_; have HO272 := n1_; have BK269 := n2_; have HB := n3_; clear n0_ n1_ n2_ n3_; (try clear hb); (try clear hb2); (try clear hk); (try clear hi)))
                              go_ret
                              exact ⟨by first | rfl | (simp [errW_none, errW_some] <;> rfl) | (simp [*, errW_none, errW_some] <;> rfl), by repeat (first | (with_reducible first | exact HB.out | apply below_alloc | apply pw_below_drewN | apply below_drew1 | refine below_set ?_ GE269.out) | exact HB.out)⟩
                          · rw [if_neg c26] at H
                            exact absurd H (by simp)
                        · rw [if_neg c25] at H
                          exact absurd H (by simp)
                      · rw [if_neg c24] at H
                        have c24b0 : decide (x70_3 < (t262.length : Int)) = false := decide_eq_false c24
                        clear c24
                        obtain rfl := Option.some.inj H
                        go_wp2
                        go_ret
                        exact ⟨by first | rfl | (simp [errW_none, errW_some] <;> rfl) | (simp [*, errW_none, errW_some] <;> rfl), by repeat (first | (with_reducible first | exact HB.out | apply below_alloc | apply pw_below_drewN | apply below_drew1) | exact HB.out)⟩
    · replace c7 := Bool.eq_false_iff.mpr c7
      subst c7
      have H1 : (some true) = some r := by rw [if_neg (show ¬ (false = true) by decide)] at H; exact H
      clear H
      have H := H1
      clear H1
      obtain rfl := Option.some.inj H
      go_enter Tryd.func3, Tryd.ntmps3
      go_wp2_with (first | ((with_reducible refine gate_callee (f := 7) rfl ?_); refine goesL_ (some 21) rfl rfl Tryd.func7 (by kernel_rfl) rfl #[] rfl (by (try simp only [List.map_toArray, List.map_cons, List.map_nil]); first | done | rfl | (simp only [List.length_drop, List.length_take]; rfl)) ?_; (with_reducible refine (brackenlaw22_live.calls (hG := ?sideG) k  true _ A4.out).mono ?_); (case sideG => exact tab_below HG.out (by repeat (first | (with_reducible first | exact HB.out | apply below_alloc | apply pw_below_drewN | apply below_drew1) | exact HB.out))); rintro e w52 ⟨rfl, hb⟩; refine ⟨_, rfl, ?_⟩; have n0_ := Aside0.mk (below_step (by repeat (first | (with_reducible first | exact HB.out | apply below_alloc | apply pw_below_drewN | apply below_drew1) | exact HB.out)) hb); clear HB; have HB := n0_; clear n0_; (try clear hb); (try clear hb2); (try clear hk); (try clear hi)) | ((with_reducible refine gate_callee (f := 8) rfl ?_); refine goesL_ (some 24) rfl rfl Tryd.func8 (by kernel_rfl) rfl #[.slice A1 l1.length c1, .int .i64 100] rfl (by (try simp only [List.map_toArray, List.map_cons, List.map_nil]); first | done | rfl | (simp only [List.length_drop, List.length_take]; rfl)) ?_; (with_reducible refine (brackenref07_Few.calls k _ _ l1 100 false _ ?side1 ?side2 A6.out).mono ?_); (case side1 => repeat (first | exact (Kd.C_below HR1.out HB.out) | (with_reducible refine Kd.C_alloc ?_ _) | (with_reducible refine Kd.C_drewN ?_ _) | (with_reducible refine Kd.C_drew ?_))); (case side2 => exact HC1.out); rintro e w53 ⟨rfl, hb⟩; refine ⟨_, rfl, ?_⟩; have n0_ := Aside0.mk (below_step (by repeat (first | (with_reducible first | exact HB.out | apply below_alloc | apply pw_below_drewN | apply below_drew1) | exact HB.out)) hb); clear HB; have HB := n0_; clear n0_; (try clear hb); (try clear hb2); (try clear hk); (try clear hi)))
      go_ret
      exact ⟨by first | rfl | (simp [errW_none, errW_some] <;> rfl) | (simp [*, errW_none, errW_some] <;> rfl), by repeat (first | (with_reducible first | exact HB.out | apply below_alloc | apply pw_below_drewN | apply below_drew1) | exact HB.out)⟩
  · replace c5 := Bool.eq_false_iff.mpr c5
    subst c5
    have H1 : (some false) = some r := by rw [if_neg (show ¬ (false = true) by decide)] at H; exact H
    clear H
    have H := H1
    clear H1
    obtain rfl := Option.some.inj H
    go_enter Tryd.func3, Tryd.ntmps3
    go_wp2_with (first | ((with_reducible refine gate_callee (f := 7) rfl ?_); refine goesL_ (some 21) rfl rfl Tryd.func7 (by kernel_rfl) rfl #[] rfl (by (try simp only [List.map_toArray, List.map_cons, List.map_nil]); first | done | rfl | (simp only [List.length_drop, List.length_take]; rfl)) ?_; (with_reducible refine (brackenlaw22_live.calls (hG := ?sideG) k  false _ A4.out).mono ?_); (case sideG => exact tab_below HG.out (by repeat (first | (with_reducible first | exact HB.out | apply below_alloc | apply pw_below_drewN | apply below_drew1) | exact HB.out))); rintro e w54 ⟨rfl, hb⟩; refine ⟨_, rfl, ?_⟩; have n0_ := Aside0.mk (below_step (by repeat (first | (with_reducible first | exact HB.out | apply below_alloc | apply pw_below_drewN | apply below_drew1) | exact HB.out)) hb); clear HB; have HB := n0_; clear n0_; (try clear hb); (try clear hb2); (try clear hk); (try clear hi)))
    go_ret
    exact ⟨by first | rfl | (simp [errW_none, errW_some] <;> rfl) | (simp [*, errW_none, errW_some] <;> rfl), by repeat (first | (with_reducible first | exact HB.out | apply below_alloc | apply pw_below_drewN | apply below_drew1) | exact HB.out)⟩

end Go.Proofs.YtcilfgedcnehfaaDoor.PCP
