import Derived.Test.YtcilfgedcnehfaaDoorQCost
set_option linter.unusedVariables false
set_option linter.unusedSimpArgs false
namespace Go.Proofs.YtcilfgedcnehfaaDoor.PCP
open Go.RowKit Go.Proofs.YtcilfgedcnehfaaDoorW.PrintWords Go.Proofs.YtcilfgedcnehfaaDoorW.PrintLast Go.Proofs.YtcilfgedcnehfaaDoorW.PrintMore
theorem live_val : trialV 998244353 [⟨2, false⟩] false = (46, 0) := by decide +kernel
theorem live_ev : Ev (fun k => brackenlaw22_live.f k) true := by
  unfold brackenlaw22_live.f
  have := trial_ev 998244353 [⟨2, false⟩] (by simp) false
  rw [live_val] at this
  exact Ev.bind this (Ev.now _)
def accV (p : Int) (l : List Ax) (inv : Bool) (st : List Sp) : Int := 3 * nV l + 12 + (costL p l inv st).sum
theorem sum_range : ∀ (B : Int) (r : List Int), (∀ x ∈ r, 0 ≤ x ∧ x ≤ B) → 0 ≤ r.sum ∧ r.sum ≤ r.length * B := by
  intro B r
  induction r with
  | nil => intro _; simp
  | cons x r ih =>
    intro hx
    have h1 := ih (fun y hy => hx y (List.mem_cons_of_mem _ hy))
    have h2 := hx x List.mem_cons_self
    rw [List.sum_cons, List.length_cons, Int.natCast_add, Int.add_mul]
    omega
set_option maxRecDepth 20000 in
theorem parts_l1 {p : Int} {l : List Ax} (hl : l.length ≤ 8796093022208) (inv : Bool) (hg : gridV p l = 0) (st : List Sp) (hst : ∀ s ∈ st, IsStep l s) (hsl : st.length ≤ 100000) (T : Int) : ∀ (d j : Nat), d + j = st.length → ∀ a : Int, 0 ≤ a → a ≤ 20000 + j * 100000 →
    Ev (fun k => brackenlaw22_CostParts.l1 k p l inv T (nV l) a st (st.length : Int) (j : Int)) (T == a + (costL p l inv (st.drop j)).sum) := by
  intro d
  induction d with
  | zero =>
    intro j h a h1 h2
    rw [List.drop_eq_nil_of_le (by omega)]
    refine Ev.step (f := fun _ => some (T == a)) (fun k => ?_) ?_
    · simp only [brackenlaw22_CostParts.l1]; rw [if_neg (by omega)]
    · have e : (T == a + (costL p l inv []).sum) = (T == a) := by unfold costL; simp
      rw [e]; exact Ev.now _
  | succ d ih =>
    intro j h a h1 h2
    have hj : j < st.length := by omega
    have hs := hst _ (List.getElem_mem hj)
    have hn := nV_range hg
    have hlen := tab_len inv hg hs
    have hst2 : stV (nV l) ((tabV p l inv st[j]).length : Int) = (6 * nV l + 12 + 2 * ((tabV p l inv st[j]).length : Int), 0) := by unfold stV; rw [if_neg (by omega)]
    have hw : wrap64 (wrap64 (wrap64 (6 * nV l) + wrap64 (2 * ((tabV p l inv st[j]).length : Int))) + 12) = 6 * nV l + 12 + 2 * ((tabV p l inv st[j]).length : Int) := by
      rw [wrap_small (i := 6 * nV l) (by omega) (by omega), wrap_small (i := 2 * ((tabV p l inv st[j]).length : Int)) (by omega) (by omega), wrap_small (i := 6 * nV l + 2 * ((tabV p l inv st[j]).length : Int)) (by omega) (by omega), wrap_small (by omega) (by omega)]
      omega
    have hw2 : wrap64 (a + (6 * nV l + 12 + 2 * ((tabV p l inv st[j]).length : Int))) = a + (6 * nV l + 12 + 2 * ((tabV p l inv st[j]).length : Int)) := wrap_small (by omega) (by omega)
    rw [List.drop_eq_getElem_cons hj]
    refine Ev.step (f := fun k => (step_Table.f k p l inv st[j].f0 st[j].f1 st[j].f2.f0 st[j].f2.f1 st[j].f2.f2).bind fun b => (cost_Step.f k (nV l) (b.1.length : Int)).bind fun c => if b.2 = 0 then (if c.2 = 0 then (if c.1 = (wrap64 ((wrap64 ((wrap64 (6 * nV l)) + (wrap64 (2 * (b.1.length : Int))))) + 12)) then brackenlaw22_CostParts.l1 k p l inv T (nV l) (wrap64 (a + c.1)) st (st.length : Int) ((j + 1 : Nat) : Int) else some false) else some false) else some false) (fun k => ?_) ?_
    · simp only [brackenlaw22_CostParts.l1]
      rw [if_pos (by omega), if_pos (by omega), if_pos (by omega), rdSp_nat st j hj, wrap_next j _ hj (by omega)]
    · refine Ev.bind (tab_ev hl inv hg hs) (Ev.bind (st_ev _ _) ?_)
      simp only [hst2, hw, hw2, if_true]
      have := ih (j + 1) (by omega) (a + (6 * nV l + 12 + 2 * ((tabV p l inv st[j]).length : Int))) (by omega) (by omega)
      simp only [costL, List.map_cons, List.sum_cons] at this ⊢
      rw [show a + (6 * nV l + 12 + 2 * ((tabV p l inv st[j]).length : Int)) + (List.map (fun s => 6 * nV l + 12 + 2 * ((tabV p l inv s).length : Int)) (List.drop (j + 1) st)).sum = a + (6 * nV l + 12 + 2 * ((tabV p l inv st[j]).length : Int) + (List.map (fun s => 6 * nV l + 12 + 2 * ((tabV p l inv s).length : Int)) (List.drop (j + 1) st)).sum) from Int.add_assoc _ _ _] at this
      exact this
theorem parts_l0 {p : Int} {l : List Ax} (hl : l.length ≤ 8796093022208) (inv : Bool) (hg : gridV p l = 0) (st : List Sp) (hst : ∀ s ∈ st, IsStep l s) (hsl : st.length ≤ 100000) (T : Int) : ∀ (d j : Nat), d + j = l.length → ∀ a : Int, 1 ≤ a → a ≤ 4096 → allGo a (dimsOf (l.drop j)) = (nV l, 0) →
    Ev (fun k => brackenlaw22_CostParts.l0 k p l inv T st a l (l.length : Int) (j : Int)) (T == 3 * nV l + 12 + (costL p l inv st).sum)
  | 0, j, h, a, h1, h2, h3 => by
    rw [List.drop_eq_nil_of_le (by omega)] at h3
    unfold dimsOf allGo at h3
    obtain rfl : a = nV l := by simpa using congrArg Prod.fst h3
    refine Ev.step (f := fun k => brackenlaw22_CostParts.l1 k p l inv T (nV l) (3 * nV l + 12) st (st.length : Int) ((0 : Nat) : Int)) (fun k => ?_) (parts_l1 hl inv hg st hst hsl T st.length 0 (by omega) _ (by omega) (by omega))
    simp only [brackenlaw22_CostParts.l0]
    rw [if_neg (by omega), wrap_small (i := 3 * nV l) (by omega) (by omega), wrap_small (i := 3 * nV l + 12) (by omega) (by omega)]
    rfl
  | d + 1, j, h, a, h1, h2, h3 => by
    have hj : j < l.length := by omega
    rw [List.drop_eq_getElem_cons hj] at h3
    unfold dimsOf at h3
    rw [List.map_cons] at h3
    unfold allGo at h3
    split at h3
    · simp at h3
    · rename_i c1
      split at h3
      · simp at h3
      · rename_i c2
        have hp : 1 ≤ a * l[j].f0 := by have := Int.mul_le_mul h1 (show 1 ≤ l[j].f0 by omega) (by omega) (by omega); omega
        refine Ev.step (f := fun k => brackenlaw22_CostParts.l0 k p l inv T st (a * l[j].f0) l (l.length : Int) ((j + 1 : Nat) : Int)) (fun k => ?_) (parts_l0 hl inv hg st hst hsl T d (j + 1) (by omega) _ hp (by omega) h3)
        simp only [brackenlaw22_CostParts.l0]
        rw [if_pos (by omega), if_pos (by omega), if_pos (by omega), rdAx_nat l j hj, wrap_next j _ hj (by omega), wrap_small (i := a * l[j].f0) (by omega) (by omega)]
theorem parts_ev (p : Int) (l : List Ax) (hl : l.length ≤ 8796093022208) (inv : Bool) : Ev (fun k => brackenlaw22_CostParts.f k p l inv) true := by
  unfold brackenlaw22_CostParts.f
  refine Ev.bind live_ev ?_
  simp only [if_true]
  refine Ev.bind (few_ev l 100 hl) ?_
  cases fewV l 100 with
  | false => simp only [Bool.false_eq_true, if_false]; exact Ev.now _
  | true =>
    simp only [if_true]
    refine Ev.bind (trial_ev p l hl inv) (Ev.bind (steps_ev p l hl inv) ?_)
    unfold trialV stepsV
    by_cases h : gridV p l = 0
    · simp only [if_pos h, if_true]
      obtain ⟨hk, ha, hall⟩ := grid_ok h
      have h4 := allV_len ha
      have h5 : l.length ≤ 4 := by have := h4.1; unfold dimsOf at this; rwa [List.length_map] at this
      have hs := steps_are inv (fun a ha => (hall a ha).1) l.length 0 (by omega)
      have hsl := stepsGo_len (l := l) inv l.length 0 (by omega)
      rw [List.drop_zero] at hs hsl
      have hgo : allGo 1 (dimsOf l) = (nV l, 0) := by unfold nV; rw [← h4.2, ← ha]
      have := parts_l0 hl inv h (stepsGo inv 0 l) hs (by omega) ((costL p l inv (stepsGo inv 0 l)).sum + (3 * nV l + 12)) l.length 0 (by omega) 1 (by omega) (by omega) (by rw [List.drop_zero]; exact hgo)
      have e : ((costL p l inv (stepsGo inv 0 l)).sum + (3 * nV l + 12) == 3 * nV l + 12 + (costL p l inv (stepsGo inv 0 l)).sum) = true := by rw [Int.add_comm]; simp
      rw [e] at this
      refine Ev.step (fun k => ?_) this
      simp only [brackenlaw22_CostParts.j0]
      rfl
    · simp only [if_neg h, if_true]
      refine Ev.step (f := fun _ => some true) (fun k => ?_) (Ev.now _)
      simp only [brackenlaw22_CostParts.j0]
      rw [if_pos (by simp [h])]
      simp
end Go.Proofs.YtcilfgedcnehfaaDoor.PCP
