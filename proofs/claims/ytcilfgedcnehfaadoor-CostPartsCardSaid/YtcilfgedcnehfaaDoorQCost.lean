import Derived.Test.YtcilfgedcnehfaaDoorQTab
set_option linter.unusedVariables false
set_option linter.unusedSimpArgs false
namespace Go.Proofs.YtcilfgedcnehfaaDoor.PCP
open Go.RowKit Go.Proofs.YtcilfgedcnehfaaDoorW.PrintWords Go.Proofs.YtcilfgedcnehfaaDoorW.PrintLast Go.Proofs.YtcilfgedcnehfaaDoorW.PrintMore

/-! ### sums -/
def sumW : Int → List Int → Int
  | a, [] => a
  | a, x :: r => sumW (wrap64 (a + x)) r
theorem sum_loop (l : List Int) (hl : l.length ≤ 140737488355328) : ∀ (d j : Nat), d + j = l.length → ∀ a : Int, Ev (fun k => cost_sum.l0 k a l (l.length : Int) (j : Int)) (sumW a (l.drop j))
  | 0, j, h, a => Ev.step (f := fun _ => some a) (fun k => by
      simp only [cost_sum.l0]; rw [if_neg (by omega)]) (by rw [List.drop_eq_nil_of_le (by omega)]; exact Ev.now _)
  | d + 1, j, h, a => by
    have hj : j < l.length := by omega
    rw [List.drop_eq_getElem_cons hj]
    refine Ev.step (f := fun k => cost_sum.l0 k (wrap64 (a + l[j])) l (l.length : Int) ((j + 1 : Nat) : Int)) (fun k => ?_) (sum_loop l hl d (j + 1) (by omega) _)
    simp only [cost_sum.l0]
    rw [if_pos (by omega), if_pos (by omega), if_pos (by omega), rd_nat l j hj, wrap_next j _ hj (by omega)]
theorem sum_ev (l : List Int) (hl : l.length ≤ 140737488355328) : Ev (fun k => cost_sum.f k l) (sumW 0 l) := sum_loop l hl l.length 0 (by omega) 0
theorem sumW_val (B : Int) (hB : 0 ≤ B) : ∀ (l : List Int) (a : Int), (∀ x ∈ l, 0 ≤ x ∧ x ≤ B) → 0 ≤ a → a + l.length * B ≤ 4611686018427387904 → sumW a l = a + l.sum
  | [], a, _, _, _ => by simp [sumW]
  | x :: r, a, h, ha, hs => by
    have hx := h x List.mem_cons_self
    have hr0 : 0 ≤ (r.length : Int) * B := Int.mul_nonneg (by omega) hB
    rw [List.length_cons, Int.natCast_add, Int.add_mul] at hs
    unfold sumW
    rw [wrap_small (by omega) (by omega), sumW_val B hB r (a + x) (fun y hy => h y (List.mem_cons_of_mem _ hy)) (by omega) (by omega), List.sum_cons]
    omega
def stV (n t : Int) : Int × Int := if n < 1 ∨ 4096 < n ∨ t < 0 ∨ 4096 < t then (0, 1) else (6 * n + 12 + 2 * t, 0)
theorem st_ev (n t : Int) : Ev (fun k => cost_Step.f k n t) (stV n t) := by
  unfold cost_Step.f stV
  by_cases c1 : n < 1
  · rw [if_pos (.inl c1)]; simp only [if_pos c1]; exact Ev.now _
  · simp only [if_neg c1]
    by_cases c2 : 4096 < n
    · rw [if_pos (.inr (.inl c2))]; simp only [if_pos (show n > 4096 from c2)]; exact Ev.now _
    · simp only [if_neg (show ¬ n > 4096 from c2)]
      by_cases c3 : t < 0
      · rw [if_pos (.inr (.inr (.inl c3)))]; simp only [if_pos c3]; exact Ev.now _
      · simp only [if_neg c3]
        by_cases c4 : 4096 < t
        · rw [if_pos (.inr (.inr (.inr c4)))]; simp only [if_pos (show t > 4096 from c4)]; exact Ev.now _
        · simp only [if_neg (show ¬ t > 4096 from c4)]
          rw [if_neg (by omega)]
          have e : sumW 0 [wrap64 (n + 6), t, wrap64 (wrap64 (3 * n) + 6), n, t, n] = 6 * n + 12 + 2 * t := by
            rw [wrap_small (i := n + 6) (by omega) (by omega), wrap_small (i := 3 * n) (by omega) (by omega), wrap_small (i := 3 * n + 6) (by omega) (by omega)]
            rw [sumW_val 20000 (by omega) _ 0 (by intro x hx; simp at hx; omega) (by omega) (by simp)]
            simp; omega
          have := sum_ev [wrap64 (n + 6), t, wrap64 (wrap64 (3 * n) + 6), n, t, n] (by simp)
          rw [e] at this
          exact Ev.bind this (Ev.now _)
/-! ### the steps of a transform -/
def tw (k : Nat) : Sp := ⟨(k : Int), true, ⟨0, 0, 0⟩⟩
def stp (k : Nat) (s : Sg) : Sp := ⟨(k : Int), false, s⟩
def stepsGo (inv : Bool) : Nat → List Ax → List Sp
  | _, [] => []
  | k, a :: r => (if a.f1 = true ∧ inv = false then [tw k] else []) ++ (((stagesV a.f0).1.map (stp k)) ++ ((if inv = true then [tw k] else []) ++ stepsGo inv (k + 1) r))
/-- behind the stages of an axis -/
def stEnd (k : Nat) (inv : Bool) (out : List Sp) (l : List Ax) (j : Nat) : Option (List Sp × Int) :=
  if inv = true then plan_Steps.l0 k inv (out ++ [tw j]) l (l.length : Int) ((j + 1 : Nat) : Int) else plan_Steps.l0 k inv out l (l.length : Int) ((j + 1 : Nat) : Int)
theorem steps_in (inv : Bool) (l : List Ax) (j : Nat) (hj : j < l.length) (hlen : l.length ≤ 100) (st : List Sg) (hst : st.length ≤ 4096) (r : List Sp × Int) : ∀ (d t : Nat), d + t = st.length → ∀ out : List Sp, out.length + d ≤ 1000000 →
    Ev (fun k => stEnd k inv (out ++ (st.drop t).map (stp j)) l j) r → Ev (fun k => plan_Steps.l1 k inv out (j : Int) l (l.length : Int) (j : Int) st (st.length : Int) (t : Int) (j : Int) true 0 0 0) r
  | 0, t, h, out, ho, he => by
    rw [List.drop_eq_nil_of_le (by omega), List.map_nil, List.append_nil] at he
    refine Ev.step (fun k => ?_) he
    simp only [plan_Steps.l1, stEnd]
    rw [if_neg (by omega), wrap_next j _ hj (by omega)]
    cases inv with
    | true => simp only [if_true]; rw [if_pos (by omega)]; rfl
    | false => simp
  | d + 1, t, h, out, ho, he => by
    have ht : t < st.length := by omega
    rw [List.drop_eq_getElem_cons ht, List.map_cons] at he
    refine Ev.step (f := fun k => plan_Steps.l1 k inv (out ++ [stp j st[t]]) (j : Int) l (l.length : Int) (j : Int) st (st.length : Int) ((t + 1 : Nat) : Int) (j : Int) true 0 0 0) (fun k => ?_) (steps_in inv l j hj hlen st hst r d (t + 1) (by omega) (out ++ [stp j st[t]]) (by simp; omega) (by simpa using he))
    simp only [plan_Steps.l1]
    rw [if_pos (by omega), if_pos (by omega), if_pos (by omega), if_pos (by omega), rdSg_nat st t ht, wrap_next t _ ht (by omega)]
    rfl
theorem stagesV_ok {n : Int} (h : (radV n).2 = 0) : (stagesV n).2 = 0 := by unfold stagesV; rw [if_pos h]
theorem steps_loop (inv : Bool) (l : List Ax) (hlen : l.length ≤ 100) (hr : ∀ a ∈ l, (radV a.f0).2 = 0) : ∀ (d j : Nat), d + j = l.length → ∀ out : List Sp, out.length ≤ j * 5000 →
    Ev (fun k => plan_Steps.l0 k inv out l (l.length : Int) (j : Int)) (out ++ stepsGo inv j (l.drop j), 0)
  | 0, j, h, out, ho => Ev.step (f := fun _ => some (out, 0)) (fun k => by
      simp only [plan_Steps.l0]; rw [if_neg (by omega)]) (by rw [List.drop_eq_nil_of_le (by omega)]; unfold stepsGo; rw [List.append_nil]; exact Ev.now _)
  | d + 1, j, h, out, ho => by
    have hj : j < l.length := by omega
    rw [List.drop_eq_getElem_cons hj]
    have hst := stages_len l[j].f0
    have hok := stagesV_ok (hr l[j] (List.getElem_mem hj))
    -- the end of the axis
    have hend : ∀ o2 : List Sp, o2.length ≤ j * 5000 + 4097 → Ev (fun k => stEnd k inv o2 l j) (o2 ++ ((if inv = true then [tw j] else []) ++ stepsGo inv (j + 1) (l.drop (j + 1))), 0) := by
      intro o2 ho2
      unfold stEnd
      cases inv with
      | true =>
        simp only [if_true]
        have := steps_loop true l hlen hr d (j + 1) (by omega) (o2 ++ [tw j]) (by simp; omega)
        simpa using this
      | false =>
        simp only [Bool.false_eq_true, if_false]
        have := steps_loop false l hlen hr d (j + 1) (by omega) o2 (by omega)
        simpa using this
    have hmid : ∀ o2 : List Sp, o2.length ≤ j * 5000 + 1 → Ev (fun k => plan_Steps.j2 k inv o2 (j : Int) (stagesV l[j].f0).1 l (l.length : Int) (j : Int) (j : Int) true 0 0 0) (o2 ++ (((stagesV l[j].f0).1.map (stp j)) ++ ((if inv = true then [tw j] else []) ++ stepsGo inv (j + 1) (l.drop (j + 1)))), 0) := by
      intro o2 ho2
      refine Ev.step (f := fun k => plan_Steps.l1 k inv o2 (j : Int) l (l.length : Int) (j : Int) (stagesV l[j].f0).1 ((stagesV l[j].f0).1.length : Int) ((0 : Nat) : Int) (j : Int) true 0 0 0) (fun k => by simp only [plan_Steps.j2]; rfl) ?_
      refine steps_in inv l j hj hlen _ hst _ _ 0 rfl o2 (by omega) ?_
      have := hend (o2 ++ ((stagesV l[j].f0).1.drop 0).map (stp j)) (by simp; omega)
      simpa using this
    refine Ev.step (f := fun k => (factor_Stages.f k l[j].f0).bind fun b => if b.2 = 0 then plan_Steps.j1 k inv out (j : Int) b.1 l (l.length : Int) (j : Int) (l[j].f1 && !inv) (j : Int) true 0 0 0 else some ([], b.2)) (fun k => ?_) ?_
    · simp only [plan_Steps.l0]
      rw [if_pos (by omega), if_pos (by omega), if_pos (by omega), rdAx_nat l j hj]
      congr 1
      funext b
      cases l[j].f1 <;> simp
    · refine Ev.bind (stages_ev _) ?_
      simp only [if_pos hok]
      unfold stepsGo
      cases hc : (l[j].f1 && !inv) with
      | true =>
        have hc2 : l[j].f1 = true ∧ inv = false := by simpa using hc
        rw [if_pos hc2]
        refine Ev.step (f := fun k => plan_Steps.j2 k inv (out ++ [tw j]) (j : Int) (stagesV l[j].f0).1 l (l.length : Int) (j : Int) (j : Int) true 0 0 0) (fun k => ?_) ?_
        · simp only [plan_Steps.j1, if_true]; rw [if_pos (by omega)]; rfl
        · have := hmid (out ++ [tw j]) (by simp; omega)
          simpa using this
      | false =>
        have hc2 : ¬ (l[j].f1 = true ∧ inv = false) := by simpa using hc
        rw [if_neg hc2]
        refine Ev.step (f := fun k => plan_Steps.j2 k inv out (j : Int) (stagesV l[j].f0).1 l (l.length : Int) (j : Int) (j : Int) true 0 0 0) (fun k => by simp only [plan_Steps.j1, Bool.false_eq_true, if_false]) ?_
        have := hmid out (Nat.le_trans ho (Nat.le_add_right _ _))
        simpa using this
def stepsV (p : Int) (l : List Ax) (inv : Bool) : List Sp × Int := if gridV p l = 0 then (stepsGo inv 0 l, 0) else ([], gridV p l)
theorem allV_len {l : List Int} (h : (allV l).2 = 0) : l.length ≤ 4 ∧ allV l = allGo 1 l := by
  unfold allV at h ⊢
  split at h
  · simp at h
  · rename_i c; rw [if_neg c]; exact ⟨by omega, rfl⟩
theorem steps_ev (p : Int) (l : List Ax) (hl : l.length ≤ 8796093022208) (inv : Bool) : Ev (fun k => plan_Steps.f k p l inv) (stepsV p l inv) := by
  unfold plan_Steps.f stepsV
  refine Ev.bind (grid_ev p l hl) ?_
  by_cases h : gridV p l = 0
  · simp only [if_pos h]
    obtain ⟨hk, ha, hall⟩ := grid_ok h
    have h4 := (allV_len ha).1
    unfold dimsOf at h4
    rw [List.length_map] at h4
    have := steps_loop inv l (by omega) (fun a ha => (hall a ha).1) l.length 0 (by omega) [] (by simp)
    simpa using this
  · simp only [if_neg h]; exact Ev.now _

theorem steps_are {l : List Ax} (inv : Bool) (hr : ∀ a ∈ l, (radV a.f0).2 = 0) : ∀ (d j : Nat), d + j = l.length → ∀ s ∈ stepsGo inv j (l.drop j), IsStep l s
  | 0, j, h, s, hs => by rw [List.drop_eq_nil_of_le (by omega)] at hs; simp [stepsGo] at hs
  | d + 1, j, h, s, hs => by
    have hj : j < l.length := by omega
    rw [List.drop_eq_getElem_cons hj] at hs
    unfold stepsGo at hs
    have htw : IsStep l (tw j) := ⟨j, hj, rfl, .inl ⟨rfl, rfl⟩⟩
    rcases List.mem_append.1 hs with hs | hs
    · split at hs
      · simp at hs; rw [hs]; exact htw
      · simp at hs
    · rcases List.mem_append.1 hs with hs | hs
      · obtain ⟨x, hx, rfl⟩ := List.mem_map.1 hs
        exact ⟨j, hj, rfl, .inr ⟨rfl, stagesV_ok (hr l[j] (List.getElem_mem hj)), hx⟩⟩
      · rcases List.mem_append.1 hs with hs | hs
        · split at hs
          · simp at hs; rw [hs]; exact htw
          · simp at hs
        · exact steps_are inv hr d (j + 1) (by omega) s hs
theorem stepsGo_len {l : List Ax} (inv : Bool) : ∀ (d j : Nat), d + j = l.length → (stepsGo inv j (l.drop j)).length ≤ d * 4098
  | 0, j, h => by rw [List.drop_eq_nil_of_le (by omega)]; simp [stepsGo]
  | d + 1, j, h => by
    have hj : j < l.length := by omega
    have := stepsGo_len (l := l) inv d (j + 1) (by omega)
    have h2 := stages_len l[j].f0
    rw [List.drop_eq_getElem_cons hj]
    unfold stepsGo
    simp only [List.length_append, List.length_map]
    have a1 : (if l[j].f1 = true ∧ inv = false then [tw j] else []).length ≤ 1 := by split <;> simp
    have a2 : (if inv = true then [tw j] else []).length ≤ 1 := by split <;> simp
    omega
/-! ### the plan, and what a transform costs -/
def mkGo (p : Int) (l : List Ax) (inv : Bool) : Int → List Sp → Int
  | t, [] => t
  | t, s :: r => mkGo p l inv (mx t ((tabV p l inv s).length : Int)) r
theorem mkGo_range {p : Int} {l : List Ax} (inv : Bool) (hg : gridV p l = 0) : ∀ (r : List Sp) (t : Int), (∀ s ∈ r, IsStep l s) → 0 ≤ t → t ≤ 4096 → 0 ≤ mkGo p l inv t r ∧ mkGo p l inv t r ≤ 4096
  | [], t, _, h1, h2 => ⟨h1, h2⟩
  | s :: r, t, h, h1, h2 => by
    have := tab_len inv hg (h s List.mem_cons_self)
    unfold mkGo
    refine mkGo_range inv hg r _ (fun x hx => h x (List.mem_cons_of_mem _ hx)) ?_ ?_ <;> unfold mx <;> split <;> omega
theorem make_loop {p : Int} {l : List Ax} (hl : l.length ≤ 8796093022208) (inv : Bool) (hg : gridV p l = 0) (st : List Sp) (hst : ∀ s ∈ st, IsStep l s) (hsl : st.length ≤ 100000) (n : Int) (q2 : Int) : ∀ (d j : Nat), d + j = st.length → ∀ t : Int,
    Ev (fun k => plan_Make.l0 k p l inv n st (st.length : Int) (j : Int) n t q2 st) (n, mkGo p l inv t (st.drop j), wrap64 (wrap64 (2 * wrap64 (n + 6)) + mkGo p l inv t (st.drop j)), st, 0)
  | 0, j, h, t => Ev.step (f := fun _ => some (n, t, wrap64 (wrap64 (2 * wrap64 (n + 6)) + t), st, 0)) (fun k => by
      simp only [plan_Make.l0]; rw [if_neg (by omega)]) (by rw [List.drop_eq_nil_of_le (by omega)]; exact Ev.now _)
  | d + 1, j, h, t => by
    have hj : j < st.length := by omega
    rw [List.drop_eq_getElem_cons hj]
    refine Ev.step (f := fun k => (step_Table.f k p l inv st[j].f0 st[j].f1 st[j].f2.f0 st[j].f2.f1 st[j].f2.f2).bind fun b => if b.2 = 0 then plan_Make.l0 k p l inv n st (st.length : Int) ((j + 1 : Nat) : Int) n (mx t (b.1.length : Int)) q2 st else some (0, 0, 0, [], b.2)) (fun k => ?_) ?_
    · simp only [plan_Make.l0]
      rw [if_pos (by omega), if_pos (by omega), if_pos (by omega), rdSp_nat st j hj, wrap_next j _ hj (by omega)]
    · refine Ev.bind (tab_ev hl inv hg (hst _ (List.getElem_mem hj))) ?_
      simp only [if_true]
      exact make_loop hl inv hg st hst hsl n q2 d (j + 1) (by omega) _
def nV (l : List Ax) : Int := (allV (dimsOf l)).1
def makeV (p : Int) (l : List Ax) (inv : Bool) : Int × Int × Int × List Sp × Int :=
  if gridV p l = 0 then (nV l, mkGo p l inv 0 (stepsGo inv 0 l), wrap64 (wrap64 (2 * wrap64 (nV l + 6)) + mkGo p l inv 0 (stepsGo inv 0 l)), stepsGo inv 0 l, 0) else (0, 0, 0, [], gridV p l)
theorem make_ev (p : Int) (l : List Ax) (hl : l.length ≤ 8796093022208) (inv : Bool) : Ev (fun k => plan_Make.f k p l inv) (makeV p l inv) := by
  unfold plan_Make.f makeV
  refine Ev.bind (steps_ev p l hl inv) ?_
  unfold stepsV
  by_cases h : gridV p l = 0
  · obtain ⟨hk, ha, hall⟩ := grid_ok h
    have h4 := (allV_len ha).1
    unfold dimsOf at h4
    rw [List.length_map] at h4
    simp only [if_pos h]
    refine Ev.bind (dims_ev l hl) (Ev.bind (all_ev _) ?_)
    simp only [if_pos ha]
    have hs := steps_are inv (fun a ha => (hall a ha).1) l.length 0 (by omega)
    have hsl := stepsGo_len (l := l) inv l.length 0 (by omega)
    rw [List.drop_zero] at hs hsl
    have := make_loop hl inv h (stepsGo inv 0 l) hs (by omega) (nV l) 0 (stepsGo inv 0 l).length 0 (by omega) 0
    rw [List.drop_zero] at this
    exact this
  · simp only [if_neg h]; exact Ev.now _
def costL (p : Int) (l : List Ax) (inv : Bool) (st : List Sp) : List Int := st.map fun s => 6 * nV l + 12 + 2 * ((tabV p l inv s).length : Int)
theorem nV_range {p : Int} {l : List Ax} (hg : gridV p l = 0) : 1 ≤ nV l ∧ nV l ≤ 4096 := by
  obtain ⟨hk, ha, _⟩ := grid_ok hg
  unfold nV
  have h2 := (allV_len ha).2
  rw [h2] at ha ⊢
  have key : ∀ (r : List Int) (n : Int), 1 ≤ n → n ≤ 4096 → (allGo n r).2 = 0 → 1 ≤ (allGo n r).1 ∧ (allGo n r).1 ≤ 4096 := by
    intro r
    induction r with
    | nil => intro n h1 h2 _; exact ⟨h1, h2⟩
    | cons x r ih =>
      intro n h1 h2 h3
      unfold allGo at h3 ⊢
      split at h3
      · simp at h3
      · rename_i c1
        split at h3
        · simp at h3
        · rename_i c2
          rw [if_neg c1, if_neg c2]
          have : 1 ≤ n * x := by have := Int.mul_le_mul h1 (show 1 ≤ x by omega) (by omega) (by omega); omega
          exact ih _ this (by omega) h3
  exact key _ 1 (by omega) (by omega) ha
theorem csteps_loop {p : Int} {l : List Ax} (hl : l.length ≤ 8796093022208) (inv : Bool) (hg : gridV p l = 0) (st : List Sp) (hst : ∀ s ∈ st, IsStep l s) (hsl : st.length ≤ 100000) (q1 q2 : Int) : ∀ (d j : Nat), d + j = st.length →
    Ev (fun k => cost_steps.l0 k p l inv ((costL p l inv st).take j ++ List.replicate d 0) st (st.length : Int) (j : Int) (nV l) q1 q2 st) (nV l, costL p l inv st, 0)
  | 0, j, h => Ev.step (f := fun _ => some (nV l, costL p l inv st, 0)) (fun k => by
      simp only [cost_steps.l0]; rw [if_neg (by omega), List.take_of_length_le (by simp [costL]; omega)]; simp) (Ev.now _)
  | d + 1, j, h => by
    have hj : j < st.length := by omega
    have hs := hst _ (List.getElem_mem hj)
    have ht : ((costL p l inv st).take j).length = j := by simp [costL]; omega
    have hn := nV_range hg
    have hlen := tab_len inv hg hs
    have hst2 : stV (nV l) ((tabV p l inv st[j]).length : Int) = (6 * nV l + 12 + 2 * ((tabV p l inv st[j]).length : Int), 0) := by unfold stV; rw [if_neg (by omega)]
    refine Ev.step (f := fun k => (step_Table.f k p l inv st[j].f0 st[j].f1 st[j].f2.f0 st[j].f2.f1 st[j].f2.f2).bind fun b => if b.2 = 0 then (cost_Step.f k (nV l) (b.1.length : Int)).bind fun c => if c.2 = 0 then cost_steps.l0 k p l inv (((costL p l inv st).take j ++ List.replicate (d + 1) 0).set j c.1) st (st.length : Int) ((j + 1 : Nat) : Int) (nV l) q1 q2 st else some (0, [], c.2) else some (0, [], b.2)) (fun k => ?_) ?_
    · simp only [cost_steps.l0]
      rw [if_pos (by omega), if_pos (by omega), if_pos (by omega), rdSp_nat st j hj, wrap_next j _ hj (by omega)]
      simp only [if_pos (show (j : Int) < (((costL p l inv st).take j ++ List.replicate (d + 1) 0).length : Int) by rw [List.length_append, ht]; simp; omega), Int.toNat_natCast]
    · refine Ev.bind (tab_ev hl inv hg hs) ?_
      simp only [if_true]
      refine Ev.bind (st_ev _ _) ?_
      simp only [hst2, if_true]
      have := csteps_loop hl inv hg st hst hsl q1 q2 d (j + 1) (by omega)
      rw [List.take_succ_eq_append_getElem (by simpa [costL] using hj)] at this
      rw [List.set_append_right _ _ (by rw [ht]; exact Nat.le_refl _), ht, Nat.sub_self, List.replicate_succ, List.set_cons_zero]
      simpa [costL] using this
def trialV (p : Int) (l : List Ax) (inv : Bool) : Int × Int := if gridV p l = 0 then ((costL p l inv (stepsGo inv 0 l)).sum + (3 * nV l + 12), 0) else (0, gridV p l)
theorem trial_ev (p : Int) (l : List Ax) (hl : l.length ≤ 8796093022208) (inv : Bool) : Ev (fun k => cost_Trial.f k p l inv) (trialV p l inv) := by
  unfold cost_Trial.f cost_steps.f trialV
  by_cases h : gridV p l = 0
  · have hm := make_ev p l hl inv
    unfold makeV at hm
    rw [if_pos h] at hm ⊢
    obtain ⟨hk, ha, hall⟩ := grid_ok h
    have h4 := (allV_len ha).1
    unfold dimsOf at h4
    rw [List.length_map] at h4
    have hs := steps_are inv (fun a ha => (hall a ha).1) l.length 0 (by omega)
    have hsl := stepsGo_len (l := l) inv l.length 0 (by omega)
    rw [List.drop_zero] at hs hsl
    have hn := nV_range h
    have hc : Ev (fun k => (plan_Make.f k p l inv).bind fun bt212 => (if bt212.2.2.2.2 = 0 then (if 0 ≤ (bt212.2.2.2.1.length : Int) then (if ((bt212.2.2.2.1.length : Int) : Int).toNat ≤ 35184372088832 then (cost_steps.l0 k p l inv (List.replicate ((bt212.2.2.2.1.length : Int) : Int).toNat 0) bt212.2.2.2.1 (bt212.2.2.2.1.length : Int) 0 bt212.1 bt212.2.1 bt212.2.2.1 bt212.2.2.2.1) else (none)) else (none)) else (some (0, ([] : List Int), bt212.2.2.2.2)))) (nV l, costL p l inv (stepsGo inv 0 l), 0) := by
      refine Ev.bind hm ?_
      simp only [if_true, Int.toNat_natCast, if_pos (show 0 ≤ ((stepsGo inv 0 l).length : Int) by omega), if_pos (show (stepsGo inv 0 l).length ≤ 35184372088832 by omega)]
      have := csteps_loop hl inv h (stepsGo inv 0 l) hs (by omega) (mkGo p l inv 0 (stepsGo inv 0 l)) (wrap64 (wrap64 (2 * wrap64 (nV l + 6)) + mkGo p l inv 0 (stepsGo inv 0 l))) (stepsGo inv 0 l).length 0 (by omega)
      simpa using this
    refine Ev.bind hc ?_
    simp only [if_true]
    have hcl : (costL p l inv (stepsGo inv 0 l)).length ≤ 100000 := by simp [costL]; omega
    have hcb : ∀ x ∈ costL p l inv (stepsGo inv 0 l), 0 ≤ x ∧ x ≤ 100000 := by
      intro x hx
      obtain ⟨s, hs1, rfl⟩ := List.mem_map.1 hx
      have := tab_len inv h (hs s hs1)
      omega
    have e1 : sumW 0 (costL p l inv (stepsGo inv 0 l)) = (costL p l inv (stepsGo inv 0 l)).sum := by rw [sumW_val 100000 (by omega) _ 0 hcb (by omega) (by omega), Int.zero_add]
    have e2 : sumW 0 [wrap64 (nV l + 6), wrap64 (nV l + 6), nV l] = 3 * nV l + 12 := by
      rw [wrap_small (i := nV l + 6) (by omega) (by omega), sumW_val 20000 (by omega) _ 0 (by intro x hx; simp at hx; omega) (by omega) (by simp)]
      simp; omega
    have hsum : ∀ (B : Int) (r : List Int), (∀ x ∈ r, 0 ≤ x ∧ x ≤ B) → 0 ≤ r.sum ∧ r.sum ≤ r.length * B := by
      intro B r
      induction r with
      | nil => intro _; simp
      | cons x r ih =>
        intro hx
        have h1 := ih (fun y hy => hx y (List.mem_cons_of_mem _ hy))
        have h2 := hx x List.mem_cons_self
        rw [List.sum_cons, List.length_cons, Int.natCast_add, Int.add_mul]
        omega
    have hb := hsum 100000 _ hcb
    have s1 := sum_ev (costL p l inv (stepsGo inv 0 l)) (by omega)
    have s2 := sum_ev [wrap64 (nV l + 6), wrap64 (nV l + 6), nV l] (by simp)
    rw [e1] at s1
    rw [e2] at s2
    refine Ev.bind s1 (Ev.bind s2 ?_)
    rw [wrap_small (by omega) (by omega)]
    exact Ev.now _
  · have hm := make_ev p l hl inv
    unfold makeV at hm
    rw [if_neg h] at hm ⊢
    refine Ev.bind (Ev.bind hm (f := fun k bt212 => (if bt212.2.2.2.2 = 0 then (if 0 ≤ (bt212.2.2.2.1.length : Int) then (if ((bt212.2.2.2.1.length : Int) : Int).toNat ≤ 35184372088832 then (cost_steps.l0 k p l inv (List.replicate ((bt212.2.2.2.1.length : Int) : Int).toNat 0) bt212.2.2.2.1 (bt212.2.2.2.1.length : Int) 0 bt212.1 bt212.2.1 bt212.2.2.1 bt212.2.2.2.1) else (none)) else (none)) else (some (0, ([] : List Int), bt212.2.2.2.2)))) (r := (0, [], gridV p l)) (by simp only [if_neg h]; exact Ev.now _)) ?_
    simp only [if_neg h]; exact Ev.now _
end Go.Proofs.YtcilfgedcnehfaaDoor.PCP
