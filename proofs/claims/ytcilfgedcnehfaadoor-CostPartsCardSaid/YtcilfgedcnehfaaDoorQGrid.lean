import Derived.Test.YtcilfgedcnehfaaDoorQPow
import Derived.Test.YtcilfgedcnehfaaDoorPCPx8
set_option linter.unusedVariables false
set_option linter.unusedSimpArgs false
namespace Go.Proofs.YtcilfgedcnehfaaDoor.PCP
open Go.RowKit Go.Proofs.YtcilfgedcnehfaaDoorW.PrintWords Go.Proofs.YtcilfgedcnehfaaDoorW.PrintLast Go.Proofs.YtcilfgedcnehfaaDoorW.PrintMore
abbrev Ax := S33
abbrev Sg := S35
abbrev Sp := S37
abbrev rdAx := rd_T33
theorem rd_nat (l : List Int) (j : Nat) (h : j < l.length) : rd l (j : Int) = l[j] := by simp [rd, h]
theorem rdAx_nat (l : List Ax) (j : Nat) (h : j < l.length) : rd_T33 l (j : Int) = l[j] := by simp [rd_T33, h]
theorem rdSg_nat (l : List Sg) (j : Nat) (h : j < l.length) : rd_T35 l (j : Int) = l[j] := by simp [rd_T35, h]
theorem rdSp_nat (l : List Sp) (j : Nat) (h : j < l.length) : rd_T37 l (j : Int) = l[j] := by simp [rd_T37, h]
theorem wrap_next (j n : Nat) (h : j < n) (hn : n ≤ 140737488355328) : wrap64 ((j : Int) + 1) = ((j + 1 : Nat) : Int) := by rw [wrap_small (by omega) (by omega)]; omega
def dimsOf (l : List Ax) : List Int := l.map (·.f0)
/-! ### the lists of lengths -/
theorem rdims_loop (l : List Ax) (hl : l.length ≤ 8796093022208) : ∀ (d j : Nat), d + j = l.length → Ev (fun k => brackenref07_Dims.l0 k ((dimsOf l).take j) l (l.length : Int) (j : Int)) (dimsOf l)
  | 0, j, h => Ev.step (f := fun _ => some (dimsOf l)) (fun k => by
      simp only [brackenref07_Dims.l0]; rw [if_neg (by omega), List.take_of_length_le (by simp [dimsOf]; omega)]) (Ev.now _)
  | d + 1, j, h => Ev.step (f := fun k => brackenref07_Dims.l0 k ((dimsOf l).take (j + 1)) l (l.length : Int) ((j + 1 : Nat) : Int)) (fun k => by
      have hj : j < l.length := by omega
      simp only [brackenref07_Dims.l0]
      rw [if_pos (by omega), if_pos (by omega), if_pos (by omega), if_pos (by simp [dimsOf]; omega), rdAx_nat l j hj, wrap_next j _ hj (by omega)]
      rw [List.take_succ_eq_append_getElem (by simpa [dimsOf] using hj)]
      simp [dimsOf]) (rdims_loop l hl d (j + 1) (by omega))
theorem rdims_ev (l : List Ax) (hl : l.length ≤ 8796093022208) : Ev (fun k => brackenref07_Dims.f k l) (dimsOf l) := by
  have := rdims_loop l hl l.length 0 (by omega)
  exact this
theorem dims_loop (l : List Ax) (hl : l.length ≤ 8796093022208) : ∀ (d j : Nat), d + j = l.length → Ev (fun k => grid_Dims.l0 k ((dimsOf l).take j ++ List.replicate d 0) l (l.length : Int) (j : Int)) (dimsOf l)
  | 0, j, h => Ev.step (f := fun _ => some (dimsOf l)) (fun k => by
      simp only [grid_Dims.l0]; rw [if_neg (by omega), List.take_of_length_le (by simp [dimsOf]; omega)]; simp) (Ev.now _)
  | d + 1, j, h => Ev.step (f := fun k => grid_Dims.l0 k ((dimsOf l).take (j + 1) ++ List.replicate d 0) l (l.length : Int) ((j + 1 : Nat) : Int)) (fun k => by
      have hj : j < l.length := by omega
      have ht : ((dimsOf l).take j).length = j := by simp [dimsOf]; omega
      simp only [grid_Dims.l0]
      rw [if_pos (by omega), if_pos (by omega), if_pos (by omega), if_pos (by rw [List.length_append, ht]; simp; omega), rdAx_nat l j hj, wrap_next j _ hj (by omega)]
      rw [List.take_succ_eq_append_getElem (by simpa [dimsOf] using hj), Int.toNat_natCast, List.set_append_right _ _ (by omega), ht, Nat.sub_self, List.replicate_succ, List.set_cons_zero]
      simp [dimsOf]) (dims_loop l hl d (j + 1) (by omega))
theorem dims_ev (l : List Ax) (hl : l.length ≤ 8796093022208) : Ev (fun k => grid_Dims.f k l) (dimsOf l) := by
  have := dims_loop l hl l.length 0 (by omega)
  refine Ev.congr (fun k => ?_) this
  unfold grid_Dims.f
  rw [if_pos (by omega), if_pos (by omega), Int.toNat_natCast]
  simp
/-! ### how many words -/
def allGo : Int → List Int → Int × Int
  | n, [] => (n, 0)
  | n, d :: r => if d < 1 ∨ 4096 < d then (0, 3) else if 4096 < n * d then (0, 3) else allGo (n * d) r
def allV (l : List Int) : Int × Int := if l.length < 1 ∨ 4 < l.length then (0, 3) else allGo 1 l
theorem all_loop (l : List Int) (hl : l.length ≤ 4) : ∀ (d j : Nat), d + j = l.length → ∀ n : Int, 1 ≤ n → n ≤ 4096 → Ev (fun k => shape_All.l0 k n l (l.length : Int) (j : Int)) (allGo n (l.drop j))
  | 0, j, h, n, h1, h2 => Ev.step (f := fun _ => some (n, 0)) (fun k => by
      simp only [shape_All.l0]; rw [if_neg (by omega)]) (by rw [List.drop_eq_nil_of_le (by omega)]; exact Ev.now _)
  | d + 1, j, h, n, h1, h2 => by
    have hj : j < l.length := by omega
    rw [List.drop_eq_getElem_cons hj]
    unfold allGo
    by_cases c1 : l[j] < 1
    · rw [if_pos (.inl c1)]
      refine Ev.step (f := fun k => shape_All.j2 k n l[j] l (l.length : Int) (j : Int) true) (fun k => ?_) (Ev.step (f := fun _ => some (0, 3)) (fun k => by simp only [shape_All.j2]; simp) (Ev.now _))
      simp only [shape_All.l0]
      rw [if_pos (by omega), if_pos (by omega), if_pos (by omega), rd_nat l j hj, if_pos c1]
    · by_cases c2 : 4096 < l[j]
      · rw [if_pos (.inr c2)]
        refine Ev.step (f := fun k => shape_All.j2 k n l[j] l (l.length : Int) (j : Int) true) (fun k => ?_) (Ev.step (f := fun _ => some (0, 3)) (fun k => by simp only [shape_All.j2]; simp) (Ev.now _))
        simp only [shape_All.l0]
        rw [if_pos (by omega), if_pos (by omega), if_pos (by omega), rd_nat l j hj, if_neg c1, decide_eq_true c2]
      · rw [if_neg (by omega)]
        have hp : 1 ≤ n * l[j] := by have := Int.mul_le_mul h1 (show 1 ≤ l[j] by omega) (by omega) (by omega); omega
        have hp2 : n * l[j] ≤ 4096 * 4096 := Int.mul_le_mul h2 (by omega) (by omega) (by omega)
        have hw : wrap64 (n * l[j]) = n * l[j] := wrap_small (by omega) (by omega)
        refine Ev.step (f := fun k => shape_All.j2 k n l[j] l (l.length : Int) (j : Int) false) (fun k => ?_) ?_
        · simp only [shape_All.l0]
          rw [if_pos (by omega), if_pos (by omega), if_pos (by omega), rd_nat l j hj, if_neg c1, decide_eq_false c2]
        · by_cases c3 : 4096 < n * l[j]
          · rw [if_pos c3]
            exact Ev.step (f := fun _ => some (0, 3)) (fun k => by simp only [shape_All.j2]; rw [if_neg (by simp), hw, if_pos (by omega)]) (Ev.now _)
          · rw [if_neg c3]
            refine Ev.step (f := fun k => shape_All.l0 k (n * l[j]) l (l.length : Int) ((j + 1 : Nat) : Int)) (fun k => ?_) (all_loop l hl d (j + 1) (by omega) _ hp (by omega))
            simp only [shape_All.j2]
            rw [if_neg (by simp), hw, if_neg (by omega), wrap_next j _ hj (by omega)]
theorem all_ev (l : List Int) : Ev (fun k => shape_All.f k l) (allV l) := by
  unfold allV
  by_cases c1 : l.length < 1
  · rw [if_pos (.inl c1)]
    refine Ev.congr (f := fun k => shape_All.j0 k l true) (fun k => by unfold shape_All.f; rw [if_pos (by omega)]) ?_
    exact Ev.step (f := fun _ => some (0, 3)) (fun k => by simp only [shape_All.j0]; simp) (Ev.now _)
  · by_cases c2 : 4 < l.length
    · rw [if_pos (.inr c2)]
      refine Ev.congr (f := fun k => shape_All.j0 k l true) (fun k => by unfold shape_All.f; rw [if_neg (by omega), decide_eq_true (by omega)]) ?_
      exact Ev.step (f := fun _ => some (0, 3)) (fun k => by simp only [shape_All.j0]; simp) (Ev.now _)
    · rw [if_neg (by omega)]
      refine Ev.congr (f := fun k => shape_All.j0 k l false) (fun k => by unfold shape_All.f; rw [if_neg (by omega), decide_eq_false (by omega)]) ?_
      exact Ev.step (f := fun k => shape_All.l0 k 1 l (l.length : Int) ((0 : Nat) : Int)) (fun k => by simp only [shape_All.j0]; simp) (all_loop l (by omega) l.length 0 (by omega) 1 (by omega) (by omega))

/-- the document's own way: the product first -/
def rallGo : Int → List Int → Int × Int
  | n, [] => if 4096 < n then (0, 3) else (n, 0)
  | n, d :: r => if d < 1 ∨ 4096 < d then (0, 3) else rallGo (n * d) r
theorem rall_big : ∀ (l : List Int) (n : Int), 4096 < n → rallGo n l = (0, 3)
  | [], n, h => by unfold rallGo; rw [if_pos h]
  | d :: r, n, h => by
    unfold rallGo
    split
    · rfl
    · rename_i hd
      have : n * 1 ≤ n * d := Int.mul_le_mul_of_nonneg_left (by omega) (by omega)
      exact rall_big r _ (by omega)
theorem rall_all : ∀ (l : List Int) (n : Int), n ≤ 4096 → rallGo n l = allGo n l
  | [], n, h => by unfold rallGo allGo; rw [if_neg (by omega)]
  | d :: r, n, h => by
    unfold rallGo allGo
    split
    · rfl
    · by_cases c : 4096 < n * d
      · rw [if_pos c]; exact rall_big r _ c
      · rw [if_neg c]; exact rall_all r _ (by omega)
theorem rall_loop (l : List Int) (hl : l.length ≤ 4) : ∀ (d j : Nat), d + j = l.length → ∀ n : Int, 1 ≤ n → n ≤ 4096 ^ j → Ev (fun k => brackenref05_All.l0 k n l (l.length : Int) (j : Int)) (rallGo n (l.drop j))
  | 0, j, h, n, h1, h2 => by
    rw [List.drop_eq_nil_of_le (by omega)]
    unfold rallGo
    refine Ev.step (f := fun _ => some (if 4096 < n then (0, 3) else (n, 0))) (fun k => ?_) (Ev.now _)
    simp only [brackenref05_All.l0]
    rw [if_neg (by omega)]
    by_cases c : 4096 < n
    · rw [if_pos c, if_pos c]
    · rw [if_neg c, if_neg (by omega)]
  | d + 1, j, h, n, h1, h2 => by
    have hj : j < l.length := by omega
    rw [List.drop_eq_getElem_cons hj]
    unfold rallGo
    by_cases c1 : l[j] < 1
    · rw [if_pos (.inl c1)]
      refine Ev.step (f := fun _ => some (0, 3)) (fun k => ?_) (Ev.now _)
      simp only [brackenref05_All.l0]
      rw [if_pos (by omega), if_pos (by omega), if_pos (by omega), rd_nat l j hj, if_pos c1]
    · by_cases c2 : 4096 < l[j]
      · rw [if_pos (.inr c2)]
        refine Ev.step (f := fun _ => some (0, 3)) (fun k => ?_) (Ev.now _)
        simp only [brackenref05_All.l0]
        rw [if_pos (by omega), if_pos (by omega), if_pos (by omega), rd_nat l j hj, if_neg c1, if_pos (by omega)]
      · rw [if_neg (by omega)]
        have hp : 1 ≤ n * l[j] := by have := Int.mul_le_mul h1 (show 1 ≤ l[j] by omega) (by omega) (by omega); omega
        have hp2 : n * l[j] ≤ 4096 ^ j * 4096 := Int.mul_le_mul h2 (by omega) (by omega) (Int.pow_nonneg (by omega))
        rw [← Int.pow_succ] at hp2
        have hb : n * l[j] ≤ 281474976710656 := by
          have h4 : j = 0 ∨ j = 1 ∨ j = 2 ∨ j = 3 := by omega
          rcases h4 with rfl | rfl | rfl | rfl <;> exact Int.le_trans hp2 (by decide)
        have hw : wrap64 (n * l[j]) = n * l[j] := wrap_small (by omega) (by omega)
        refine Ev.step (f := fun k => brackenref05_All.l0 k (n * l[j]) l (l.length : Int) ((j + 1 : Nat) : Int)) (fun k => ?_) (rall_loop l hl d (j + 1) (by omega) _ hp hp2)
        simp only [brackenref05_All.l0]
        rw [if_pos (by omega), if_pos (by omega), if_pos (by omega), rd_nat l j hj, if_neg c1, if_neg (by omega), hw, wrap_next j _ hj (by omega)]
theorem rall_ev (l : List Int) : Ev (fun k => brackenref05_All.f k l) (allV l) := by
  unfold allV
  by_cases c1 : l.length < 1
  · rw [if_pos (.inl c1)]
    refine Ev.congr (f := fun k => brackenref05_All.j0 k l true) (fun k => by unfold brackenref05_All.f; rw [if_pos (by omega)]) ?_
    exact Ev.step (f := fun _ => some (0, 3)) (fun k => by simp only [brackenref05_All.j0]; simp) (Ev.now _)
  · by_cases c2 : 4 < l.length
    · rw [if_pos (.inr c2)]
      refine Ev.congr (f := fun k => brackenref05_All.j0 k l true) (fun k => by unfold brackenref05_All.f; rw [if_neg (by omega), decide_eq_true (by omega)]) ?_
      exact Ev.step (f := fun _ => some (0, 3)) (fun k => by simp only [brackenref05_All.j0]; simp) (Ev.now _)
    · rw [if_neg (by omega), ← rall_all l 1 (by omega)]
      refine Ev.congr (f := fun k => brackenref05_All.j0 k l false) (fun k => by unfold brackenref05_All.f; rw [if_neg (by omega), decide_eq_false (by omega)]) ?_
      exact Ev.step (f := fun k => brackenref05_All.l0 k 1 l (l.length : Int) ((0 : Nat) : Int)) (fun k => by simp only [brackenref05_All.j0]; simp) (rall_loop l (by omega) l.length 0 (by omega) 1 (by omega) (by simp))
def fewV (l : List Ax) (m : Int) : Bool := decide (l.length ≤ 10) && (decide ((allV (dimsOf l)).2 ≠ 0) || decide ((allV (dimsOf l)).1 ≤ m))
theorem few_ev (l : List Ax) (m : Int) (hl : l.length ≤ 8796093022208) : Ev (fun k => brackenref07_Few.f k l m) (fewV l m) := by
  unfold brackenref07_Few.f
  refine Ev.bind (rdims_ev l hl) (Ev.bind (rall_ev _) ?_)
  refine Ev.congr (f := fun _ => some (fewV l m)) (fun k => ?_) (Ev.now _)
  unfold fewV
  by_cases c1 : l.length ≤ 10
  · rw [if_pos (by omega)]
    by_cases c2 : (allV (dimsOf l)).2 = 0
    · rw [if_pos c2]; simp [c1, c2]
    · rw [if_neg c2]; simp [c1, c2]
  · rw [if_neg (by omega)]; simp [c1]
/-! ### roots -/
def rootV (p n : Int) : Int × Int := if known p = true then (if n < 1 ∨ 8192 < n then (0, 1) else if (p - 1) % n > 0 then (0, 5) else (powM p (genF p) ((p - 1) / n).toNat, 0)) else (0, 2)
theorem genF_range (p : Int) : 0 ≤ genF p ∧ genF p < 18446744073709551616 := by
  unfold genF; split
  · omega
  · split
    · omega
    · split <;> omega
theorem ready_val (p n : Int) : root_ready.f p n = some (if known p = true then (if n < 1 ∨ 8192 < n then 1 else 0) else 2) := by
  unfold root_ready.f field_Known.f
  simp only [Option.bind_some]
  cases known p with
  | false => simp
  | true =>
    simp only [if_true]
    by_cases c1 : n < 1
    · rw [if_pos c1, if_pos (.inl c1)]
    · by_cases c2 : 8192 < n
      · rw [if_neg c1, if_pos (by omega), if_pos (.inr c2)]
      · rw [if_neg c1, if_neg (by omega), if_neg (by omega)]
theorem root_ev (p n : Int) : Ev (fun k => root_Root.f k p n) (rootV p n) := by
  unfold root_Root.f rootV
  rw [ready_val]
  simp only [Option.bind_some]
  cases hk : known p with
  | false => simp only [Bool.false_eq_true, if_false]; exact Ev.congr (fun k => by rw [if_neg (by omega)]) (Ev.now _)
  | true =>
    simp only [if_true]
    by_cases c1 : n < 1 ∨ 8192 < n
    · rw [if_pos c1, if_pos c1]; exact Ev.congr (fun k => by rw [if_neg (by omega)]) (Ev.now _)
    · rw [if_neg c1, if_neg c1]
      simp only [if_true]
      by_cases c2 : (p - 1) % n > 0
      · simp only [if_pos c2]; exact Ev.now _
      · simp only [if_neg c2]
        have hp := known_pos hk
        have hq : 0 ≤ (p - 1) / n := Int.ediv_nonneg (by omega) (by omega)
        have hq2 : (p - 1) / n ≤ p - 1 := Int.ediv_le_self _ (by omega)
        have := pow_ev p (genF p) ((p - 1) / n).toNat (by omega) (genF_range p).1 (genF_range p).2
        rw [Int.toNat_of_nonneg hq] at this
        exact Ev.bind this (Ev.now _)

/-! ### sizes and axes -/
def radV (n : Int) : List Int × Int := if 1 ≤ n ∧ n ≤ 4096 then radR n.toNat else ([], 4)
theorem rad_val (n : Int) : factor_Radices.f n = some (radV n) := by unfold factor_Radices.f radV; split <;> rfl
def smoothV (n : Int) : Bool := (radV n).2 == 0
theorem smooth_val (n : Int) : factor_Smooth.f n = some (smoothV n) := by unfold factor_Smooth.f smoothV; rw [rad_val]; rfl
def ordW (a : Ax) : Int := if a.f1 = true then wrap64 (a.f0 * 2) else a.f0
def gGo (p : Int) : Int → List Ax → Int
  | e, [] => e
  | e, a :: r => if smoothV a.f0 = true then (if (rootV p (ordW a)).2 = 0 then gGo p e r else gGo p 5 r) else 4
def gridV (p : Int) (l : List Ax) : Int := if known p = true then (if (allV (dimsOf l)).2 = 0 then gGo p 0 l else 3) else 2
theorem grid_loop (p : Int) (l : List Ax) (hl : l.length ≤ 8796093022208) : ∀ (d j : Nat), d + j = l.length → ∀ e : Int, Ev (fun k => grid_Check.l0 k p e l (l.length : Int) (j : Int)) (gGo p e (l.drop j))
  | 0, j, h, e => Ev.step (f := fun _ => some e) (fun k => by
      simp only [grid_Check.l0]; rw [if_neg (by omega)]) (by rw [List.drop_eq_nil_of_le (by omega)]; exact Ev.now _)
  | d + 1, j, h, e => by
    have hj : j < l.length := by omega
    rw [List.drop_eq_getElem_cons hj]
    have hstep : ∀ k, grid_Check.l0 (k + 1) p e l (l.length : Int) (j : Int) = grid_Check.j1 k p e (ordW l[j]) l (l.length : Int) (j : Int) l[j].f0 l[j].f1 := by
      intro k
      simp only [grid_Check.l0]
      rw [if_pos (by omega), if_pos (by omega), if_pos (by omega), rdAx_nat l j hj]
      unfold ordW
      cases l[j].f1 <;> simp
    refine Ev.step hstep ?_
    unfold gGo
    cases hs : smoothV l[j].f0 with
    | false =>
      simp only [Bool.false_eq_true, if_false]
      exact Ev.step (f := fun _ => some 4) (fun k => by simp only [grid_Check.j1]; rw [smooth_val, hs]; simp) (Ev.now _)
    | true =>
      simp only [if_true]
      refine Ev.step (f := fun k => (root_Root.f k p (ordW l[j])).bind fun b => if b.2 = 0 then grid_Check.l0 k p e l (l.length : Int) ((j + 1 : Nat) : Int) else grid_Check.l0 k p 5 l (l.length : Int) ((j + 1 : Nat) : Int)) (fun k => ?_) ?_
      · simp only [grid_Check.j1]; rw [smooth_val, hs, wrap_next j _ hj (by omega)]; simp
      · refine Ev.bind (root_ev p _) ?_
        by_cases hr : (rootV p (ordW l[j])).2 = 0
        · simp only [if_pos hr]; exact grid_loop p l hl d (j + 1) (by omega) e
        · simp only [if_neg hr]; exact grid_loop p l hl d (j + 1) (by omega) 5
theorem grid_ev (p : Int) (l : List Ax) (hl : l.length ≤ 8796093022208) : Ev (fun k => grid_Check.f k p l) (gridV p l) := by
  unfold grid_Check.f gridV field_Known.f
  simp only [Option.bind_some]
  cases known p with
  | false => simp only [Bool.false_eq_true, if_false]; exact Ev.now _
  | true =>
    simp only [if_true]
    refine Ev.bind (dims_ev l hl) (Ev.bind (all_ev _) ?_)
    by_cases h : (allV (dimsOf l)).2 = 0
    · simp only [if_pos h]; exact grid_loop p l hl l.length 0 (by omega) 0
    · simp only [if_neg h]; exact Ev.now _
/-! ### stages -/
/-- the stages of a size: (radix, those ahead, those behind) -/
def stGo (n : Int) : Int → List Int → List Sg
  | _, [] => []
  | a, r :: l => ⟨r, a, n / a / r⟩ :: stGo n (a * r) l
def stagesV (n : Int) : List Sg × Int := if (radV n).2 = 0 then (stGo n 1 (radV n).1, 0) else ([], (radV n).2)
theorem stages_loop (n : Int) (rs : List Int) (hn : 1 ≤ n) (hn2 : n ≤ 4096) (hr : ∀ r ∈ rs, 2 ≤ r ∧ r ≤ 4096) (hl : rs.length ≤ 4096) : ∀ (d j : Nat), d + j = rs.length → ∀ (a : Int) (out : List Sg), 1 ≤ a → a * ((rs.drop j).foldr (· * ·) 1) ≤ 4096 → out.length = j → Ev (fun k => factor_Stages.l0 k n out a rs (rs.length : Int) (j : Int)) (out ++ stGo n a (rs.drop j), 0)
  | 0, j, h, a, out, h1, h2, h3 => Ev.step (f := fun _ => some (out, 0)) (fun k => by
      simp only [factor_Stages.l0]; rw [if_neg (by omega)]) (by rw [List.drop_eq_nil_of_le (by omega)]; unfold stGo; rw [List.append_nil]; exact Ev.now _)
  | d + 1, j, h, a, out, h1, h2, h3 => by
    have hj : j < rs.length := by omega
    rw [List.drop_eq_getElem_cons hj] at h2 ⊢
    have hrj := hr _ (List.getElem_mem hj)
    rw [List.foldr_cons, ← Int.mul_assoc] at h2
    have hpos : ∀ l : List Int, (∀ r ∈ l, 2 ≤ r ∧ r ≤ 4096) → 1 ≤ l.foldr (· * ·) 1 := by
      intro l
      induction l with
      | nil => intro _; simp
      | cons x l ih =>
        intro hx
        have h3 := ih (fun r hr => hx r (List.mem_cons_of_mem _ hr))
        have h4 := (hx x List.mem_cons_self).1
        rw [List.foldr_cons]
        have := Int.mul_le_mul (show (1 : Int) ≤ x by omega) h3 (by omega) (by omega)
        omega
    have hp1 := hpos (rs.drop (j + 1)) (fun r hr' => hr r (List.mem_of_mem_drop hr'))
    have har : 1 ≤ a * rs[j] := by have := Int.mul_le_mul h1 (show 1 ≤ rs[j] by omega) (by omega) (by omega); omega
    have har2 : a * rs[j] ≤ 4096 := by
      have : a * rs[j] * 1 ≤ a * rs[j] * (rs.drop (j + 1)).foldr (· * ·) 1 := Int.mul_le_mul_of_nonneg_left hp1 (by omega)
      omega
    have hq0 : 0 ≤ n / a := Int.ediv_nonneg (by omega) (by omega)
    have hq1 : n / a ≤ n := Int.ediv_le_self _ (by omega)
    have hq2 : 0 ≤ n / a / rs[j] := Int.ediv_nonneg hq0 (by omega)
    have hq3 : n / a / rs[j] ≤ n / a := Int.ediv_le_self _ hq0
    refine Ev.step (f := fun k => factor_Stages.l0 k n (out ++ [⟨rs[j], a, n / a / rs[j]⟩]) (a * rs[j]) rs (rs.length : Int) ((j + 1 : Nat) : Int)) (fun k => ?_) ?_
    · simp only [factor_Stages.l0]
      rw [if_pos (by omega), if_pos (by omega), if_pos (by omega), rd_nat rs j hj, if_neg (by omega), if_neg (by omega), if_pos (by omega)]
      rw [show n.tdiv a = n / a from Int.tdiv_eq_ediv_of_nonneg (by omega), wrap_small (i := n / a) (by omega) (by omega), show (n / a).tdiv rs[j] = n / a / rs[j] from Int.tdiv_eq_ediv_of_nonneg hq0, wrap_small (i := n / a / rs[j]) (by omega) (by omega), wrap_small (i := a * rs[j]) (by omega) (by omega), wrap_next j _ hj (by omega)]
    · have := stages_loop n rs hn hn2 hr hl d (j + 1) (by omega) (a * rs[j]) (out ++ [⟨rs[j], a, n / a / rs[j]⟩]) har (by simpa using h2) (by simp [h3])
      unfold stGo
      simpa using this

theorem radL_facts_ : ∀ a, a < 65 → ∀ b, b < 64 → 1 ≤ 64 * a + b → (radL (64 * a + b)).all (fun r => decide (2 ≤ r ∧ r ≤ 4160)) = true ∧ (radL (64 * a + b)).foldr (· * ·) 1 = 64 * a + b := by decide +kernel
theorem radL_facts (n : Nat) (h : n < 4097) (h1 : 1 ≤ n) : (radL n).all (fun r => decide (2 ≤ r ∧ r ≤ 4160)) = true ∧ (radL n).foldr (· * ·) 1 = n ∧ (radL n).length ≤ 4096 := by
  have := radL_facts_ (n / 64) (by omega) (n % 64) (by omega) (by omega)
  rw [Nat.div_add_mod] at this
  exact ⟨this.1, this.2, (ctz_facts n h h1).2.2⟩
theorem foldr_cast : ∀ l : List Nat, ((l.map fun x : Nat => (x : Int)).foldr (· * ·) 1) = ((l.foldr (· * ·) 1 : Nat) : Int)
  | [] => rfl
  | x :: l => by simp [foldr_cast l]
/-- what is known of the radices of a size -/
theorem radV_facts {n : Int} (h : (radV n).2 = 0) : 1 ≤ n ∧ n ≤ 4096 ∧ (∀ r ∈ (radV n).1, 2 ≤ r ∧ r ≤ 5) ∧ (radV n).1.foldr (· * ·) 1 = n ∧ (radV n).1.length ≤ 4096 := by
  unfold radV at h ⊢
  by_cases c : 1 ≤ n ∧ n ≤ 4096
  · rw [if_pos c] at h ⊢
    obtain ⟨m, rfl⟩ := Int.eq_ofNat_of_zero_le (show 0 ≤ n by omega)
    rw [Int.toNat_natCast] at h ⊢
    unfold radR at h ⊢
    obtain ⟨f1, f2, f3⟩ := radL_facts m (by omega) (by omega)
    split at h
    · rename_i hg
      rw [if_pos hg]
      refine ⟨c.1, c.2, fun r hr => ?_, by rw [foldr_cast, f2], by simpa using f3⟩
      obtain ⟨x, hx, rfl⟩ := List.mem_map.1 hr
      have g1 := of_decide_eq_true (List.all_eq_true.1 f1 x hx)
      have g2 := of_decide_eq_true (List.all_eq_true.1 hg x hx)
      omega
    · simp at h
  · rw [if_neg c] at h; simp at h
theorem stages_ev (n : Int) : Ev (fun k => factor_Stages.f k n) (stagesV n) := by
  unfold factor_Stages.f stagesV
  simp only [rad_val, Option.bind_some]
  by_cases h : (radV n).2 = 0
  · simp only [if_pos h]
    obtain ⟨h1, h2, h3, h4, h5⟩ := radV_facts h
    have := stages_loop n (radV n).1 h1 h2 (fun r hr => ⟨(h3 r hr).1, by have := (h3 r hr).2; omega⟩) h5 (radV n).1.length 0 (by omega) 1 [] (by omega) (by rw [List.drop_zero, h4]; omega) rfl
    simpa using this
  · simp only [if_neg h]; exact Ev.now _
/-! ### steps -/
def hasS (l : List Sg) (a b c : Int) : Bool := l.any fun s => a == s.f0 && (b == s.f1 && c == s.f2)
theorem index_loop (l : List Sg) (hl : l.length ≤ 140737488355328) (a b c : Int) : ∀ (d j : Nat), d + j = l.length → ∃ r : Int, Ev (fun k => api_Stage_75.l0 k l (l.length : Int) (j : Int) a b c) r ∧ (decide (r ≥ 0) = hasS (l.drop j) a b c)
  | 0, j, h => ⟨-1, Ev.step (f := fun _ => some (-1)) (fun k => by
      simp only [api_Stage_75.l0]; rw [if_neg (by omega)]) (Ev.now _), by rw [List.drop_eq_nil_of_le (by omega)]; rfl⟩
  | d + 1, j, h => by
    have hj : j < l.length := by omega
    rw [List.drop_eq_getElem_cons hj]
    cases hq : (a == l[j].f0 && (b == l[j].f1 && c == l[j].f2)) with
    | true =>
      refine ⟨(j : Int), Ev.step (f := fun _ => some (j : Int)) (fun k => ?_) (Ev.now _), ?_⟩
      · simp only [api_Stage_75.l0]
        rw [if_pos (by omega), if_pos (by omega), if_pos (by omega), rdSg_nat l j hj, if_pos hq]
      · unfold hasS; rw [List.any_cons, hq]; simp
    | false =>
      obtain ⟨r, h1, h2⟩ := index_loop l hl a b c d (j + 1) (by omega)
      refine ⟨r, Ev.step (fun k => ?_) h1, ?_⟩
      · simp only [api_Stage_75.l0]
        rw [if_pos (by omega), if_pos (by omega), if_pos (by omega), rdSg_nat l j hj, if_neg (by rw [hq]; simp), wrap_next j _ hj (by omega)]
      · rw [h2]; unfold hasS; rw [List.any_cons, hq]; rfl
theorem contains_ev (l : List Sg) (hl : l.length ≤ 140737488355328) (a b c : Int) : Ev (fun k => api_Stage_49.f k l a b c) (hasS l a b c) := by
  obtain ⟨r, h1, h2⟩ := index_loop l hl a b c l.length 0 (by omega)
  rw [List.drop_zero] at h2
  unfold api_Stage_49.f api_Stage_75.f
  refine Ev.bind h1 ?_
  rw [h2]; exact Ev.now _
def stepV (p : Int) (l : List Ax) (s : Sp) : Int :=
  if gridV p l = 0 then (if 0 ≤ s.f0 ∧ s.f0 < (l.length : Int) then (if s.f1 = true then (if hasS [⟨0, 0, 0⟩] s.f2.f0 s.f2.f1 s.f2.f2 = true then 0 else 1)
    else if (stagesV (rdAx l s.f0).f0).2 = 0 then (if hasS (stagesV (rdAx l s.f0).f0).1 s.f2.f0 s.f2.f1 s.f2.f2 = true then 0 else 1) else (stagesV (rdAx l s.f0).f0).2) else 1) else gridV p l
theorem stGo_len (n : Int) : ∀ (l : List Int) (a : Int), (stGo n a l).length = l.length
  | [], _ => rfl
  | r :: l, a => by unfold stGo; simp [stGo_len n l]
theorem stages_len (n : Int) : (stagesV n).1.length ≤ 4096 := by
  unfold stagesV
  by_cases h : (radV n).2 = 0
  · rw [if_pos h]; simp only [stGo_len]; exact (radV_facts h).2.2.2.2
  · rw [if_neg h]; simp
theorem step_ev (p : Int) (l : List Ax) (hl : l.length ≤ 8796093022208) (s : Sp) : Ev (fun k => step_Check.f k p l s.f0 s.f1 s.f2.f0 s.f2.f1 s.f2.f2) (stepV p l s) := by
  unfold step_Check.f stepV
  refine Ev.bind (grid_ev p l hl) ?_
  by_cases h0 : gridV p l = 0
  · simp only [if_pos h0]
    by_cases h1 : 0 ≤ s.f0 ∧ s.f0 < (l.length : Int)
    · rw [if_pos h1]
      refine Ev.congr (f := fun k => step_Check.j0 k l false s.f0 s.f1 s.f2.f0 s.f2.f1 s.f2.f2) (fun k => by rw [if_neg (by omega), decide_eq_false (by omega)]) ?_
      cases hs : s.f1 with
      | true =>
        refine Ev.step (f := fun k => (api_Stage_49.f k [⟨0, 0, 0⟩] s.f2.f0 s.f2.f1 s.f2.f2).bind fun t => if t = true then some 0 else some 1) (fun k => by simp only [step_Check.j0]; simp) ?_
        refine Ev.bind (contains_ev _ (by simp) _ _ _) ?_
        cases hasS [⟨0, 0, 0⟩] s.f2.f0 s.f2.f1 s.f2.f2 <;> simp <;> exact Ev.now _
      | false =>
        refine Ev.step (f := fun k => (factor_Stages.f k (rdAx l s.f0).f0).bind fun bt => if bt.2 = 0 then (api_Stage_49.f k bt.1 s.f2.f0 s.f2.f1 s.f2.f2).bind fun t => if t = true then some 0 else some 1 else some bt.2) (fun k => by simp only [step_Check.j0]; simp [h1]) ?_
        refine Ev.bind (stages_ev _) ?_
        simp only [Bool.false_eq_true, if_false]
        by_cases h2 : (stagesV (rdAx l s.f0).f0).2 = 0
        · simp only [if_pos h2]
          refine Ev.bind (contains_ev _ (by have := stages_len (rdAx l s.f0).f0; omega) _ _ _) ?_
          cases hasS (stagesV (rdAx l s.f0).f0).1 s.f2.f0 s.f2.f1 s.f2.f2 <;> simp <;> exact Ev.now _
        · simp only [if_neg h2]; exact Ev.now _
    · rw [if_neg h1]
      refine Ev.congr (f := fun k => step_Check.j0 k l true s.f0 s.f1 s.f2.f0 s.f2.f1 s.f2.f2) (fun k => ?_) (Ev.step (f := fun _ => some 1) (fun k => by simp only [step_Check.j0]; simp) (Ev.now _))
      by_cases h2 : s.f0 < 0
      · rw [if_pos h2]
      · rw [if_neg h2, decide_eq_true (by omega)]
  · simp only [if_neg h0]; exact Ev.now _
end Go.Proofs.YtcilfgedcnehfaaDoor.PCP
