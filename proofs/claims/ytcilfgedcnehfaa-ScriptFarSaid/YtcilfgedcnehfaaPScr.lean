import Derived.Test.YtcilfgedcnehfaaGrp
set_option linter.unusedVariables false
set_option linter.unusedSectionVars false
set_option linter.unusedSimpArgs false
namespace Go.Proofs.Ytcilfgedcnehfaa
open Go.RowKit

def evKey (x : Ev) : Int × Int := (x.it, x.tr)
def evGroups (l : List Ev) : List ((Int × Int) × List Int) := groups evKey Ev.wi l
/-- more than one above, as words -/
def above (a b : Int) : Bool := decide (1 < IntKind.u64.wrap (IntKind.u64.wrap b - IntKind.u64.wrap a))
/-- of so many, each is more than one above the one ahead of it -/
def apartTo (l : List Int) (j : Nat) : Bool := (List.range j).all fun t => above (l.getD t 0) (l.getD (t + 1) 0)
theorem apartTo_succ (l : List Int) (j : Nat) : apartTo l (j + 1) = (apartTo l j && above (l.getD j 0) (l.getD (j + 1) 0)) := by simp [apartTo, List.range_succ]
def sorted (l : List Int) : List Int := l.mergeSort fun x y => decide (x ≤ y)
def apartB (l : List Int) : Bool := apartTo (sorted l) (l.length - 1)
def sparseB (l : List Ev) : Bool := (evGroups l).all fun g => apartB g.2


/-! ### what it comes to -/
def i64r (x : Int) : Prop := -9223372036854775808 ≤ x ∧ x ≤ 9223372036854775807
def far (a b : Int) : Prop := a + 2 ≤ b ∨ b + 2 ≤ a
theorem far_symm {a b : Int} (h : far a b) : far b a := h.symm
theorem u64_wrap (x : Int) : IntKind.u64.wrap x = x % 18446744073709551616 := by simp [IntKind.wrap, IntKind.signed, IntKind.bits]
theorem above_iff {a b : Int} (ha : i64r a) (hb : i64r b) (h : a ≤ b) : above a b = true ↔ a + 2 ≤ b := by
  unfold above
  rw [decide_eq_true_eq, u64_wrap, u64_wrap, u64_wrap]
  unfold i64r at *
  omega
theorem apartTo_iff (l : List Int) : ∀ j, apartTo l j = true ↔ ∀ t, t < j → above (l.getD t 0) (l.getD (t + 1) 0) = true := by
  intro j
  simp [apartTo, List.all_eq_true]
theorem sorted_pair (l : List Int) : (sorted l).Pairwise (· ≤ ·) := by
  have := List.pairwise_mergeSort (le := fun x y : Int => decide (x ≤ y)) (fun a b c => by simp; omega) (fun a b => by simp; omega) l
  exact this.imp (by simp)
theorem sorted_perm (l : List Int) : (sorted l).Perm l := List.mergeSort_perm _ _
theorem chain_far (s : List Int) (hs : s.Pairwise (· ≤ ·)) : (∀ t, t < s.length - 1 → s.getD t 0 + 2 ≤ s.getD (t + 1) 0) ↔ s.Pairwise fun a b => a + 2 ≤ b := by
  induction s with
  | nil => simp
  | cons a s ih =>
    obtain ⟨h1, h2⟩ := List.pairwise_cons.1 hs
    rw [List.pairwise_cons]
    cases s with
    | nil => simp
    | cons b s =>
      have ih := ih h2
      have hstep : (∀ t, t < (a :: b :: s).length - 1 → (a :: b :: s).getD t 0 + 2 ≤ (a :: b :: s).getD (t + 1) 0) ↔ (a + 2 ≤ b ∧ ∀ t, t < (b :: s).length - 1 → (b :: s).getD t 0 + 2 ≤ (b :: s).getD (t + 1) 0) := by
        constructor
        · intro h
          exact ⟨by simpa using h 0 (by simp), fun t ht => by simpa using h (t + 1) (by simp at ht ⊢; omega)⟩
        · rintro ⟨h0, h⟩ t ht
          cases t with
          | zero => simpa using h0
          | succ t => simpa using h t (by simp at ht ⊢; omega)
      rw [hstep, ih]
      constructor
      · rintro ⟨h0, h⟩
        refine ⟨fun x hx => ?_, h⟩
        rcases List.mem_cons.1 hx with rfl | hx
        · exact h0
        · have := (List.pairwise_cons.1 h).1 x hx
          omega
      · rintro ⟨h0, h⟩
        exact ⟨h0 b (by simp), h⟩
theorem apartB_iff (l : List Int) (h : ∀ x ∈ l, i64r x) : apartB l = true ↔ l.Pairwise far := by
  have hp := sorted_perm l
  have hs := sorted_pair l
  have hlen : (sorted l).length = l.length := hp.length_eq
  have hmem : ∀ t, t < (sorted l).length → i64r ((sorted l).getD t 0) := fun t ht => by
    rw [List.getD_eq_getElem?_getD, List.getElem?_eq_getElem ht]
    exact h _ (hp.mem_iff.1 (List.getElem_mem ht))
  unfold apartB
  rw [apartTo_iff, ← hlen]
  have e1 : (∀ t, t < (sorted l).length - 1 → above ((sorted l).getD t 0) ((sorted l).getD (t + 1) 0) = true) ↔ (∀ t, t < (sorted l).length - 1 → (sorted l).getD t 0 + 2 ≤ (sorted l).getD (t + 1) 0) := by
    refine forall_congr' fun t => forall_congr' fun ht => above_iff (hmem t (by omega)) (hmem (t + 1) (by omega)) ?_
    have := List.pairwise_iff_getElem.1 hs t (t + 1) (by omega) (by omega) (by omega)
    rw [List.getD_eq_getElem?_getD, List.getD_eq_getElem?_getD, List.getElem?_eq_getElem (by omega), List.getElem?_eq_getElem (by omega)]
    exact this
  rw [e1, chain_far _ hs]
  constructor
  · intro h1
    exact (List.Perm.pairwise_iff (fun h => far_symm h) hp).1 (h1.imp fun h => .inl h)
  · intro h1
    have h2 := (List.Perm.pairwise_iff (fun h => far_symm h) hp).2 h1
    exact (List.pairwise_and_iff.2 ⟨hs, h2⟩).imp fun ⟨h3, h4⟩ => by rcases h4 with h4 | h4 <;> omega

/-- events are sparse: no two of one try are less than two windows apart -/
def apart (a b : Ev) : Prop := evKey a = evKey b → far a.wi b.wi
theorem apart_symm {a b : Ev} (h : apart a b) : apart b a := fun e => far_symm (h e.symm)
theorem sparse_iff (l : List Ev) (h : ∀ x ∈ l, i64r x.wi) : sparseB l = true ↔ l.Pairwise apart := by
  have hi := groups_inv evKey Ev.wi l
  have hsel : ∀ k, ∀ x ∈ sel evKey Ev.wi k l, i64r x := by
    intro k x hx
    unfold sel at hx
    obtain ⟨y, hy, rfl⟩ := List.mem_map.1 hx
    exact h y (List.mem_filter.1 hy).1
  have h1 : sparseB l = true ↔ ∀ k, (sel evKey Ev.wi k l).Pairwise far := by
    unfold sparseB
    rw [List.all_eq_true]
    constructor
    · intro ha k
      by_cases hk : k ∈ (evGroups l).map (·.1)
      · obtain ⟨p, hp, rfl⟩ := List.mem_map.1 hk
        have := ha p hp
        rw [hi.is p.1 p.2 hp] at this
        exact (apartB_iff _ (hsel _)).1 this
      · have : sel evKey Ev.wi k l = [] := by
          unfold sel
          rw [List.map_eq_nil_iff, List.filter_eq_nil_iff]
          intro y hy he
          exact hk (by have := hi.all y hy; rw [of_decide_eq_true he] at this; exact this)
        rw [this]; exact List.Pairwise.nil
    · intro ha p hp
      rw [hi.is p.1 p.2 hp]
      exact (apartB_iff _ (hsel _)).2 (ha p.1)
  rw [h1]
  have h2 : ∀ k, (sel evKey Ev.wi k l).Pairwise far ↔ l.Pairwise fun a b => evKey a = k → evKey b = k → far a.wi b.wi := by
    intro k
    unfold sel
    rw [List.pairwise_map, List.pairwise_filter]
    simp
  constructor
  · intro ha
    rw [List.pairwise_iff_getElem]
    intro i j hi hj hij e
    exact List.pairwise_iff_getElem.1 ((h2 (evKey l[i])).1 (ha _)) i j hi hj hij rfl e.symm
  · intro ha k
    rw [h2]
    exact ha.imp fun h e1 e2 => h (e1.trans e2.symm)
end Go.Proofs.Ytcilfgedcnehfaa
