import Derived.Test.YtcilfgedcnehfaaB
set_option linter.unusedVariables false
set_option linter.unusedSectionVars false
set_option linter.unusedSimpArgs false
namespace Go.Proofs.Ytcilfgedcnehfaa
open Go.RowKit

/-- an event did what a record tells -/
def did (x : Ev) (r : Rc) : Bool := (x.wi == r.wi || (decide (x.wi < r.wi) && wrap64 (x.wi + 1) == r.wi)) && x.it == r.it && x.tr == r.tr && x.ad == r.ad && x.ma == bits .xor .u64 r.ba r.go
/-- whether records are what events did -/
def matches_ (l : List Ev) (r : List Rc) : Bool := r.all (fun r => l.any fun x => did x r) && decide (r.length ≤ l.length)

/-- one look for a number that no event has -/
def bump (l : List Ev) (i : Int) : Int := l.foldl (fun i y => if y.it = i then i + 1 else i) i
def bumps (l : List Ev) : Nat → Int → Int
  | 0, i => i
  | k + 1, i => bump l (bumps l k i)

theorem bump_snoc (l : List Ev) (y : Ev) (i : Int) : bump (l ++ [y]) i = if y.it = bump l i then bump l i + 1 else bump l i := by
  unfold bump; rw [List.foldl_append]; rfl
theorem bump_ge (l : List Ev) : ∀ i, i ≤ bump l i ∧ bump l i ≤ i + l.length := by
  induction l with
  | nil => intro i; simp [bump]
  | cons y l ih =>
    intro i
    have h : bump (y :: l) i = bump l (if y.it = i then i + 1 else i) := rfl
    rw [h]
    have hl : ((y :: l).length : Int) = l.length + 1 := by simp
    by_cases hy : y.it = i
    · rw [if_pos hy]; have := ih (i + 1); omega
    · rw [if_neg hy]; have := ih i; omega
/-- whatever is passed by is there -/
theorem bump_all (l : List Ev) : ∀ i j, i ≤ j → j < bump l i → ∃ y ∈ l, y.it = j := by
  induction l with
  | nil => intro i j h1 h2; simp [bump] at h2; omega
  | cons y l ih =>
    intro i j h1 h2
    have h : bump (y :: l) i = bump l (if y.it = i then i + 1 else i) := rfl
    rw [h] at h2
    by_cases hy : y.it = i
    · rw [if_pos hy] at h2
      by_cases hj : j = i
      · exact ⟨y, by simp, by omega⟩
      · obtain ⟨z, hz, e⟩ := ih (i + 1) j (by omega) h2
        exact ⟨z, by simp [hz], e⟩
    · rw [if_neg hy] at h2
      obtain ⟨z, hz, e⟩ := ih i j h1 h2
      exact ⟨z, by simp [hz], e⟩
/-- if it is there it is passed by -/
theorem bump_gt (l : List Ev) : ∀ i, (∃ y ∈ l, y.it = i) → i < bump l i := by
  induction l with
  | nil => intro i ⟨y, h, _⟩; simp at h
  | cons y l ih =>
    intro i ⟨z, hz, e⟩
    have h : bump (y :: l) i = bump l (if y.it = i then i + 1 else i) := rfl
    rw [h]
    by_cases hy : y.it = i
    · rw [if_pos hy]; have := (bump_ge l (i + 1)).1; omega
    · rw [if_neg hy]
      rcases List.mem_cons.1 hz with rfl | hz
      · exact absurd e hy
      · exact ih i ⟨z, hz, e⟩
theorem bumps_facts (l : List Ev) : ∀ k, 0 ≤ bumps l k 0 ∧ bumps l k 0 ≤ k * l.length ∧ (∀ j, 0 ≤ j → j < bumps l k 0 → ∃ y ∈ l, y.it = j) ∧ ((∃ y ∈ l, y.it = bumps l k 0) → (k : Int) ≤ bumps l k 0) := by
  intro k
  induction k with
  | zero => simp [bumps]; omega
  | succ k ih =>
    obtain ⟨h1, h2, h3, h4⟩ := ih
    have hb := bump_ge l (bumps l k 0)
    have he : bumps l (k + 1) 0 = bump l (bumps l k 0) := rfl
    rw [he]
    refine ⟨by omega, ?_, ?_, ?_⟩
    · have : ((k + 1 : Nat) : Int) * l.length = k * l.length + l.length := by rw [Int.natCast_add, Int.add_mul]; simp
      omega
    · intro j hj hlt
      by_cases hj2 : j < bumps l k 0
      · exact h3 j hj hj2
      · exact bump_all l _ j (by omega) hlt
    · intro hex
      by_cases hin : ∃ y ∈ l, y.it = bumps l k 0
      · have := bump_gt l _ hin
        have := h4 hin
        omega
      · have hs : bump l (bumps l k 0) = bumps l k 0 := by
          rcases Int.lt_or_le (bumps l k 0) (bump l (bumps l k 0)) with hlt | hle
          · exact absurd (bump_all l _ (bumps l k 0) (Int.le_refl _) hlt) hin
          · omega
        rw [hs] at hex
        exact absurd hex hin

/-- so many numbers that are different want as many places -/
theorem pigeon : ∀ (m : Nat) (l : List Int), (∀ j : Nat, j < m → (j : Int) ∈ l) → m ≤ l.length
  | 0, _, _ => Nat.zero_le _
  | m + 1, l, h => by
    have hm : ((m : Nat) : Int) ∈ l := h m (by omega)
    have := pigeon m (l.erase (m : Int)) (fun j hj => (List.mem_erase_of_ne (by omega)).2 (h j (by omega)))
    rw [List.length_erase_of_mem hm] at this
    have : 0 < l.length := List.length_pos_of_mem hm
    omega
theorem bumps_none (l : List Ev) : ∀ y ∈ l, y.it ≠ bumps l l.length 0 := by
  intro y hy e
  obtain ⟨h1, _, h3, h4⟩ := bumps_facts l l.length
  have h5 := h4 ⟨y, hy, e⟩
  have := pigeon (l.length + 1) (l.map (·.it)) (fun j hj => by
    by_cases hlt : (j : Int) < bumps l l.length 0
    · obtain ⟨z, hz, ez⟩ := h3 j (by omega) hlt
      exact List.mem_map.2 ⟨z, hz, ez⟩
    · exact List.mem_map.2 ⟨y, hy, by rw [e]; omega⟩)
  rw [List.length_map] at this
  omega

theorem matches_none (l : List Ev) (r : List Rc) (b : Rc) (h : ∀ y ∈ l, y.it ≠ b.it) : matches_ l (r ++ [b]) = false := by
  have : (l.any fun x => did x b) = false := by
    rw [List.any_eq_false]
    intro x hx
    have := h x hx
    simp [did, this]
  simp [matches_, this]
theorem matches_more (l : List Ev) (r : List Rc) (x : Ev) (h : matches_ l r = true) : matches_ (l ++ [x]) r = true := by
  simp only [matches_, Bool.and_eq_true, List.all_eq_true, decide_eq_true_eq] at h ⊢
  refine ⟨fun b hb => ?_, by simp; omega⟩
  rw [List.any_append, h.1 b hb]; rfl
theorem matches_less (l : List Ev) (r : List Rc) (k : Nat) (h : matches_ l r = true) : matches_ l (r.take k ++ r.drop (k + 1)) = true := by
  simp only [matches_, Bool.and_eq_true, List.all_eq_true, decide_eq_true_eq] at h ⊢
  refine ⟨fun b hb => h.1 b ?_, by simp; omega⟩
  rcases List.mem_append.1 hb with hb | hb
  · exact List.mem_of_mem_take hb
  · exact List.mem_of_mem_drop hb
end Go.Proofs.Ytcilfgedcnehfaa
