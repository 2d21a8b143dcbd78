import Derived.Test.YtcilfgedcnehfaaMap
set_option linter.unusedVariables false
set_option linter.unusedSectionVars false
set_option linter.unusedSimpArgs false
namespace Go.Proofs.Ytcilfgedcnehfaa
open Go.RowKit

/-! ### A map of slices of whole numbers: groups -/
section
variable {κ : Type} [DecidableEq κ] {enc : κ → Value}
/-- the entries' values own rows from B on, which read as the groups' numbers; no two rows lie in one block -/
structure Groups (w : World) (B : Nat) (e : TypeId) (es : List (κ × Value)) (L : List (κ × List Int)) : Prop where
  keys : es.map (·.1) = L.map (·.1)
  own : ∀ (i : Nat) k v k' l, es[i]? = some (k, v) → L[i]? = some (k', l) → w.ownsRow B e 1 v l.length (ints .i64 l)
  apart : ∀ (i j : Nat) p q, i ≠ j → es[i]? = some p → es[j]? = some q → p.2.ownBlock = none ∨ p.2.ownBlock ≠ q.2.ownBlock

theorem Groups.nil (w : World) (B : Nat) (e : TypeId) : Groups w B e ([] : List (κ × Value)) [] := ⟨rfl, by simp, by simp⟩
theorem Groups.len {w : World} {B : Nat} {e : TypeId} {es : List (κ × Value)} {L : List (κ × List Int)} (h : Groups w B e es L) : es.length = L.length := by simpa using congrArg List.length h.keys
theorem Groups.at_ {w : World} {B : Nat} {e : TypeId} {es : List (κ × Value)} {L : List (κ × List Int)} (h : Groups w B e es L) {i : Nat} {k : κ} {v : Value} (hi : es[i]? = some (k, v)) : ∃ l, L[i]? = some (k, l) := by
  have hlt : i < L.length := by rw [← h.len]; exact (List.getElem?_eq_some_iff.1 hi).1
  refine ⟨(L[i]).2, ?_⟩
  have hk : (es.map (·.1))[i]? = (L.map (·.1))[i]? := by rw [h.keys]
  simp only [List.getElem?_map, hi, List.getElem?_eq_getElem hlt, Option.map_some, Option.some.injEq] at hk
  rw [List.getElem?_eq_getElem hlt, hk]
theorem Groups.kept {w w' : World} {B : Nat} {e : TypeId} {es : List (κ × Value)} {L : List (κ × List Int)} (h : Groups w B e es L) {row : Option Nat} (hg : w.grownBy w' row) (hr : ∀ g, row = some g → g < B) : Groups w' B e es L :=
  ⟨h.keys, fun i k v k' l h1 h2 => (h.own i k v k' l h1 h2).kept hg (by
    cases hv : v.ownBlock with
    | none => exact .inl rfl
    | some g => exact .inr (fun e => by have := (h.own i k v k' l h1 h2).lt g hv; have := hr g e.symm; omega)), h.apart⟩
theorem Groups.below {w w' : World} {B : Nat} {e : TypeId} {es : List (κ × Value)} {L : List (κ × List Int)} (h : Groups w B e es L) (hb : Below w.heap.size w w') : Groups w' B e es L :=
  ⟨h.keys, fun i k v k' l h1 h2 => obelow (h.own i k v k' l h1 h2) hb, h.apart⟩
theorem Groups.entOf {w : World} {B : Nat} {e : TypeId} {es : List (κ × Value)} {L : List (κ × List Int)} (h : Groups w B e es L) (k : κ) : Groups w B e (entOf k es (.slice none 0 0)).1 (entOf k L []).1 := by
  have hk := fnd_keys (k := k) (i := 0) h.keys
  obtain ⟨hkk, _⟩ := entOf_keys k es L (.slice none 0 0) ([] : List Int) h.keys
  refine ⟨hkk, ?_, ?_⟩
  · unfold Ytcilfgedcnehfaa.entOf
    cases h1 : fnd k es 0 <;> cases h2 : fnd k L 0 <;> simp [h1, h2] at hk ⊢
    · intro i k1 v k2 l e1 e2
      rcases Nat.lt_or_ge i es.length with hlt | hge
      · rw [List.getElem?_append_left hlt] at e1
        rw [List.getElem?_append_left (by rw [← h.len]; exact hlt)] at e2
        exact h.own i k1 v k2 l e1 e2
      · have hi : i = es.length := by
          have := (List.getElem?_eq_some_iff.1 e1).1
          simp at this; omega
        subst hi
        simp at e1
        rw [h.len] at e2
        simp at e2
        obtain ⟨_, rfl⟩ := e1
        obtain ⟨_, rfl⟩ := e2
        exact World.ownsRow_nil _ _ _ _
    · exact h.own
  · unfold Ytcilfgedcnehfaa.entOf
    cases h1 : fnd k es 0 <;> simp only
    · intro i j p q hne e1 e2
      rcases Nat.lt_or_ge i es.length with hi | hi
      · rcases Nat.lt_or_ge j es.length with hj | hj
        · rw [List.getElem?_append_left hi] at e1
          rw [List.getElem?_append_left hj] at e2
          exact h.apart i j p q hne e1 e2
        · have hj' : j = es.length := by
            have := (List.getElem?_eq_some_iff.1 e2).1
            simp at this; omega
          subst hj'
          simp at e2
          subst e2
          cases hp : p.2.ownBlock <;> simp [Value.ownBlock]
      · have hi' : i = es.length := by
          have := (List.getElem?_eq_some_iff.1 e1).1
          simp at this; omega
        subst hi'
        simp at e1
        subst e1
        exact .inl rfl
    · exact h.apart
/-- behind an append to one row, and its store -/
theorem Groups.set_ {w w' : World} {B : Nat} {e : TypeId} {es : List (κ × Value)} {L : List (κ × List Int)} (h : Groups w B e es L) (hB : B ≤ w.heap.size) {i : Nat} {k : κ} {v v' : Value} {l l' : List Int} (hi : es[i]? = some (k, v)) (hL : L[i]? = some (k, l))
    (hg : w.grownBy w' v.ownBlock) (hown : w'.ownsRow B e 1 v' l'.length (ints .i64 l')) (hat : v'.ownBlock = v.ownBlock ∨ ∀ g, v'.ownBlock = some g → w.heap.size ≤ g) : Groups w' B e (es.set i (k, v')) (L.set i (k, l')) := by
  have hlt : i < es.length := (List.getElem?_eq_some_iff.1 hi).1
  have hltL : i < L.length := (List.getElem?_eq_some_iff.1 hL).1
  have hold : ∀ (j : Nat) p, es[j]? = some p → ∀ g, p.2.ownBlock = some g → g < w.heap.size := fun j p hp g hgb => by
    obtain ⟨l0, hl0⟩ := h.at_ (i := j) (k := p.1) (v := p.2) hp
    exact ((h.own j p.1 p.2 p.1 l0 hp hl0).lt g hgb).2
  refine ⟨by rw [List.map_set, List.map_set, h.keys], ?_, ?_⟩
  · intro j k1 v1 k2 l1 e1 e2
    by_cases hj : j = i
    · subst hj
      rw [List.getElem?_set_self hlt] at e1
      rw [List.getElem?_set_self hltL] at e2
      simp at e1 e2
      obtain ⟨_, rfl⟩ := e1
      obtain ⟨_, rfl⟩ := e2
      exact hown
    · rw [List.getElem?_set_ne (Ne.symm hj)] at e1 e2
      refine (h.own j k1 v1 k2 l1 e1 e2).kept hg ?_
      exact h.apart j i _ _ hj e1 hi
  · intro j1 j2 p q hne e1 e2
    by_cases h1 : j1 = i
    · subst h1
      rw [List.getElem?_set_self hlt] at e1
      rw [List.getElem?_set_ne hne] at e2
      simp at e1
      subst e1
      rcases hat with hat | hat
      · rw [hat]; exact h.apart j1 j2 _ _ hne hi e2
      · cases hv : v'.ownBlock with
        | none => exact .inl rfl
        | some g =>
          refine .inr (fun e => ?_)
          have := hat g hv
          have := hold j2 q e2 g e.symm
          omega
    · rw [List.getElem?_set_ne (Ne.symm h1)] at e1
      by_cases h2 : j2 = i
      · subst h2
        rw [List.getElem?_set_self hlt] at e2
        simp at e2
        subst e2
        rcases hat with hat | hat
        · rw [hat]; exact h.apart j1 j2 _ _ hne e1 hi
        · cases hv : p.2.ownBlock with
          | none => exact .inl rfl
          | some g =>
            refine .inr (fun e => ?_)
            have := hat g e.symm
            have := hold j1 p e1 g hv
            omega
      · rw [List.getElem?_set_ne (Ne.symm h2)] at e2
        exact h.apart j1 j2 p q hne e1 e2

theorem own_ne {w : World} {b b' : Nat} {e e' : TypeId} {s s' n n' : Nat} {v v' : Value} {xs xs' : List Value} (h : w.ownsRow b e s v n xs) (h' : w.ownsRow b' e' s' v' n' xs') (hne : e ≠ e') : v.ownBlock = none ∨ v.ownBlock ≠ v'.ownBlock := by
  rcases h.2 with ⟨rfl, _⟩ | ⟨g, cap, cur, rfl, _, hh, _⟩
  · exact .inl rfl
  · refine .inr fun hk => ?_
    rcases h'.2 with ⟨rfl, _⟩ | ⟨g', cap', cur', rfl, _, hh', _⟩
    · simp [Value.ownBlock] at hk
    · have : g = g' := by simpa [Value.ownBlock] using hk
      subst this
      rw [hh] at hh'
      injection hh' with hh'
      injection hh' with _ ht
      exact hne ht
theorem own_ne_map {w : World} {b : Nat} {base : Nat} {e : TypeId} {s n : Nat} {v : Value} {xs : List Value} {es : List (κ × Value)} (h : w.ownsRow base e s v n xs) (hm : IsMap enc w b es) : v.ownBlock ≠ some b := by
  rcases h.2 with ⟨rfl, _⟩ | ⟨g, cap, cur, rfl, _, hh, _⟩
  · simp [Value.ownBlock]
  · intro hk
    have : g = b := by simpa [Value.ownBlock] using hk
    subst this
    unfold IsMap at hm
    rw [hh] at hm
    injection hm with hm
    cases hm
theorem Groups.kept_own {w w' : World} {B : Nat} {e : TypeId} {es : List (κ × Value)} {L : List (κ × List Int)} (h : Groups w B e es L) {b' : Nat} {e' : TypeId} {s n : Nat} {u : Value} {xs : List Value} (hu : w.ownsRow b' e' s u n xs) (hne : e ≠ e') (hg : w.grownBy w' u.ownBlock) : Groups w' B e es L :=
  ⟨h.keys, fun i k v k' l h1 h2 => (h.own i k v k' l h1 h2).kept hg (own_ne (h.own i k v k' l h1 h2) hu hne), h.apart⟩

/-! ### the groups of a list -/
def groups {α : Type} (key : α → κ) (val : α → Int) (l : List α) : List (κ × List Int) := l.foldl (fun L x => gAdd (key x) (val x) L) []
/-- the values of one key -/
def sel {α : Type} (key : α → κ) (val : α → Int) (k : κ) (l : List α) : List Int := (l.filter (fun x => decide (key x = k))).map val
structure GInv {α : Type} (key : α → κ) (val : α → Int) (l : List α) (L : List (κ × List Int)) : Prop where
  nodup : (L.map (·.1)).Nodup
  is : ∀ k m, (k, m) ∈ L → m = sel key val k l
  all : ∀ x ∈ l, key x ∈ L.map (·.1)
theorem sel_snoc {α : Type} (key : α → κ) (val : α → Int) (k : κ) (l : List α) (x : α) : sel key val k (l ++ [x]) = sel key val k l ++ if key x = k then [val x] else [] := by
  unfold sel; rw [List.filter_append, List.map_append]; by_cases h : key x = k <;> simp [h]
theorem gAdd_inv {α : Type} (key : α → κ) (val : α → Int) (l : List α) (L : List (κ × List Int)) (x : α) (h : GInv key val l L) : GInv key val (l ++ [x]) (gAdd (key x) (val x) L) := by
  have hsel : key x ∉ L.map (·.1) → sel key val (key x) l = [] := by
    intro hn
    unfold sel
    rw [List.map_eq_nil_iff, List.filter_eq_nil_iff]
    intro y hy he
    exact hn (by have := h.all y hy; rw [of_decide_eq_true he] at this; exact this)
  unfold gAdd entOf
  cases hf : fnd (key x) L 0 with
  | none =>
    have hn := fnd_none hf
    simp only [List.set_append_right _ _ (Nat.le_refl _), Nat.sub_self, List.set_cons_zero, List.nil_append]
    refine ⟨?_, ?_, ?_⟩
    · rw [List.map_append, List.nodup_append]
      refine ⟨h.nodup, by simp, ?_⟩
      intro a ha b hb
      simp at hb
      rintro rfl
      exact hn (by rw [hb] at ha; exact ha)
    · intro k m hm
      rw [sel_snoc]
      rcases List.mem_append.1 hm with hm | hm
      · have hk : key x ≠ k := by
          rintro rfl
          exact hn (List.mem_map.2 ⟨_, hm, rfl⟩)
        rw [if_neg hk, List.append_nil]
        exact h.is k m hm
      · simp at hm
        obtain ⟨rfl, rfl⟩ := hm
        rw [if_pos rfl, hsel hn]; rfl
    · intro y hy
      rw [List.map_append, List.mem_append]
      rcases List.mem_append.1 hy with hy | hy
      · exact .inl (h.all y hy)
      · simp at hy; subst hy; exact .inr (by simp)
  | some p =>
    obtain ⟨i, m0⟩ := p
    have hi := (fnd_some hf).2
    simp only [Nat.sub_zero] at hi
    have hlt := (List.getElem?_eq_some_iff.1 hi).1
    simp only
    have hkeys : (L.set i (key x, m0 ++ [val x])).map (·.1) = L.map (·.1) := by
      rw [List.map_set]
      have h1 : (L.map (·.1))[i]? = some (key x) := by simp [hi]
      obtain ⟨h2, h3⟩ := List.getElem?_eq_some_iff.1 h1
      conv => rhs; rw [← List.set_getElem_self h2]
      rw [h3]
    refine ⟨by rw [hkeys]; exact h.nodup, ?_, ?_⟩
    · intro k m hm
      obtain ⟨j, hj⟩ := List.mem_iff_getElem?.1 hm
      rw [sel_snoc]
      by_cases hji : j = i
      · subst hji
        rw [List.getElem?_set_self hlt] at hj
        simp at hj
        obtain ⟨rfl, rfl⟩ := hj
        rw [if_pos rfl, ← h.is _ _ (List.mem_of_getElem? hi)]
      · rw [List.getElem?_set_ne (Ne.symm hji)] at hj
        have hk : key x ≠ k := by
          rintro rfl
          have h1 : (L.map (·.1))[j]? = some (key x) := by simp [hj]
          have h2 : (L.map (·.1))[i]? = some (key x) := by simp [hi]
          have hjl := (List.getElem?_eq_some_iff.1 h1).1
          have := (List.getElem?_inj hjl h.nodup).1 (h1.trans h2.symm)
          exact hji this
        rw [if_neg hk, List.append_nil]
        exact h.is k m (List.mem_of_getElem? hj)
    · intro y hy
      rw [hkeys]
      rcases List.mem_append.1 hy with hy | hy
      · exact h.all y hy
      · simp at hy; subst hy
        exact List.mem_map.2 ⟨_, List.mem_of_getElem? hi, rfl⟩
theorem groups_inv {α : Type} (key : α → κ) (val : α → Int) (l : List α) : GInv key val l (groups key val l) := by
  have : ∀ (r l : List α) (L : List (κ × List Int)), GInv key val l L → GInv key val (l ++ r) (r.foldl (fun L x => gAdd (key x) (val x) L) L) := by
    intro r
    induction r with
    | nil => intro l L h; simpa using h
    | cons x r ih => intro l L h; rw [List.foldl_cons, show l ++ x :: r = (l ++ [x]) ++ r by simp]; exact ih _ _ (gAdd_inv key val l L x h)
  exact this l [] [] ⟨by simp, by simp, by simp⟩
theorem look_eq {β : Type} (k : κ) (es : List (κ × β)) (z : β) : ((fnd k es 0).map (·.2)).getD z = (entOf k es z).2.2 := by
  unfold entOf
  cases fnd k es 0 <;> rfl
theorem ent_sel {α : Type} {key : α → κ} {val : α → Int} {l : List α} {L : List (κ × List Int)} (h : GInv key val l L) (k : κ) : (entOf k L []).2.2 = sel key val k l := by
  unfold entOf
  cases hf : fnd k L 0 with
  | none =>
    have hn := fnd_none hf
    simp only
    symm
    unfold sel
    rw [List.map_eq_nil_iff, List.filter_eq_nil_iff]
    intro y hy he
    exact hn (by have := h.all y hy; rw [of_decide_eq_true he] at this; exact this)
  | some p =>
    obtain ⟨i, m⟩ := p
    have hi := (fnd_some hf).2
    exact h.is _ _ (List.mem_of_getElem? hi)
theorem Groups.look {α : Type} {key : α → κ} {val : α → Int} {l : List α} {w : World} {B : Nat} {e : TypeId} {es : List (κ × Value)} (h : Groups w B e es (groups key val l)) (k : κ) :
    w.ownsRow B e 1 (((fnd k es 0).map (·.2)).getD (.slice none 0 0)) (sel key val k l).length (ints .i64 (sel key val k l)) := by
  have h1 := h.entOf k
  have h2 := h1.own _ _ _ _ _ (entOf_at k es (Value.slice none 0 0)) (by rw [(entOf_keys k es (groups key val l) (Value.slice none 0 0) ([] : List Int) h.keys).2]; exact entOf_at k (groups key val l) ([] : List Int))
  rw [ent_sel (groups_inv key val l) k] at h2
  rw [look_eq]; exact h2
theorem groups_snoc {α : Type} (key : α → κ) (val : α → Int) (l : List α) (x : α) : groups key val (l ++ [x]) = gAdd (key x) (val x) (groups key val l) := by unfold groups; rw [List.foldl_append]; rfl
end
end Go.Proofs.Ytcilfgedcnehfaa
