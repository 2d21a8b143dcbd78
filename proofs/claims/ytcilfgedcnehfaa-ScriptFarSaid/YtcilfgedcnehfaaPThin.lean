import Derived.Test.YtcilfgedcnehfaaThin
set_option linter.unusedVariables false
set_option linter.unusedSectionVars false
set_option linter.unusedSimpArgs false
namespace Go.Proofs.Ytcilfgedcnehfaa
open Go.RowKit

theorem near_iff {a b : Int} (ha : i64r a) (hb : i64r b) : nearW a b = true ↔ ¬ far a b := by
  unfold nearW far
  rw [decide_eq_true_eq, u64_wrap, u64_wrap, u64_wrap]
  unfold i64r at *
  rcases Int.le_total a b with h | h
  · rw [Int.max_eq_right h, Int.min_eq_left h]; omega
  · rw [Int.max_eq_left h, Int.min_eq_right h]; omega
theorem nearAny_iff {out : List Ev} {x : Ev} (ho : ∀ a ∈ out, i64r a.wi) (hx : i64r x.wi) : nearAny out x = true ↔ ∃ a ∈ out, ¬ apart a x := by
  unfold nearAny
  rw [List.any_eq_true]
  constructor
  · rintro ⟨w, hw, hn⟩
    unfold sel at hw
    obtain ⟨a, ha, rfl⟩ := List.mem_map.1 hw
    obtain ⟨ha, hk⟩ := List.mem_filter.1 ha
    exact ⟨a, ha, fun hap => (near_iff (ho a ha) hx).1 hn (hap (of_decide_eq_true hk))⟩
  · rintro ⟨a, ha, hn⟩
    unfold apart at hn
    have hk : evKey a = evKey x := Classical.byContradiction fun h => hn fun e => absurd e h
    refine ⟨a.wi, ?_, (near_iff (ho a ha) hx).2 fun hf => hn fun _ => hf⟩
    unfold sel
    exact List.mem_map.2 ⟨a, List.mem_filter.2 ⟨ha, by simpa using hk⟩, rfl⟩
theorem thin_from : ∀ (l out : List Ev), ∃ sub, l.foldl thin1 out = out ++ sub ∧ sub.Sublist l
  | [], out => ⟨[], by simp, List.Sublist.refl _⟩
  | x :: l, out => by
    rw [List.foldl_cons]
    obtain ⟨sub, h1, h2⟩ := thin_from l (thin1 out x)
    rw [h1]
    unfold thin1
    split
    · exact ⟨sub, rfl, h2.cons _⟩
    · exact ⟨x :: sub, by simp, h2.cons_cons _⟩
theorem thin_sub (l : List Ev) : (thin l).Sublist l := by
  obtain ⟨sub, h1, h2⟩ := thin_from l []
  unfold thin; rw [h1]; simpa using h2
theorem thin_take (l : List Ev) (k : Nat) : ∃ sub, thin l = thin (l.take k) ++ sub := by
  obtain ⟨sub, h1, _⟩ := thin_from (l.drop k) (thin (l.take k))
  refine ⟨sub, ?_⟩
  rw [← h1]
  conv => lhs; rw [← List.take_append_drop k l]
  unfold thin; rw [List.foldl_append]
theorem thin_succ (l : List Ev) (k : Nat) (x : Ev) (hx : l[k]? = some x) : thin (l.take (k + 1)) = thin1 (thin (l.take k)) x := by
  rw [List.take_add_one, hx]; unfold thin; rw [List.foldl_append]; rfl
theorem thin1_sparse {out : List Ev} {x : Ev} (ho : ∀ a ∈ out, i64r a.wi) (hx : i64r x.wi) (h : out.Pairwise apart) : (thin1 out x).Pairwise apart := by
  unfold thin1
  split
  · exact h
  · rename_i hn
    rw [nearAny_iff ho hx] at hn
    rw [List.pairwise_append]
    refine ⟨h, by simp, fun a ha b hb => ?_⟩
    simp at hb; subst hb
    exact Classical.byContradiction fun hc => hn ⟨a, ha, hc⟩
theorem thin_from_sparse : ∀ (l out : List Ev), (∀ a ∈ l, i64r a.wi) → (∀ a ∈ out, i64r a.wi) → out.Pairwise apart → (l.foldl thin1 out).Pairwise apart
  | [], out, _, _, h => h
  | x :: l, out, hl, ho, h => by
    rw [List.foldl_cons]
    refine thin_from_sparse l _ (fun a ha => hl a (List.mem_cons_of_mem _ ha)) ?_ (thin1_sparse ho (hl x (List.mem_cons_self ..)) h)
    intro a ha
    unfold thin1 at ha
    split at ha
    · exact ho a ha
    · rcases List.mem_append.1 ha with ha | ha
      · exact ho a ha
      · simp at ha; subst ha; exact hl a (List.mem_cons_self ..)
theorem thin_sparse (l : List Ev) (hl : ∀ a ∈ l, i64r a.wi) : (thin l).Pairwise apart := thin_from_sparse l [] hl (by simp) List.Pairwise.nil
theorem thin_from_self : ∀ (l out : List Ev), (∀ a ∈ out ++ l, i64r a.wi) → (out ++ l).Pairwise apart → l.foldl thin1 out = out ++ l
  | [], out, _, _ => by simp
  | x :: l, out, hl, h => by
    rw [List.foldl_cons]
    have hx : nearAny out x = false := by
      rw [Bool.eq_false_iff, ne_eq, nearAny_iff (fun a ha => hl a (List.mem_append_left _ ha)) (hl x (by simp))]
      rintro ⟨a, ha, hn⟩
      exact hn ((List.pairwise_append.1 h).2.2 a ha x (by simp))
    have : thin1 out x = out ++ [x] := by unfold thin1; rw [hx]; rfl
    rw [this, thin_from_self l (out ++ [x]) (by simpa using hl) (by simpa using h)]
    simp
theorem thin_self (l : List Ev) (hl : ∀ a ∈ l, i64r a.wi) (h : l.Pairwise apart) : thin l = l := by
  unfold thin; rw [thin_from_self l [] (by simpa using hl) (by simpa using h)]; rfl
theorem not_far_self (a : Int) : ¬ far a a := by unfold far; omega
theorem not_apart_self (x : Ev) : ¬ apart x x := fun h => not_far_self _ (h rfl)

/-- all that SparseThin asks -/
theorem thin_laws (l : List Ev) (hl : ∀ a ∈ l, i64r a.wi) : sparseB (thin l) = true ∧ thin (thin l) = thin l ∧ sparseB l = decide ((thin l).length = l.length) ∧ (sparseB l = true → thin l = l) := by
  have ht : ∀ a ∈ thin l, i64r a.wi := fun a ha => hl a ((thin_sub l).subset ha)
  have hs := thin_sparse l hl
  refine ⟨(sparse_iff _ ht).2 hs, thin_self _ ht hs, ?_, fun h => thin_self l hl ((sparse_iff _ hl).1 h)⟩
  rw [Bool.eq_iff_iff, decide_eq_true_eq, sparse_iff _ hl]
  constructor
  · intro h; rw [thin_self l hl h]
  · intro h; have := (thin_sub l).eq_of_length h; rw [this] at hs; exact hs

/-- all that SparseMost asks of one event -/
theorem most_laws (l : List Ev) (hl : ∀ a ∈ l, i64r a.wi) (k : Nat) (x : Ev) (hx : l[k]? = some x) :
    sparseB (thin l ++ [x]) = false ∧ (thin l).take (thin (l.take k)).length = thin (l.take k) ∧
    ((thin l)[(thin (l.take k)).length]? = some x → sparseB (thin (l.take k) ++ [x]) = true ∧ thin (l.take (k + 1)) = thin (l.take k) ++ [x]) ∧
    ((thin l)[(thin (l.take k)).length]? ≠ some x → sparseB (thin (l.take k) ++ [x]) = false ∧ thin (l.take (k + 1)) = thin (l.take k)) := by
  have hxm : x ∈ l := List.mem_of_getElem? hx
  have hxr := hl x hxm
  obtain ⟨sub, hsub⟩ := thin_take l k
  have ht : ∀ a ∈ thin l, i64r a.wi := fun a ha => hl a ((thin_sub l).subset ha)
  have hc : ∀ a ∈ thin (l.take k), i64r a.wi := fun a ha => ht a (by rw [hsub]; exact List.mem_append_left _ ha)
  have hcs : (thin (l.take k)).Pairwise apart := thin_sparse _ fun a ha => hl a (List.mem_of_mem_take ha)
  have hstep := thin_succ l k x hx
  have hsp : ∀ (o : List Ev), (∀ a ∈ o, i64r a.wi) → (sparseB (o ++ [x]) = true ↔ (o ++ [x]).Pairwise apart) := fun o ho => sparse_iff _ (by
    intro a ha
    rcases List.mem_append.1 ha with ha | ha
    · exact ho a ha
    · simp at ha; subst ha; exact hxr)
  have htake : (thin l).take (thin (l.take k)).length = thin (l.take k) := by rw [hsub]; simp
  have hget : (thin l)[(thin (l.take k)).length]? = sub.head? := by rw [hsub, List.getElem?_append_right (Nat.le_refl _), Nat.sub_self, List.head?_eq_getElem?]
  cases hn : nearAny (thin (l.take k)) x with
  | true =>
    obtain ⟨a, ha, hna⟩ := (nearAny_iff hc hxr).1 hn
    have hbad : ∀ o : List Ev, a ∈ o → ¬ (o ++ [x]).Pairwise apart := fun o ho hp => hna ((List.pairwise_append.1 hp).2.2 a ho x (by simp))
    have hcur : sparseB (thin (l.take k) ++ [x]) = false := by rw [Bool.eq_false_iff, ne_eq, hsp _ hc]; exact hbad _ ha
    have hnx : (thin l)[(thin (l.take k)).length]? ≠ some x := by
      rw [hget]
      cases hs : sub with
      | nil => simp
      | cons y sub' =>
        simp only [List.head?_cons, ne_eq, Option.some.injEq]
        rintro rfl
        have h1 := thin_sparse l hl
        rw [hsub, hs] at h1
        exact hna ((List.pairwise_append.1 h1).2.2 a ha y (by simp))
    refine ⟨?_, htake, fun h => absurd h hnx, fun _ => ⟨hcur, ?_⟩⟩
    · rw [Bool.eq_false_iff, ne_eq, hsp _ ht]; exact hbad _ (by rw [hsub]; exact List.mem_append_left _ ha)
    · rw [hstep]; unfold thin1; rw [hn]; rfl
  | false =>
    have hs1 : thin1 (thin (l.take k)) x = thin (l.take k) ++ [x] := by unfold thin1; rw [hn]; rfl
    have hnew : thin (l.take (k + 1)) = thin (l.take k) ++ [x] := by rw [hstep, hs1]
    obtain ⟨sub2, hsub2⟩ := thin_take l (k + 1)
    have hx2 : (thin l)[(thin (l.take k)).length]? = some x := by rw [hsub2, hnew, List.append_assoc, List.getElem?_append_right (Nat.le_refl _)]; simp
    have hcur : sparseB (thin (l.take k) ++ [x]) = true := by
      rw [hsp _ hc, ← hnew]
      exact thin_sparse _ fun a ha => hl a (List.mem_of_mem_take ha)
    refine ⟨?_, htake, fun _ => ⟨hcur, hnew⟩, fun h => absurd hx2 h⟩
    rw [Bool.eq_false_iff, ne_eq, hsp _ ht]
    exact fun hp => not_apart_self x ((List.pairwise_append.1 hp).2.2 x (List.mem_of_getElem? hx2) x (by simp))
end Go.Proofs.Ytcilfgedcnehfaa
