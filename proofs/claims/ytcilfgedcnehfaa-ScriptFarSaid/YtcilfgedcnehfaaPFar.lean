import Derived.Test.YtcilfgedcnehfaaPThin
import Derived.Test.YtcilfgedcnehfaaOf
set_option linter.unusedVariables false
set_option linter.unusedSectionVars false
set_option linter.unusedSimpArgs false
namespace Go.Proofs.Ytcilfgedcnehfaa
open Go.RowKit

theorem pair_all : ∀ {l : List Ev}, l.Pairwise apart → ∀ a ∈ l, ∀ b ∈ l, a ≠ b → apart a b
  | [], _, _, h, _, _, _ => by simp at h
  | x :: l, h, a, ha, b, hb, hab => by
    obtain ⟨h1, h2⟩ := List.pairwise_cons.1 h
    rcases List.mem_cons.1 ha with ea | ha <;> rcases List.mem_cons.1 hb with eb | hb
    · exact absurd (ea.trans eb.symm) hab
    · rw [ea]; exact h1 b hb
    · rw [eb]; exact apart_symm (h1 a ha)
    · exact pair_all h2 a ha b hb hab
theorem of_iff {y : Ev} {it tr wi : Int} : y.of it tr wi = true ↔ y.it = it ∧ y.tr = tr ∧ y.wi = wi := by
  unfold Ev.of; simp [and_assoc]
theorem far_own {l : List Ev} (hs : l.Pairwise apart) {x : Ev} (hx : x ∈ l) : ofL l x.it x.tr x.wi = [x] := by
  have hm : x ∈ ofL l x.it x.tr x.wi := List.mem_filter.2 ⟨hx, of_iff.2 ⟨rfl, rfl, rfl⟩⟩
  have hp : (ofL l x.it x.tr x.wi).Pairwise apart := hs.sublist List.filter_sublist
  have hall : ∀ y ∈ ofL l x.it x.tr x.wi, evKey y = evKey x ∧ y.wi = x.wi := fun y hy => by
    obtain ⟨a, b, c⟩ := of_iff.1 (List.mem_filter.1 hy).2
    exact ⟨by unfold evKey; rw [a, b], c⟩
  generalize ofL l x.it x.tr x.wi = L at *
  match L with
  | [] => simp at hm
  | [y] => simp at hm; rw [hm]
  | y :: z :: r =>
    exfalso
    have h1 := (List.pairwise_cons.1 hp).1 z (by simp)
    have hy := hall y (by simp)
    have hz := hall z (by simp)
    have := h1 (hy.1.trans hz.1.symm)
    unfold far at this; omega
theorem far_next {l : List Ev} (hs : l.Pairwise apart) {x : Ev} (hx : x ∈ l) : ofL l x.it x.tr (x.wi + 1) = [] := by
  unfold ofL
  rw [List.filter_eq_nil_iff]
  intro y hy hq
  obtain ⟨a, b, c⟩ := of_iff.1 hq
  have hne : y ≠ x := by rintro rfl; omega
  have := pair_all hs y hy x hx hne (by unfold evKey; rw [a, b])
  unfold far at this; omega
/-- all that ScriptFar asks -/
theorem far_laws (l : List Ev) (hl : ∀ a ∈ l, i64r a.wi) (k : Nat) (x : Ev) (hx : l[k]? = some x) :
    sparseB (l ++ [x]) = false ∧ (sparseB l = true → sparseB (l.take k ++ l.drop (k + 1)) = true ∧ (∀ y ∈ l, ofL l y.it y.tr y.wi = [y]) ∧ ∀ y ∈ l, ofL l y.it y.tr (y.wi + 1) = []) := by
  have hxm : x ∈ l := List.mem_of_getElem? hx
  refine ⟨?_, fun hs => ?_⟩
  · rw [Bool.eq_false_iff, ne_eq, sparse_iff _ (by
      intro a ha
      rcases List.mem_append.1 ha with ha | ha
      · exact hl a ha
      · simp at ha; subst ha; exact hl a hxm)]
    exact fun hp => not_apart_self x ((List.pairwise_append.1 hp).2.2 x hxm x (by simp))
  · have hs := (sparse_iff _ hl).1 hs
    have hsub : (l.take k ++ l.drop (k + 1)).Sublist l := by
      conv => rhs; rw [← List.take_append_drop k l]
      refine List.Sublist.append (List.Sublist.refl _) ?_
      rw [← List.drop_drop]
      exact List.drop_sublist _ _
    exact ⟨(sparse_iff _ fun a ha => hl a (hsub.subset ha)).2 (hs.sublist hsub), fun y hy => far_own hs hy, fun y hy => far_next hs hy⟩
end Go.Proofs.Ytcilfgedcnehfaa
