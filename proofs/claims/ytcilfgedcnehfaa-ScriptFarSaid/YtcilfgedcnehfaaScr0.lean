import Derived.Test.YtcilfgedcnehfaaShelf
import Derived.Test.YtcilfgedcnehfaaPScr
import Derived.Test.YtcilfgedcnehfaaAud1
import Derived.Sort.OwnSortedInts
set_option linter.unusedVariables false
set_option linter.unusedSectionVars false
set_option linter.unusedSimpArgs false
namespace Go.Proofs.Ytcilfgedcnehfaa
open Go.RowKit

def encTry (k : Int × Int) : Value := .agg #[.int .i64 k.1, .int .i64 k.2]
theorem zeroInts (w : World) : (zeroValue 60).run Try.prog w = .ok (.slice none 0 0) w := by kernel_rfl
theorem infoInt : (Try.prog.info? 3).map (fun i => (i.zero, i.size, i.bytes)) = some (some (.int .i64 0), 1, 8) := by kernel_rfl
theorem keyTryS : MapKey encTry Try.prog 64 := by
  refine MapKey.of_struct encTry Try.underlying64 (fun e k w => ?_) (fun a b w => ?_) (fun k => ?_)
  · kernel_rfl
  · obtain ⟨a1, a2⟩ := a
    obtain ⟨b1, b2⟩ := b
    unfold encTry Op.equal Op.maxDepth
    go_simp
    by_cases h1 : a1 = b1 <;> by_cases h2 : a2 = b2 <;> simp [h1, h2]
  · simp [encTry, Instr.sameBits]

/-- the sort of a row of one's own -/
theorem sort_any (w : World) (B : Nat) (v : Value) (l : List Int) (h : w.ownsRow B 3 1 v l.length (ints .i64 l)) (hl : l.length ≤ 4611686018427387903) :
    Calls Try.prog 34 #[v] w fun e w' => e = .returned (.tuple #[]) ∧ w.grownBy w' v.ownBlock ∧ w'.ownsRow B 3 1 v l.length (ints .i64 (sorted l)) := by
  have h' := h
  rcases h.2 with ⟨rfl, h0⟩ | ⟨g, cap, cur, rfl, hbase, hb, h1, h2, h3, h4⟩
  · have hnil : l = [] := List.eq_nil_of_length_eq_zero h0
    subst hnil
    refine (Try.slices_Sort_int_none none 0 w).mono ?_
    rintro e w' ⟨rfl, rfl⟩
    exact ⟨rfl, World.grownBy.refl _ _, by simpa [sorted] using h'⟩
  · have hH := Go.holds_of_blockI (w := w) (g := g) (cur := cur) (e := 3) (ss := l) hb (by simpa [ints] using h4)
    refine (Try.slices_Sort_int g 0 cap l w hH (Array.getElem?_eq_some_iff.1 hb).1 (by omega)).mono ?_
    rintro e w' ⟨rfl, n, os, rfl⟩
    exact ⟨rfl, Go.grownBy_sortedI _, Go.ownsRow_sortedI (by simp) hbase hb h1 h2 h3⟩

end Go.Proofs.Ytcilfgedcnehfaa
