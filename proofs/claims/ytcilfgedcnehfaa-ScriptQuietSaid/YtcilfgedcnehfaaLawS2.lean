import Derived.Test.YtcilfgedcnehfaaLawS1
set_option linter.unusedVariables false
set_option linter.unusedSectionVars false
set_option linter.unusedSimpArgs false
namespace Go.Proofs.Ytcilfgedcnehfaa
open Go.RowKit
theorem scriptBack_far (w : World) (A B : Option Addr) (n m c d : Nat) (hn : n ≤ 140737488355328) (hm : m ≤ 140737488355328) (hf : 60 < n ∨ 60 < m) :
    Calls Try.prog 6 #[.slice A n c, .slice B m d] w fun en w' => en = .returned (.bool true) ∧ Below w.heap.size w w' := by
  by_cases h1 : 60 < n
  all_goals
    go_enter Try.func6, Try.ntmps6
    go_wp2_with fail
    refine (live10_any _).mono ?_
    rintro e w1 ⟨rfl, hB⟩
    have h2 : ¬ 60 < n → 60 < m := by omega
    go_wp2
    go_ret
    exact ⟨rfl, hB⟩
theorem scriptQuiet_far (w : World) (A B : Option Addr) (n m c d : Nat) (hn : n ≤ 140737488355328) (hm : m ≤ 140737488355328) (hf : 60 < n ∨ 60 < m) :
    Calls Try.prog 7 #[.slice A n c, .slice B m d] w fun en w' => en = .returned (.bool true) ∧ Below w.heap.size w w' := by
  by_cases h1 : 60 < n
  all_goals
    go_enter Try.func7, Try.ntmps7
    go_wp2_with fail
    refine (live10_any _).mono ?_
    rintro e w1 ⟨rfl, hB⟩
    have h2 : ¬ 60 < n → 60 < m := by omega
    go_wp2
    go_ret
    exact ⟨rfl, hB⟩
end Go.Proofs.Ytcilfgedcnehfaa
