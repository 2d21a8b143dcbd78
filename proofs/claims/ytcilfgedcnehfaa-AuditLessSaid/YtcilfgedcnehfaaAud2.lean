import Derived.Test.YtcilfgedcnehfaaAud1
set_option linter.unusedVariables false
set_option linter.unusedSectionVars false
set_option linter.unusedSimpArgs false
namespace Go.Proofs.Ytcilfgedcnehfaa
open Go.RowKit

theorem auditLive_any (w : World) : Calls Try.prog 12 #[] w fun en w' => en = .returned (.bool true) ∧ Below w.heap.size w w' := by
  go_enter Try.func12, Try.ntmps12
  go_wp2_with fail
  refine (match_any w none none 0 0 0 0 [] [] (Rd.nil _ _ _) (Rd.nil _ _ _) (by omega) (by omega)).mono ?_
  rintro e w1 ⟨rfl, hB⟩
  rw [show matches_ [] [] = true from rfl]
  go_wp2_with fail
  refine (match_any _ none _ 0 1 0 1 [] [⟨0, 0, 0, 0, 0, 0⟩] (Rd.nil _ _ _) (rd_new w1 _ _ 6 1 rfl (by omega)) (by omega) (by omega)).mono ?_
  rintro e w2 ⟨rfl, hC⟩
  rw [show matches_ [] [⟨0, 0, 0, 0, 0, 0⟩] = false from rfl]
  go_wp2
  go_ret
  exact ⟨rfl, bthen hB (bafter hC)⟩
end Go.Proofs.Ytcilfgedcnehfaa
