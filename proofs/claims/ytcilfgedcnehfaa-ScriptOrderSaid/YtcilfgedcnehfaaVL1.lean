/-
  Part of the proof of a law: contracts of a few library functions. Conditions: none.
-/
import Derived.Test.YtcilfgedcnehfaaVA2
import Derived.Test.YtcilfgedcnehfaaProg
import Derived.KernelRfl
import Derived.WalkKit
set_option linter.unusedVariables false
set_option linter.unusedSectionVars false
set_option linter.unusedSimpArgs false
set_option linter.deprecated false
namespace Go.Proofs.Ytcilfgedcnehfaa
open Go.RowKit Go.AM
def GT (G : List (Nat × Obj)) : Prop := True
end Go.Proofs.Ytcilfgedcnehfaa
