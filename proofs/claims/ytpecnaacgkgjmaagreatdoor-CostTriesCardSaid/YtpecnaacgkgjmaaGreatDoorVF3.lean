/-
  Part of the proof of a law: the functions, as programs over a store. Conditions: none.
-/
import Derived.Test.YtpecnaacgkgjmaaGreatDoorVF2
set_option linter.unusedVariables false
set_option linter.unusedSectionVars false
set_option linter.unusedSimpArgs false
set_option linter.deprecated false
set_option maxRecDepth 100000
namespace Go.AM
open Go Go.Proofs Go.Proofs.YtpecnaacgkgjmaaGreatDoor
end Go.AM
