/-
  NARROWER THAN 'FOR EVERY INPUT', by the rows' own cells (each row's printed sentence says how): PassDoes: laid · TurnDoes: laid · TurnOuts: laid · TrialDoes: laid · TrialBounds: laid · TrialAlone: laid · TrialApart: laid · TrialMore: laid · CostTries: laid · TrialQuiet: laid · EngineBounds: laid · EngineItems: laid · EngineMore: laid · CostMost: laid.
  DERIVED. THE GIVEN ROWS OF THIS SEAT. 14 by the template 'for every input the law returns true; each argument reads behind the call as it read before'; 0 by the template 'total and deterministic' (their statements: YtpecnaacgkgjmaaGreatDoorTotals.lean).
  GIVEN WITH THE SEED: the statements are not yours to turn. If you find one false, say at which input.
  Laid BY PROGRAM, IN A SANDBOX (cutbox-rows.mjs): the forced cells as the released guide's own fill.sh prints them over the translation ac81d67af13e26af… (all of the seat's roots in one cut). By AI agents, Wed Nov 11 2026. No macro, syntax, notation, axiom, sorry.
-/
import Derived.Test.YtpecnaacgkgjmaaGreatDoorChecked
import GoSem.Claim
import GoSem.ClaimJoined
import GoSem.ClaimMapViews
import Derived.JoinedTies
import Derived.KernelRfl
namespace Go.Proofs.YtpecnaacgkgjmaaGreatDoor
/- THE CELL 'sum', in the pinned program and in every row, IS THE sha256 OF THE DUMP (.gsa) THAT YtpecnaacgkgjmaaGreatDoorProg.lean LOADS. Nothing in Lean hashes anything: it is a label: what it is worth is what the hold of that sum in a sandbox is worth. -/
noncomputable def Tryz.pinned : Pinned := { name := "ytpecnaacgkgjmaagreatdoor", sum := "ac81d67af13e26aff674d4103286175bf18a37ca3aa561d601d94c8732a8cc2e", checked := Tryz.checked }
namespace Rows
def none {H : Type} : Left H := { results := [], args := [] }

/- WHAT THE LISTED PACKAGE-LEVEL VARIABLES READ AS WHEN THE CALL BEGINS. Each datum BY PROGRAM (the guide's laid-datum.mjs) off the statement by which the dump's own 'gosem.cut.vars' lays the variable. In a bare row this is a premise. The card (YtpecnaacgkgjmaaGreatDoorCards.lean) ties it to the program's text. -/
def laid_math_bits_deBruijn32tab {H : Type} : DataW H := .agg [.lit (.int .u8 0), .lit (.int .u8 1), .lit (.int .u8 28), .lit (.int .u8 2), .lit (.int .u8 29), .lit (.int .u8 14), .lit (.int .u8 24), .lit (.int .u8 3), .lit (.int .u8 30), .lit (.int .u8 22), .lit (.int .u8 20), .lit (.int .u8 15), .lit (.int .u8 25), .lit (.int .u8 17), .lit (.int .u8 4), .lit (.int .u8 8), .lit (.int .u8 31), .lit (.int .u8 27), .lit (.int .u8 13), .lit (.int .u8 23), .lit (.int .u8 21), .lit (.int .u8 19), .lit (.int .u8 16), .lit (.int .u8 7), .lit (.int .u8 26), .lit (.int .u8 12), .lit (.int .u8 18), .lit (.int .u8 6), .lit (.int .u8 11), .lit (.int .u8 5), .lit (.int .u8 10), .lit (.int .u8 9)]
def laid_math_bits_deBruijn64tab {H : Type} : DataW H := .agg [.lit (.int .u8 0), .lit (.int .u8 1), .lit (.int .u8 56), .lit (.int .u8 2), .lit (.int .u8 57), .lit (.int .u8 49), .lit (.int .u8 28), .lit (.int .u8 3), .lit (.int .u8 61), .lit (.int .u8 58), .lit (.int .u8 42), .lit (.int .u8 50), .lit (.int .u8 38), .lit (.int .u8 29), .lit (.int .u8 17), .lit (.int .u8 4), .lit (.int .u8 62), .lit (.int .u8 47), .lit (.int .u8 59), .lit (.int .u8 36), .lit (.int .u8 45), .lit (.int .u8 43), .lit (.int .u8 51), .lit (.int .u8 22), .lit (.int .u8 53), .lit (.int .u8 39), .lit (.int .u8 33), .lit (.int .u8 30), .lit (.int .u8 24), .lit (.int .u8 18), .lit (.int .u8 12), .lit (.int .u8 5), .lit (.int .u8 63), .lit (.int .u8 55), .lit (.int .u8 48), .lit (.int .u8 27), .lit (.int .u8 60), .lit (.int .u8 41), .lit (.int .u8 37), .lit (.int .u8 16), .lit (.int .u8 46), .lit (.int .u8 35), .lit (.int .u8 44), .lit (.int .u8 21), .lit (.int .u8 52), .lit (.int .u8 32), .lit (.int .u8 23), .lit (.int .u8 11), .lit (.int .u8 54), .lit (.int .u8 26), .lit (.int .u8 40), .lit (.int .u8 15), .lit (.int .u8 34), .lit (.int .u8 20), .lit (.int .u8 31), .lit (.int .u8 10), .lit (.int .u8 25), .lit (.int .u8 14), .lit (.int .u8 19), .lit (.int .u8 9), .lit (.int .u8 13), .lit (.int .u8 8), .lit (.int .u8 7), .lit (.int .u8 6)]

/-- 'brackenlaw18.PassDoes': WHATEVER THE INPUT: true; the input reads as it did. -/
def passDoesSpec : ChangeSpec := { name := "passDoes", fn := fun _ => fun
  | [d] => { results := [.lit (.bool true)], args := [d] }
  | _ => none }
def passDoesRow : OpenClaim := { program := "ytpecnaacgkgjmaagreatdoor", sum := "ac81d67af13e26aff674d4103286175bf18a37ca3aa561d601d94c8732a8cc2e", func := "bracken/brackenlaw18.PassDoes", spec := "passDoes", inPlace := ["math/bits.Sub64", "math/bits.Add64"], unfollowed := true, recurses := true, named := ["math/bits.deBruijn32tab", "math/bits.deBruijn64tab", "math/bits.divideError", "math/bits.overflowError"], apart := false, laid := [("math/bits.deBruijn32tab", laid_math_bits_deBruijn32tab), ("math/bits.deBruijn64tab", laid_math_bits_deBruijn64tab)] }
def PassDoesSaid : Prop := passDoesRow.holds Tryz.pinned (OpenSpec.ofChange passDoesSpec)

/-- ITS FALSE NEIGHBOUR: 'it returns false'. Refute it at one input. -/
def passDoesWrong : ChangeSpec := { name := "passDoes", fn := fun _ => fun
  | [d] => { results := [.lit (.bool false)], args := [d] }
  | _ => none }
def PassDoesWrongFalsely : Prop := passDoesRow.holds Tryz.pinned (OpenSpec.ofChange passDoesWrong)

/-- 'brackenlaw19.TurnDoes': WHATEVER THE INPUT: true; the input reads as it did. -/
def turnDoesSpec : ChangeSpec := { name := "turnDoes", fn := fun _ => fun
  | [d] => { results := [.lit (.bool true)], args := [d] }
  | _ => none }
def turnDoesRow : OpenClaim := { program := "ytpecnaacgkgjmaagreatdoor", sum := "ac81d67af13e26aff674d4103286175bf18a37ca3aa561d601d94c8732a8cc2e", func := "bracken/brackenlaw19.TurnDoes", spec := "turnDoes", inPlace := ["math/bits.Sub64", "math/bits.Add64"], unfollowed := true, recurses := true, named := ["math/bits.deBruijn32tab", "math/bits.deBruijn64tab", "math/bits.divideError", "math/bits.overflowError"], apart := false, laid := [("math/bits.deBruijn32tab", laid_math_bits_deBruijn32tab), ("math/bits.deBruijn64tab", laid_math_bits_deBruijn64tab)] }
def TurnDoesSaid : Prop := turnDoesRow.holds Tryz.pinned (OpenSpec.ofChange turnDoesSpec)

/-- ITS FALSE NEIGHBOUR: 'it returns false'. Refute it at one input. -/
def turnDoesWrong : ChangeSpec := { name := "turnDoes", fn := fun _ => fun
  | [d] => { results := [.lit (.bool false)], args := [d] }
  | _ => none }
def TurnDoesWrongFalsely : Prop := turnDoesRow.holds Tryz.pinned (OpenSpec.ofChange turnDoesWrong)

/-- 'brackenlaw19.TurnOuts': WHATEVER THE INPUT: true; the input reads as it did. -/
def turnOutsSpec : ChangeSpec := { name := "turnOuts", fn := fun _ => fun
  | [d1, d2, d3, d4, d5] => { results := [.lit (.bool true)], args := [d1, d2, d3, d4, d5] }
  | _ => none }
def turnOutsRow : OpenClaim := { program := "ytpecnaacgkgjmaagreatdoor", sum := "ac81d67af13e26aff674d4103286175bf18a37ca3aa561d601d94c8732a8cc2e", func := "bracken/brackenlaw19.TurnOuts", spec := "turnOuts", inPlace := ["math/bits.Sub64", "math/bits.Add64"], unfollowed := true, recurses := true, named := ["math/bits.deBruijn32tab", "math/bits.deBruijn64tab", "math/bits.divideError", "math/bits.overflowError"], apart := false, laid := [("math/bits.deBruijn32tab", laid_math_bits_deBruijn32tab), ("math/bits.deBruijn64tab", laid_math_bits_deBruijn64tab)] }
def TurnOutsSaid : Prop := turnOutsRow.holds Tryz.pinned (OpenSpec.ofChange turnOutsSpec)

/-- ITS FALSE NEIGHBOUR: 'it returns false'. Refute it at one input. -/
def turnOutsWrong : ChangeSpec := { name := "turnOuts", fn := fun _ => fun
  | [d1, d2, d3, d4, d5] => { results := [.lit (.bool false)], args := [d1, d2, d3, d4, d5] }
  | _ => none }
def TurnOutsWrongFalsely : Prop := turnOutsRow.holds Tryz.pinned (OpenSpec.ofChange turnOutsWrong)

/-- 'brackenlaw20.TrialDoes': WHATEVER THE INPUT: true; the input reads as it did. -/
def trialDoesSpec : ChangeSpec := { name := "trialDoes", fn := fun _ => fun
  | [d1, d2, d3, d4] => { results := [.lit (.bool true)], args := [d1, d2, d3, d4] }
  | _ => none }
def trialDoesRow : OpenClaim := { program := "ytpecnaacgkgjmaagreatdoor", sum := "ac81d67af13e26aff674d4103286175bf18a37ca3aa561d601d94c8732a8cc2e", func := "bracken/brackenlaw20.TrialDoes", spec := "trialDoes", inPlace := ["math/bits.Sub64", "math/bits.Add64"], unfollowed := true, recurses := true, named := ["math/bits.deBruijn32tab", "math/bits.deBruijn64tab", "math/bits.divideError", "math/bits.overflowError"], apart := false, laid := [("math/bits.deBruijn32tab", laid_math_bits_deBruijn32tab), ("math/bits.deBruijn64tab", laid_math_bits_deBruijn64tab)] }
def TrialDoesSaid : Prop := trialDoesRow.holds Tryz.pinned (OpenSpec.ofChange trialDoesSpec)

/-- ITS FALSE NEIGHBOUR: 'it returns false'. Refute it at one input. -/
def trialDoesWrong : ChangeSpec := { name := "trialDoes", fn := fun _ => fun
  | [d1, d2, d3, d4] => { results := [.lit (.bool false)], args := [d1, d2, d3, d4] }
  | _ => none }
def TrialDoesWrongFalsely : Prop := trialDoesRow.holds Tryz.pinned (OpenSpec.ofChange trialDoesWrong)

/-- 'brackenlaw20.TrialBounds': WHATEVER THE INPUT: true; the input reads as it did. -/
def trialBoundsSpec : ChangeSpec := { name := "trialBounds", fn := fun _ => fun
  | [d1, d2, d3, d4] => { results := [.lit (.bool true)], args := [d1, d2, d3, d4] }
  | _ => none }
def trialBoundsRow : OpenClaim := { program := "ytpecnaacgkgjmaagreatdoor", sum := "ac81d67af13e26aff674d4103286175bf18a37ca3aa561d601d94c8732a8cc2e", func := "bracken/brackenlaw20.TrialBounds", spec := "trialBounds", inPlace := ["math/bits.Sub64", "math/bits.Add64"], unfollowed := true, recurses := true, named := ["math/bits.deBruijn32tab", "math/bits.deBruijn64tab", "math/bits.divideError", "math/bits.overflowError"], apart := false, laid := [("math/bits.deBruijn32tab", laid_math_bits_deBruijn32tab), ("math/bits.deBruijn64tab", laid_math_bits_deBruijn64tab)] }
def TrialBoundsSaid : Prop := trialBoundsRow.holds Tryz.pinned (OpenSpec.ofChange trialBoundsSpec)

/-- ITS FALSE NEIGHBOUR: 'it returns false'. Refute it at one input. -/
def trialBoundsWrong : ChangeSpec := { name := "trialBounds", fn := fun _ => fun
  | [d1, d2, d3, d4] => { results := [.lit (.bool false)], args := [d1, d2, d3, d4] }
  | _ => none }
def TrialBoundsWrongFalsely : Prop := trialBoundsRow.holds Tryz.pinned (OpenSpec.ofChange trialBoundsWrong)

/-- 'brackenlaw20.TrialAlone': WHATEVER THE INPUT: true; the input reads as it did. -/
def trialAloneSpec : ChangeSpec := { name := "trialAlone", fn := fun _ => fun
  | [d1, d2, d3, d4] => { results := [.lit (.bool true)], args := [d1, d2, d3, d4] }
  | _ => none }
def trialAloneRow : OpenClaim := { program := "ytpecnaacgkgjmaagreatdoor", sum := "ac81d67af13e26aff674d4103286175bf18a37ca3aa561d601d94c8732a8cc2e", func := "bracken/brackenlaw20.TrialAlone", spec := "trialAlone", inPlace := ["math/bits.Sub64", "math/bits.Add64"], unfollowed := true, recurses := true, named := ["math/bits.deBruijn32tab", "math/bits.deBruijn64tab", "math/bits.divideError", "math/bits.overflowError"], apart := false, laid := [("math/bits.deBruijn32tab", laid_math_bits_deBruijn32tab), ("math/bits.deBruijn64tab", laid_math_bits_deBruijn64tab)] }
def TrialAloneSaid : Prop := trialAloneRow.holds Tryz.pinned (OpenSpec.ofChange trialAloneSpec)

/-- ITS FALSE NEIGHBOUR: 'it returns false'. Refute it at one input. -/
def trialAloneWrong : ChangeSpec := { name := "trialAlone", fn := fun _ => fun
  | [d1, d2, d3, d4] => { results := [.lit (.bool false)], args := [d1, d2, d3, d4] }
  | _ => none }
def TrialAloneWrongFalsely : Prop := trialAloneRow.holds Tryz.pinned (OpenSpec.ofChange trialAloneWrong)

/-- 'brackenlaw20.TrialApart': WHATEVER THE INPUT: true; the input reads as it did. -/
def trialApartSpec : ChangeSpec := { name := "trialApart", fn := fun _ => fun
  | [d1, d2, d3, d4, d5] => { results := [.lit (.bool true)], args := [d1, d2, d3, d4, d5] }
  | _ => none }
def trialApartRow : OpenClaim := { program := "ytpecnaacgkgjmaagreatdoor", sum := "ac81d67af13e26aff674d4103286175bf18a37ca3aa561d601d94c8732a8cc2e", func := "bracken/brackenlaw20.TrialApart", spec := "trialApart", inPlace := ["math/bits.Sub64", "math/bits.Add64"], unfollowed := true, recurses := true, named := ["math/bits.deBruijn32tab", "math/bits.deBruijn64tab", "math/bits.divideError", "math/bits.overflowError"], apart := false, laid := [("math/bits.deBruijn32tab", laid_math_bits_deBruijn32tab), ("math/bits.deBruijn64tab", laid_math_bits_deBruijn64tab)] }
def TrialApartSaid : Prop := trialApartRow.holds Tryz.pinned (OpenSpec.ofChange trialApartSpec)

/-- ITS FALSE NEIGHBOUR: 'it returns false'. Refute it at one input. -/
def trialApartWrong : ChangeSpec := { name := "trialApart", fn := fun _ => fun
  | [d1, d2, d3, d4, d5] => { results := [.lit (.bool false)], args := [d1, d2, d3, d4, d5] }
  | _ => none }
def TrialApartWrongFalsely : Prop := trialApartRow.holds Tryz.pinned (OpenSpec.ofChange trialApartWrong)

/-- 'brackenlaw20.TrialMore': WHATEVER THE INPUT: true; the input reads as it did. -/
def trialMoreSpec : ChangeSpec := { name := "trialMore", fn := fun _ => fun
  | [d1, d2, d3, d4] => { results := [.lit (.bool true)], args := [d1, d2, d3, d4] }
  | _ => none }
def trialMoreRow : OpenClaim := { program := "ytpecnaacgkgjmaagreatdoor", sum := "ac81d67af13e26aff674d4103286175bf18a37ca3aa561d601d94c8732a8cc2e", func := "bracken/brackenlaw20.TrialMore", spec := "trialMore", inPlace := ["math/bits.Sub64", "math/bits.Add64"], unfollowed := true, recurses := true, named := ["math/bits.deBruijn32tab", "math/bits.deBruijn64tab", "math/bits.divideError", "math/bits.overflowError"], apart := false, laid := [("math/bits.deBruijn32tab", laid_math_bits_deBruijn32tab), ("math/bits.deBruijn64tab", laid_math_bits_deBruijn64tab)] }
def TrialMoreSaid : Prop := trialMoreRow.holds Tryz.pinned (OpenSpec.ofChange trialMoreSpec)

/-- ITS FALSE NEIGHBOUR: 'it returns false'. Refute it at one input. -/
def trialMoreWrong : ChangeSpec := { name := "trialMore", fn := fun _ => fun
  | [d1, d2, d3, d4] => { results := [.lit (.bool false)], args := [d1, d2, d3, d4] }
  | _ => none }
def TrialMoreWrongFalsely : Prop := trialMoreRow.holds Tryz.pinned (OpenSpec.ofChange trialMoreWrong)

/-- 'brackenlaw22.CostTries': WHATEVER THE INPUT: true; the input reads as it did. -/
def costTriesSpec : ChangeSpec := { name := "costTries", fn := fun _ => fun
  | [d1, d2, d3, d4] => { results := [.lit (.bool true)], args := [d1, d2, d3, d4] }
  | _ => none }
def costTriesRow : OpenClaim := { program := "ytpecnaacgkgjmaagreatdoor", sum := "ac81d67af13e26aff674d4103286175bf18a37ca3aa561d601d94c8732a8cc2e", func := "bracken/brackenlaw22.CostTries", spec := "costTries", inPlace := ["math/bits.Sub64", "math/bits.Add64"], unfollowed := true, recurses := true, named := ["math/bits.deBruijn32tab", "math/bits.deBruijn64tab", "math/bits.divideError", "math/bits.overflowError"], apart := false, laid := [("math/bits.deBruijn32tab", laid_math_bits_deBruijn32tab), ("math/bits.deBruijn64tab", laid_math_bits_deBruijn64tab)] }
def CostTriesSaid : Prop := costTriesRow.holds Tryz.pinned (OpenSpec.ofChange costTriesSpec)

/-- ITS FALSE NEIGHBOUR: 'it returns false'. Refute it at one input. -/
def costTriesWrong : ChangeSpec := { name := "costTries", fn := fun _ => fun
  | [d1, d2, d3, d4] => { results := [.lit (.bool false)], args := [d1, d2, d3, d4] }
  | _ => none }
def CostTriesWrongFalsely : Prop := costTriesRow.holds Tryz.pinned (OpenSpec.ofChange costTriesWrong)

/-- 'brackenlaw20.TrialQuiet': WHATEVER THE INPUT: true; the input reads as it did. -/
def trialQuietSpec : ChangeSpec := { name := "trialQuiet", fn := fun _ => fun
  | [d1, d2, d3, d4] => { results := [.lit (.bool true)], args := [d1, d2, d3, d4] }
  | _ => none }
def trialQuietRow : OpenClaim := { program := "ytpecnaacgkgjmaagreatdoor", sum := "ac81d67af13e26aff674d4103286175bf18a37ca3aa561d601d94c8732a8cc2e", func := "bracken/brackenlaw20.TrialQuiet", spec := "trialQuiet", inPlace := ["math/bits.Sub64", "math/bits.Add64"], unfollowed := true, recurses := true, named := ["math/bits.deBruijn32tab", "math/bits.deBruijn64tab", "math/bits.divideError", "math/bits.overflowError"], apart := false, laid := [("math/bits.deBruijn32tab", laid_math_bits_deBruijn32tab), ("math/bits.deBruijn64tab", laid_math_bits_deBruijn64tab)] }
def TrialQuietSaid : Prop := trialQuietRow.holds Tryz.pinned (OpenSpec.ofChange trialQuietSpec)

/-- ITS FALSE NEIGHBOUR: 'it returns false'. Refute it at one input. -/
def trialQuietWrong : ChangeSpec := { name := "trialQuiet", fn := fun _ => fun
  | [d1, d2, d3, d4] => { results := [.lit (.bool false)], args := [d1, d2, d3, d4] }
  | _ => none }
def TrialQuietWrongFalsely : Prop := trialQuietRow.holds Tryz.pinned (OpenSpec.ofChange trialQuietWrong)

/-- 'brackenlaw21.EngineBounds': WHATEVER THE INPUT: true; the input reads as it did. -/
def engineBoundsSpec : ChangeSpec := { name := "engineBounds", fn := fun _ => fun
  | [d1, d2] => { results := [.lit (.bool true)], args := [d1, d2] }
  | _ => none }
def engineBoundsRow : OpenClaim := { program := "ytpecnaacgkgjmaagreatdoor", sum := "ac81d67af13e26aff674d4103286175bf18a37ca3aa561d601d94c8732a8cc2e", func := "bracken/brackenlaw21.EngineBounds", spec := "engineBounds", inPlace := ["math/bits.Sub64", "math/bits.Add64"], unfollowed := true, recurses := true, named := ["math/bits.deBruijn32tab", "math/bits.deBruijn64tab", "math/bits.divideError", "math/bits.overflowError"], apart := false, laid := [("math/bits.deBruijn32tab", laid_math_bits_deBruijn32tab), ("math/bits.deBruijn64tab", laid_math_bits_deBruijn64tab)] }
def EngineBoundsSaid : Prop := engineBoundsRow.holds Tryz.pinned (OpenSpec.ofChange engineBoundsSpec)

/-- ITS FALSE NEIGHBOUR: 'it returns false'. Refute it at one input. -/
def engineBoundsWrong : ChangeSpec := { name := "engineBounds", fn := fun _ => fun
  | [d1, d2] => { results := [.lit (.bool false)], args := [d1, d2] }
  | _ => none }
def EngineBoundsWrongFalsely : Prop := engineBoundsRow.holds Tryz.pinned (OpenSpec.ofChange engineBoundsWrong)

/-- 'brackenlaw21.EngineItems': WHATEVER THE INPUT: true; the input reads as it did. -/
def engineItemsSpec : ChangeSpec := { name := "engineItems", fn := fun _ => fun
  | [d1, d2] => { results := [.lit (.bool true)], args := [d1, d2] }
  | _ => none }
def engineItemsRow : OpenClaim := { program := "ytpecnaacgkgjmaagreatdoor", sum := "ac81d67af13e26aff674d4103286175bf18a37ca3aa561d601d94c8732a8cc2e", func := "bracken/brackenlaw21.EngineItems", spec := "engineItems", inPlace := ["math/bits.Sub64", "math/bits.Add64"], unfollowed := true, recurses := true, named := ["math/bits.deBruijn32tab", "math/bits.deBruijn64tab", "math/bits.divideError", "math/bits.overflowError"], apart := false, laid := [("math/bits.deBruijn32tab", laid_math_bits_deBruijn32tab), ("math/bits.deBruijn64tab", laid_math_bits_deBruijn64tab)] }
def EngineItemsSaid : Prop := engineItemsRow.holds Tryz.pinned (OpenSpec.ofChange engineItemsSpec)

/-- ITS FALSE NEIGHBOUR: 'it returns false'. Refute it at one input. -/
def engineItemsWrong : ChangeSpec := { name := "engineItems", fn := fun _ => fun
  | [d1, d2] => { results := [.lit (.bool false)], args := [d1, d2] }
  | _ => none }
def EngineItemsWrongFalsely : Prop := engineItemsRow.holds Tryz.pinned (OpenSpec.ofChange engineItemsWrong)

/-- 'brackenlaw21.EngineMore': WHATEVER THE INPUT: true; the input reads as it did. -/
def engineMoreSpec : ChangeSpec := { name := "engineMore", fn := fun _ => fun
  | [d1, d2] => { results := [.lit (.bool true)], args := [d1, d2] }
  | _ => none }
def engineMoreRow : OpenClaim := { program := "ytpecnaacgkgjmaagreatdoor", sum := "ac81d67af13e26aff674d4103286175bf18a37ca3aa561d601d94c8732a8cc2e", func := "bracken/brackenlaw21.EngineMore", spec := "engineMore", inPlace := ["math/bits.Sub64", "math/bits.Add64"], unfollowed := true, recurses := true, named := ["math/bits.deBruijn32tab", "math/bits.deBruijn64tab", "math/bits.divideError", "math/bits.overflowError"], apart := false, laid := [("math/bits.deBruijn32tab", laid_math_bits_deBruijn32tab), ("math/bits.deBruijn64tab", laid_math_bits_deBruijn64tab)] }
def EngineMoreSaid : Prop := engineMoreRow.holds Tryz.pinned (OpenSpec.ofChange engineMoreSpec)

/-- ITS FALSE NEIGHBOUR: 'it returns false'. Refute it at one input. -/
def engineMoreWrong : ChangeSpec := { name := "engineMore", fn := fun _ => fun
  | [d1, d2] => { results := [.lit (.bool false)], args := [d1, d2] }
  | _ => none }
def EngineMoreWrongFalsely : Prop := engineMoreRow.holds Tryz.pinned (OpenSpec.ofChange engineMoreWrong)

/-- 'brackenlaw22.CostMost': WHATEVER THE INPUT: true; the input reads as it did. -/
def costMostSpec : ChangeSpec := { name := "costMost", fn := fun _ => fun
  | [d1, d2] => { results := [.lit (.bool true)], args := [d1, d2] }
  | _ => none }
def costMostRow : OpenClaim := { program := "ytpecnaacgkgjmaagreatdoor", sum := "ac81d67af13e26aff674d4103286175bf18a37ca3aa561d601d94c8732a8cc2e", func := "bracken/brackenlaw22.CostMost", spec := "costMost", inPlace := ["math/bits.Sub64", "math/bits.Add64"], unfollowed := true, recurses := true, named := ["math/bits.deBruijn32tab", "math/bits.deBruijn64tab", "math/bits.divideError", "math/bits.overflowError"], apart := false, laid := [("math/bits.deBruijn32tab", laid_math_bits_deBruijn32tab), ("math/bits.deBruijn64tab", laid_math_bits_deBruijn64tab)] }
def CostMostSaid : Prop := costMostRow.holds Tryz.pinned (OpenSpec.ofChange costMostSpec)

/-- ITS FALSE NEIGHBOUR: 'it returns false'. Refute it at one input. -/
def costMostWrong : ChangeSpec := { name := "costMost", fn := fun _ => fun
  | [d1, d2] => { results := [.lit (.bool false)], args := [d1, d2] }
  | _ => none }
def CostMostWrongFalsely : Prop := costMostRow.holds Tryz.pinned (OpenSpec.ofChange costMostWrong)

/- THE SECOND FORM. 'bulk': how many values and letters a reading holds, each counted each time it is reached (what is shared counts as often as it is met; a slice's spare places count too). A statement '..UptoSaid' is the law's where the arguments, and the package variables that the reading takes, are together of bulk at most 1048576: NARROWER than '..Said'. Prove '..Said' where nothing that the law and all that it calls make is longer than what came in: it says more and counts as full. Else prove '..UptoSaid'. A law counts once. -/
mutual
def uptoBulk {H : Type} : DataW H → Nat
  | .lit (.string bytes) => bytes.length + 1
  | .lit _ => 1
  | .nil => 1
  | .ptr d => uptoBulk d + 1
  | .slice elems spare => uptoBulkAll elems + uptoBulkAll spare + 1
  | .agg parts => uptoBulkAll parts + 1
  | .iface _ d => uptoBulk d + 1
  | .map entries => uptoBulkEntries entries + 1
  | .held _ => 1
def uptoBulkAll {H : Type} : List (DataW H) → Nat
  | [] => 0
  | d :: r => uptoBulk d + uptoBulkAll r
def uptoBulkEntries {H : Type} : List (Lit × DataW H) → Nat
  | [] => 0
  | x :: r => uptoBulkEntry x + uptoBulkEntries r
def uptoBulkEntry {H : Type} : Lit × DataW H → Nat
  | (.string bytes, d) => bytes.length + uptoBulk d + 1
  | (_, d) => uptoBulk d + 1
 end
def uptoSmall : (H : Type) → List (DataW H) → Bool := fun _ ds => decide (uptoBulkAll ds ≤ 1048576)
def OpenSpec.upto (s : _root_.Go.ChangeSpec) : _root_.Go.OpenSpec := { _root_.Go.OpenSpec.ofChange s with cond := some uptoSmall }

/-- 'brackenlaw18.PassDoes', WHERE WHAT IT READS IS OF BULK AT MOST 1048576: true; the input reads as it did. -/
def passDoesUptoRow : OpenClaim := { program := "ytpecnaacgkgjmaagreatdoor", sum := "ac81d67af13e26aff674d4103286175bf18a37ca3aa561d601d94c8732a8cc2e", func := "bracken/brackenlaw18.PassDoes", spec := "passDoes", inPlace := ["math/bits.Sub64", "math/bits.Add64"], unfollowed := true, recurses := true, named := ["math/bits.deBruijn32tab", "math/bits.deBruijn64tab", "math/bits.divideError", "math/bits.overflowError"], apart := false, laid := [("math/bits.deBruijn32tab", laid_math_bits_deBruijn32tab), ("math/bits.deBruijn64tab", laid_math_bits_deBruijn64tab)], narrowed := true }
def PassDoesUptoSaid : Prop := passDoesUptoRow.holds Tryz.pinned (OpenSpec.upto passDoesSpec)

/-- 'brackenlaw19.TurnDoes', WHERE WHAT IT READS IS OF BULK AT MOST 1048576: true; the input reads as it did. -/
def turnDoesUptoRow : OpenClaim := { program := "ytpecnaacgkgjmaagreatdoor", sum := "ac81d67af13e26aff674d4103286175bf18a37ca3aa561d601d94c8732a8cc2e", func := "bracken/brackenlaw19.TurnDoes", spec := "turnDoes", inPlace := ["math/bits.Sub64", "math/bits.Add64"], unfollowed := true, recurses := true, named := ["math/bits.deBruijn32tab", "math/bits.deBruijn64tab", "math/bits.divideError", "math/bits.overflowError"], apart := false, laid := [("math/bits.deBruijn32tab", laid_math_bits_deBruijn32tab), ("math/bits.deBruijn64tab", laid_math_bits_deBruijn64tab)], narrowed := true }
def TurnDoesUptoSaid : Prop := turnDoesUptoRow.holds Tryz.pinned (OpenSpec.upto turnDoesSpec)

/-- 'brackenlaw19.TurnOuts', WHERE WHAT IT READS IS OF BULK AT MOST 1048576: true; the input reads as it did. -/
def turnOutsUptoRow : OpenClaim := { program := "ytpecnaacgkgjmaagreatdoor", sum := "ac81d67af13e26aff674d4103286175bf18a37ca3aa561d601d94c8732a8cc2e", func := "bracken/brackenlaw19.TurnOuts", spec := "turnOuts", inPlace := ["math/bits.Sub64", "math/bits.Add64"], unfollowed := true, recurses := true, named := ["math/bits.deBruijn32tab", "math/bits.deBruijn64tab", "math/bits.divideError", "math/bits.overflowError"], apart := false, laid := [("math/bits.deBruijn32tab", laid_math_bits_deBruijn32tab), ("math/bits.deBruijn64tab", laid_math_bits_deBruijn64tab)], narrowed := true }
def TurnOutsUptoSaid : Prop := turnOutsUptoRow.holds Tryz.pinned (OpenSpec.upto turnOutsSpec)

/-- 'brackenlaw20.TrialDoes', WHERE WHAT IT READS IS OF BULK AT MOST 1048576: true; the input reads as it did. -/
def trialDoesUptoRow : OpenClaim := { program := "ytpecnaacgkgjmaagreatdoor", sum := "ac81d67af13e26aff674d4103286175bf18a37ca3aa561d601d94c8732a8cc2e", func := "bracken/brackenlaw20.TrialDoes", spec := "trialDoes", inPlace := ["math/bits.Sub64", "math/bits.Add64"], unfollowed := true, recurses := true, named := ["math/bits.deBruijn32tab", "math/bits.deBruijn64tab", "math/bits.divideError", "math/bits.overflowError"], apart := false, laid := [("math/bits.deBruijn32tab", laid_math_bits_deBruijn32tab), ("math/bits.deBruijn64tab", laid_math_bits_deBruijn64tab)], narrowed := true }
def TrialDoesUptoSaid : Prop := trialDoesUptoRow.holds Tryz.pinned (OpenSpec.upto trialDoesSpec)

/-- 'brackenlaw20.TrialBounds', WHERE WHAT IT READS IS OF BULK AT MOST 1048576: true; the input reads as it did. -/
def trialBoundsUptoRow : OpenClaim := { program := "ytpecnaacgkgjmaagreatdoor", sum := "ac81d67af13e26aff674d4103286175bf18a37ca3aa561d601d94c8732a8cc2e", func := "bracken/brackenlaw20.TrialBounds", spec := "trialBounds", inPlace := ["math/bits.Sub64", "math/bits.Add64"], unfollowed := true, recurses := true, named := ["math/bits.deBruijn32tab", "math/bits.deBruijn64tab", "math/bits.divideError", "math/bits.overflowError"], apart := false, laid := [("math/bits.deBruijn32tab", laid_math_bits_deBruijn32tab), ("math/bits.deBruijn64tab", laid_math_bits_deBruijn64tab)], narrowed := true }
def TrialBoundsUptoSaid : Prop := trialBoundsUptoRow.holds Tryz.pinned (OpenSpec.upto trialBoundsSpec)

/-- 'brackenlaw20.TrialAlone', WHERE WHAT IT READS IS OF BULK AT MOST 1048576: true; the input reads as it did. -/
def trialAloneUptoRow : OpenClaim := { program := "ytpecnaacgkgjmaagreatdoor", sum := "ac81d67af13e26aff674d4103286175bf18a37ca3aa561d601d94c8732a8cc2e", func := "bracken/brackenlaw20.TrialAlone", spec := "trialAlone", inPlace := ["math/bits.Sub64", "math/bits.Add64"], unfollowed := true, recurses := true, named := ["math/bits.deBruijn32tab", "math/bits.deBruijn64tab", "math/bits.divideError", "math/bits.overflowError"], apart := false, laid := [("math/bits.deBruijn32tab", laid_math_bits_deBruijn32tab), ("math/bits.deBruijn64tab", laid_math_bits_deBruijn64tab)], narrowed := true }
def TrialAloneUptoSaid : Prop := trialAloneUptoRow.holds Tryz.pinned (OpenSpec.upto trialAloneSpec)

/-- 'brackenlaw20.TrialApart', WHERE WHAT IT READS IS OF BULK AT MOST 1048576: true; the input reads as it did. -/
def trialApartUptoRow : OpenClaim := { program := "ytpecnaacgkgjmaagreatdoor", sum := "ac81d67af13e26aff674d4103286175bf18a37ca3aa561d601d94c8732a8cc2e", func := "bracken/brackenlaw20.TrialApart", spec := "trialApart", inPlace := ["math/bits.Sub64", "math/bits.Add64"], unfollowed := true, recurses := true, named := ["math/bits.deBruijn32tab", "math/bits.deBruijn64tab", "math/bits.divideError", "math/bits.overflowError"], apart := false, laid := [("math/bits.deBruijn32tab", laid_math_bits_deBruijn32tab), ("math/bits.deBruijn64tab", laid_math_bits_deBruijn64tab)], narrowed := true }
def TrialApartUptoSaid : Prop := trialApartUptoRow.holds Tryz.pinned (OpenSpec.upto trialApartSpec)

/-- 'brackenlaw20.TrialMore', WHERE WHAT IT READS IS OF BULK AT MOST 1048576: true; the input reads as it did. -/
def trialMoreUptoRow : OpenClaim := { program := "ytpecnaacgkgjmaagreatdoor", sum := "ac81d67af13e26aff674d4103286175bf18a37ca3aa561d601d94c8732a8cc2e", func := "bracken/brackenlaw20.TrialMore", spec := "trialMore", inPlace := ["math/bits.Sub64", "math/bits.Add64"], unfollowed := true, recurses := true, named := ["math/bits.deBruijn32tab", "math/bits.deBruijn64tab", "math/bits.divideError", "math/bits.overflowError"], apart := false, laid := [("math/bits.deBruijn32tab", laid_math_bits_deBruijn32tab), ("math/bits.deBruijn64tab", laid_math_bits_deBruijn64tab)], narrowed := true }
def TrialMoreUptoSaid : Prop := trialMoreUptoRow.holds Tryz.pinned (OpenSpec.upto trialMoreSpec)

/-- 'brackenlaw22.CostTries', WHERE WHAT IT READS IS OF BULK AT MOST 1048576: true; the input reads as it did. -/
def costTriesUptoRow : OpenClaim := { program := "ytpecnaacgkgjmaagreatdoor", sum := "ac81d67af13e26aff674d4103286175bf18a37ca3aa561d601d94c8732a8cc2e", func := "bracken/brackenlaw22.CostTries", spec := "costTries", inPlace := ["math/bits.Sub64", "math/bits.Add64"], unfollowed := true, recurses := true, named := ["math/bits.deBruijn32tab", "math/bits.deBruijn64tab", "math/bits.divideError", "math/bits.overflowError"], apart := false, laid := [("math/bits.deBruijn32tab", laid_math_bits_deBruijn32tab), ("math/bits.deBruijn64tab", laid_math_bits_deBruijn64tab)], narrowed := true }
def CostTriesUptoSaid : Prop := costTriesUptoRow.holds Tryz.pinned (OpenSpec.upto costTriesSpec)

/-- 'brackenlaw20.TrialQuiet', WHERE WHAT IT READS IS OF BULK AT MOST 1048576: true; the input reads as it did. -/
def trialQuietUptoRow : OpenClaim := { program := "ytpecnaacgkgjmaagreatdoor", sum := "ac81d67af13e26aff674d4103286175bf18a37ca3aa561d601d94c8732a8cc2e", func := "bracken/brackenlaw20.TrialQuiet", spec := "trialQuiet", inPlace := ["math/bits.Sub64", "math/bits.Add64"], unfollowed := true, recurses := true, named := ["math/bits.deBruijn32tab", "math/bits.deBruijn64tab", "math/bits.divideError", "math/bits.overflowError"], apart := false, laid := [("math/bits.deBruijn32tab", laid_math_bits_deBruijn32tab), ("math/bits.deBruijn64tab", laid_math_bits_deBruijn64tab)], narrowed := true }
def TrialQuietUptoSaid : Prop := trialQuietUptoRow.holds Tryz.pinned (OpenSpec.upto trialQuietSpec)

/-- 'brackenlaw21.EngineBounds', WHERE WHAT IT READS IS OF BULK AT MOST 1048576: true; the input reads as it did. -/
def engineBoundsUptoRow : OpenClaim := { program := "ytpecnaacgkgjmaagreatdoor", sum := "ac81d67af13e26aff674d4103286175bf18a37ca3aa561d601d94c8732a8cc2e", func := "bracken/brackenlaw21.EngineBounds", spec := "engineBounds", inPlace := ["math/bits.Sub64", "math/bits.Add64"], unfollowed := true, recurses := true, named := ["math/bits.deBruijn32tab", "math/bits.deBruijn64tab", "math/bits.divideError", "math/bits.overflowError"], apart := false, laid := [("math/bits.deBruijn32tab", laid_math_bits_deBruijn32tab), ("math/bits.deBruijn64tab", laid_math_bits_deBruijn64tab)], narrowed := true }
def EngineBoundsUptoSaid : Prop := engineBoundsUptoRow.holds Tryz.pinned (OpenSpec.upto engineBoundsSpec)

/-- 'brackenlaw21.EngineItems', WHERE WHAT IT READS IS OF BULK AT MOST 1048576: true; the input reads as it did. -/
def engineItemsUptoRow : OpenClaim := { program := "ytpecnaacgkgjmaagreatdoor", sum := "ac81d67af13e26aff674d4103286175bf18a37ca3aa561d601d94c8732a8cc2e", func := "bracken/brackenlaw21.EngineItems", spec := "engineItems", inPlace := ["math/bits.Sub64", "math/bits.Add64"], unfollowed := true, recurses := true, named := ["math/bits.deBruijn32tab", "math/bits.deBruijn64tab", "math/bits.divideError", "math/bits.overflowError"], apart := false, laid := [("math/bits.deBruijn32tab", laid_math_bits_deBruijn32tab), ("math/bits.deBruijn64tab", laid_math_bits_deBruijn64tab)], narrowed := true }
def EngineItemsUptoSaid : Prop := engineItemsUptoRow.holds Tryz.pinned (OpenSpec.upto engineItemsSpec)

/-- 'brackenlaw21.EngineMore', WHERE WHAT IT READS IS OF BULK AT MOST 1048576: true; the input reads as it did. -/
def engineMoreUptoRow : OpenClaim := { program := "ytpecnaacgkgjmaagreatdoor", sum := "ac81d67af13e26aff674d4103286175bf18a37ca3aa561d601d94c8732a8cc2e", func := "bracken/brackenlaw21.EngineMore", spec := "engineMore", inPlace := ["math/bits.Sub64", "math/bits.Add64"], unfollowed := true, recurses := true, named := ["math/bits.deBruijn32tab", "math/bits.deBruijn64tab", "math/bits.divideError", "math/bits.overflowError"], apart := false, laid := [("math/bits.deBruijn32tab", laid_math_bits_deBruijn32tab), ("math/bits.deBruijn64tab", laid_math_bits_deBruijn64tab)], narrowed := true }
def EngineMoreUptoSaid : Prop := engineMoreUptoRow.holds Tryz.pinned (OpenSpec.upto engineMoreSpec)

/-- 'brackenlaw22.CostMost', WHERE WHAT IT READS IS OF BULK AT MOST 1048576: true; the input reads as it did. -/
def costMostUptoRow : OpenClaim := { program := "ytpecnaacgkgjmaagreatdoor", sum := "ac81d67af13e26aff674d4103286175bf18a37ca3aa561d601d94c8732a8cc2e", func := "bracken/brackenlaw22.CostMost", spec := "costMost", inPlace := ["math/bits.Sub64", "math/bits.Add64"], unfollowed := true, recurses := true, named := ["math/bits.deBruijn32tab", "math/bits.deBruijn64tab", "math/bits.divideError", "math/bits.overflowError"], apart := false, laid := [("math/bits.deBruijn32tab", laid_math_bits_deBruijn32tab), ("math/bits.deBruijn64tab", laid_math_bits_deBruijn64tab)], narrowed := true }
def CostMostUptoSaid : Prop := costMostUptoRow.holds Tryz.pinned (OpenSpec.upto costMostSpec)

end Rows
end Go.Proofs.YtpecnaacgkgjmaaGreatDoor
