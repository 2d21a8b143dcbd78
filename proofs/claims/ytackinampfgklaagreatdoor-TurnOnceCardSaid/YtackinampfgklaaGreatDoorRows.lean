/-
  NARROWER THAN 'FOR EVERY INPUT', by the rows' own cells (each row's printed sentence says how): PassDoes: laid · PassSums: laid · PassTicks: laid · PassAhead: laid · PassWrites: laid · PassQuiet: laid · TurnDoes: laid · TurnTicks: laid · TurnOuts: laid · TurnLets: laid · TurnQuiet: laid · TurnOnce: laid · TurnLost: laid.
  DERIVED. THE GIVEN ROWS OF THIS SEAT. 13 by the template 'for every input the law returns true; each argument reads behind the call as it read before'; 0 by the template 'total and deterministic' (their statements: YtackinampfgklaaGreatDoorTotals.lean).
  GIVEN WITH THE SEED: the statements are not yours to turn. If you find one false, say at which input.
  Laid BY PROGRAM, IN A SANDBOX (cutbox-rows.mjs): the forced cells as the released guide's own fill.sh prints them over the translation 6634b59fdc712100… (all of the seat's roots in one cut). By AI agents, Wed Nov 11 2026. No macro, syntax, notation, axiom, sorry.
-/
import Derived.Test.YtackinampfgklaaGreatDoorChecked
import GoSem.Claim
import GoSem.ClaimJoined
import GoSem.ClaimMapViews
import Derived.JoinedTies
import Derived.KernelRfl
namespace Go.Proofs.YtackinampfgklaaGreatDoor
/- THE CELL 'sum', in the pinned program and in every row, IS THE sha256 OF THE DUMP (.gsa) THAT YtackinampfgklaaGreatDoorProg.lean LOADS. Nothing in Lean hashes anything: it is a label: what it is worth is what the hold of that sum in a sandbox is worth. -/
noncomputable def Tryz.pinned : Pinned := { name := "ytackinampfgklaagreatdoor", sum := "6634b59fdc71210069b64cb969bf3ffe8e780a47103305130ad64ab5e7a48d62", checked := Tryz.checked }
namespace Rows
def none {H : Type} : Left H := { results := [], args := [] }

/- WHAT THE LISTED PACKAGE-LEVEL VARIABLES READ AS WHEN THE CALL BEGINS. Each datum BY PROGRAM (the guide's laid-datum.mjs) off the statement by which the dump's own 'gosem.cut.vars' lays the variable. In a bare row this is a premise. The card (YtackinampfgklaaGreatDoorCards.lean) ties it to the program's text. -/
def laid_math_bits_deBruijn32tab {H : Type} : DataW H := .agg [.lit (.int .u8 0), .lit (.int .u8 1), .lit (.int .u8 28), .lit (.int .u8 2), .lit (.int .u8 29), .lit (.int .u8 14), .lit (.int .u8 24), .lit (.int .u8 3), .lit (.int .u8 30), .lit (.int .u8 22), .lit (.int .u8 20), .lit (.int .u8 15), .lit (.int .u8 25), .lit (.int .u8 17), .lit (.int .u8 4), .lit (.int .u8 8), .lit (.int .u8 31), .lit (.int .u8 27), .lit (.int .u8 13), .lit (.int .u8 23), .lit (.int .u8 21), .lit (.int .u8 19), .lit (.int .u8 16), .lit (.int .u8 7), .lit (.int .u8 26), .lit (.int .u8 12), .lit (.int .u8 18), .lit (.int .u8 6), .lit (.int .u8 11), .lit (.int .u8 5), .lit (.int .u8 10), .lit (.int .u8 9)]
def laid_math_bits_deBruijn64tab {H : Type} : DataW H := .agg [.lit (.int .u8 0), .lit (.int .u8 1), .lit (.int .u8 56), .lit (.int .u8 2), .lit (.int .u8 57), .lit (.int .u8 49), .lit (.int .u8 28), .lit (.int .u8 3), .lit (.int .u8 61), .lit (.int .u8 58), .lit (.int .u8 42), .lit (.int .u8 50), .lit (.int .u8 38), .lit (.int .u8 29), .lit (.int .u8 17), .lit (.int .u8 4), .lit (.int .u8 62), .lit (.int .u8 47), .lit (.int .u8 59), .lit (.int .u8 36), .lit (.int .u8 45), .lit (.int .u8 43), .lit (.int .u8 51), .lit (.int .u8 22), .lit (.int .u8 53), .lit (.int .u8 39), .lit (.int .u8 33), .lit (.int .u8 30), .lit (.int .u8 24), .lit (.int .u8 18), .lit (.int .u8 12), .lit (.int .u8 5), .lit (.int .u8 63), .lit (.int .u8 55), .lit (.int .u8 48), .lit (.int .u8 27), .lit (.int .u8 60), .lit (.int .u8 41), .lit (.int .u8 37), .lit (.int .u8 16), .lit (.int .u8 46), .lit (.int .u8 35), .lit (.int .u8 44), .lit (.int .u8 21), .lit (.int .u8 52), .lit (.int .u8 32), .lit (.int .u8 23), .lit (.int .u8 11), .lit (.int .u8 54), .lit (.int .u8 26), .lit (.int .u8 40), .lit (.int .u8 15), .lit (.int .u8 34), .lit (.int .u8 20), .lit (.int .u8 31), .lit (.int .u8 10), .lit (.int .u8 25), .lit (.int .u8 14), .lit (.int .u8 19), .lit (.int .u8 9), .lit (.int .u8 13), .lit (.int .u8 8), .lit (.int .u8 7), .lit (.int .u8 6)]

/-- 'brackenlaw18.PassDoes': WHATEVER THE INPUT: true; the input reads as it did. -/
def passDoesSpec : ChangeSpec := { name := "passDoes", fn := fun _ => fun
  | [d] => { results := [.lit (.bool true)], args := [d] }
  | _ => none }
def passDoesRow : OpenClaim := { program := "ytackinampfgklaagreatdoor", sum := "6634b59fdc71210069b64cb969bf3ffe8e780a47103305130ad64ab5e7a48d62", func := "bracken/brackenlaw18.PassDoes", spec := "passDoes", inPlace := ["math/bits.Sub64", "math/bits.Add64"], unfollowed := true, recurses := true, named := ["math/bits.deBruijn32tab", "math/bits.deBruijn64tab", "math/bits.divideError", "math/bits.overflowError"], apart := false, laid := [("math/bits.deBruijn32tab", laid_math_bits_deBruijn32tab), ("math/bits.deBruijn64tab", laid_math_bits_deBruijn64tab)] }
def PassDoesSaid : Prop := passDoesRow.holds Tryz.pinned (OpenSpec.ofChange passDoesSpec)

/-- ITS FALSE NEIGHBOUR: 'it returns false'. Refute it at one input. -/
def passDoesWrong : ChangeSpec := { name := "passDoes", fn := fun _ => fun
  | [d] => { results := [.lit (.bool false)], args := [d] }
  | _ => none }
def PassDoesWrongFalsely : Prop := passDoesRow.holds Tryz.pinned (OpenSpec.ofChange passDoesWrong)

/-- 'brackenlaw18.PassSums': WHATEVER THE INPUT: true; the input reads as it did. -/
def passSumsSpec : ChangeSpec := { name := "passSums", fn := fun _ => fun
  | [d] => { results := [.lit (.bool true)], args := [d] }
  | _ => none }
def passSumsRow : OpenClaim := { program := "ytackinampfgklaagreatdoor", sum := "6634b59fdc71210069b64cb969bf3ffe8e780a47103305130ad64ab5e7a48d62", func := "bracken/brackenlaw18.PassSums", spec := "passSums", inPlace := ["math/bits.Sub64", "math/bits.Add64"], unfollowed := true, recurses := true, named := ["math/bits.deBruijn32tab", "math/bits.deBruijn64tab", "math/bits.divideError", "math/bits.overflowError"], apart := false, laid := [("math/bits.deBruijn32tab", laid_math_bits_deBruijn32tab), ("math/bits.deBruijn64tab", laid_math_bits_deBruijn64tab)] }
def PassSumsSaid : Prop := passSumsRow.holds Tryz.pinned (OpenSpec.ofChange passSumsSpec)

/-- ITS FALSE NEIGHBOUR: 'it returns false'. Refute it at one input. -/
def passSumsWrong : ChangeSpec := { name := "passSums", fn := fun _ => fun
  | [d] => { results := [.lit (.bool false)], args := [d] }
  | _ => none }
def PassSumsWrongFalsely : Prop := passSumsRow.holds Tryz.pinned (OpenSpec.ofChange passSumsWrong)

/-- 'brackenlaw18.PassTicks': WHATEVER THE INPUT: true; the input reads as it did. -/
def passTicksSpec : ChangeSpec := { name := "passTicks", fn := fun _ => fun
  | [d] => { results := [.lit (.bool true)], args := [d] }
  | _ => none }
def passTicksRow : OpenClaim := { program := "ytackinampfgklaagreatdoor", sum := "6634b59fdc71210069b64cb969bf3ffe8e780a47103305130ad64ab5e7a48d62", func := "bracken/brackenlaw18.PassTicks", spec := "passTicks", inPlace := ["math/bits.Sub64", "math/bits.Add64"], unfollowed := true, recurses := true, named := ["math/bits.deBruijn32tab", "math/bits.deBruijn64tab", "math/bits.divideError", "math/bits.overflowError"], apart := false, laid := [("math/bits.deBruijn32tab", laid_math_bits_deBruijn32tab), ("math/bits.deBruijn64tab", laid_math_bits_deBruijn64tab)] }
def PassTicksSaid : Prop := passTicksRow.holds Tryz.pinned (OpenSpec.ofChange passTicksSpec)

/-- ITS FALSE NEIGHBOUR: 'it returns false'. Refute it at one input. -/
def passTicksWrong : ChangeSpec := { name := "passTicks", fn := fun _ => fun
  | [d] => { results := [.lit (.bool false)], args := [d] }
  | _ => none }
def PassTicksWrongFalsely : Prop := passTicksRow.holds Tryz.pinned (OpenSpec.ofChange passTicksWrong)

/-- 'brackenlaw18.PassAhead': WHATEVER THE INPUT: true; the input reads as it did. -/
def passAheadSpec : ChangeSpec := { name := "passAhead", fn := fun _ => fun
  | [d] => { results := [.lit (.bool true)], args := [d] }
  | _ => none }
def passAheadRow : OpenClaim := { program := "ytackinampfgklaagreatdoor", sum := "6634b59fdc71210069b64cb969bf3ffe8e780a47103305130ad64ab5e7a48d62", func := "bracken/brackenlaw18.PassAhead", spec := "passAhead", inPlace := ["math/bits.Sub64", "math/bits.Add64"], unfollowed := true, recurses := true, named := ["math/bits.deBruijn32tab", "math/bits.deBruijn64tab", "math/bits.divideError", "math/bits.overflowError"], apart := false, laid := [("math/bits.deBruijn32tab", laid_math_bits_deBruijn32tab), ("math/bits.deBruijn64tab", laid_math_bits_deBruijn64tab)] }
def PassAheadSaid : Prop := passAheadRow.holds Tryz.pinned (OpenSpec.ofChange passAheadSpec)

/-- ITS FALSE NEIGHBOUR: 'it returns false'. Refute it at one input. -/
def passAheadWrong : ChangeSpec := { name := "passAhead", fn := fun _ => fun
  | [d] => { results := [.lit (.bool false)], args := [d] }
  | _ => none }
def PassAheadWrongFalsely : Prop := passAheadRow.holds Tryz.pinned (OpenSpec.ofChange passAheadWrong)

/-- 'brackenlaw18.PassWrites': WHATEVER THE INPUT: true; the input reads as it did. -/
def passWritesSpec : ChangeSpec := { name := "passWrites", fn := fun _ => fun
  | [d] => { results := [.lit (.bool true)], args := [d] }
  | _ => none }
def passWritesRow : OpenClaim := { program := "ytackinampfgklaagreatdoor", sum := "6634b59fdc71210069b64cb969bf3ffe8e780a47103305130ad64ab5e7a48d62", func := "bracken/brackenlaw18.PassWrites", spec := "passWrites", inPlace := ["math/bits.Sub64", "math/bits.Add64"], unfollowed := true, recurses := true, named := ["math/bits.deBruijn32tab", "math/bits.deBruijn64tab", "math/bits.divideError", "math/bits.overflowError"], apart := false, laid := [("math/bits.deBruijn32tab", laid_math_bits_deBruijn32tab), ("math/bits.deBruijn64tab", laid_math_bits_deBruijn64tab)] }
def PassWritesSaid : Prop := passWritesRow.holds Tryz.pinned (OpenSpec.ofChange passWritesSpec)

/-- ITS FALSE NEIGHBOUR: 'it returns false'. Refute it at one input. -/
def passWritesWrong : ChangeSpec := { name := "passWrites", fn := fun _ => fun
  | [d] => { results := [.lit (.bool false)], args := [d] }
  | _ => none }
def PassWritesWrongFalsely : Prop := passWritesRow.holds Tryz.pinned (OpenSpec.ofChange passWritesWrong)

/-- 'brackenlaw18.PassQuiet': WHATEVER THE INPUT: true; the input reads as it did. -/
def passQuietSpec : ChangeSpec := { name := "passQuiet", fn := fun _ => fun
  | [d1, d2, d3, d4, d5] => { results := [.lit (.bool true)], args := [d1, d2, d3, d4, d5] }
  | _ => none }
def passQuietRow : OpenClaim := { program := "ytackinampfgklaagreatdoor", sum := "6634b59fdc71210069b64cb969bf3ffe8e780a47103305130ad64ab5e7a48d62", func := "bracken/brackenlaw18.PassQuiet", spec := "passQuiet", inPlace := ["math/bits.Sub64", "math/bits.Add64"], unfollowed := true, recurses := true, named := ["math/bits.deBruijn32tab", "math/bits.deBruijn64tab", "math/bits.divideError", "math/bits.overflowError"], apart := false, laid := [("math/bits.deBruijn32tab", laid_math_bits_deBruijn32tab), ("math/bits.deBruijn64tab", laid_math_bits_deBruijn64tab)] }
def PassQuietSaid : Prop := passQuietRow.holds Tryz.pinned (OpenSpec.ofChange passQuietSpec)

/-- ITS FALSE NEIGHBOUR: 'it returns false'. Refute it at one input. -/
def passQuietWrong : ChangeSpec := { name := "passQuiet", fn := fun _ => fun
  | [d1, d2, d3, d4, d5] => { results := [.lit (.bool false)], args := [d1, d2, d3, d4, d5] }
  | _ => none }
def PassQuietWrongFalsely : Prop := passQuietRow.holds Tryz.pinned (OpenSpec.ofChange passQuietWrong)

/-- 'brackenlaw19.TurnDoes': WHATEVER THE INPUT: true; the input reads as it did. -/
def turnDoesSpec : ChangeSpec := { name := "turnDoes", fn := fun _ => fun
  | [d] => { results := [.lit (.bool true)], args := [d] }
  | _ => none }
def turnDoesRow : OpenClaim := { program := "ytackinampfgklaagreatdoor", sum := "6634b59fdc71210069b64cb969bf3ffe8e780a47103305130ad64ab5e7a48d62", func := "bracken/brackenlaw19.TurnDoes", spec := "turnDoes", inPlace := ["math/bits.Sub64", "math/bits.Add64"], unfollowed := true, recurses := true, named := ["math/bits.deBruijn32tab", "math/bits.deBruijn64tab", "math/bits.divideError", "math/bits.overflowError"], apart := false, laid := [("math/bits.deBruijn32tab", laid_math_bits_deBruijn32tab), ("math/bits.deBruijn64tab", laid_math_bits_deBruijn64tab)] }
def TurnDoesSaid : Prop := turnDoesRow.holds Tryz.pinned (OpenSpec.ofChange turnDoesSpec)

/-- ITS FALSE NEIGHBOUR: 'it returns false'. Refute it at one input. -/
def turnDoesWrong : ChangeSpec := { name := "turnDoes", fn := fun _ => fun
  | [d] => { results := [.lit (.bool false)], args := [d] }
  | _ => none }
def TurnDoesWrongFalsely : Prop := turnDoesRow.holds Tryz.pinned (OpenSpec.ofChange turnDoesWrong)

/-- 'brackenlaw19.TurnTicks': WHATEVER THE INPUT: true; the input reads as it did. -/
def turnTicksSpec : ChangeSpec := { name := "turnTicks", fn := fun _ => fun
  | [d] => { results := [.lit (.bool true)], args := [d] }
  | _ => none }
def turnTicksRow : OpenClaim := { program := "ytackinampfgklaagreatdoor", sum := "6634b59fdc71210069b64cb969bf3ffe8e780a47103305130ad64ab5e7a48d62", func := "bracken/brackenlaw19.TurnTicks", spec := "turnTicks", inPlace := ["math/bits.Sub64", "math/bits.Add64"], unfollowed := true, recurses := true, named := ["math/bits.deBruijn32tab", "math/bits.deBruijn64tab", "math/bits.divideError", "math/bits.overflowError"], apart := false, laid := [("math/bits.deBruijn32tab", laid_math_bits_deBruijn32tab), ("math/bits.deBruijn64tab", laid_math_bits_deBruijn64tab)] }
def TurnTicksSaid : Prop := turnTicksRow.holds Tryz.pinned (OpenSpec.ofChange turnTicksSpec)

/-- ITS FALSE NEIGHBOUR: 'it returns false'. Refute it at one input. -/
def turnTicksWrong : ChangeSpec := { name := "turnTicks", fn := fun _ => fun
  | [d] => { results := [.lit (.bool false)], args := [d] }
  | _ => none }
def TurnTicksWrongFalsely : Prop := turnTicksRow.holds Tryz.pinned (OpenSpec.ofChange turnTicksWrong)

/-- 'brackenlaw19.TurnOuts': WHATEVER THE INPUT: true; the input reads as it did. -/
def turnOutsSpec : ChangeSpec := { name := "turnOuts", fn := fun _ => fun
  | [d1, d2, d3, d4, d5] => { results := [.lit (.bool true)], args := [d1, d2, d3, d4, d5] }
  | _ => none }
def turnOutsRow : OpenClaim := { program := "ytackinampfgklaagreatdoor", sum := "6634b59fdc71210069b64cb969bf3ffe8e780a47103305130ad64ab5e7a48d62", func := "bracken/brackenlaw19.TurnOuts", spec := "turnOuts", inPlace := ["math/bits.Sub64", "math/bits.Add64"], unfollowed := true, recurses := true, named := ["math/bits.deBruijn32tab", "math/bits.deBruijn64tab", "math/bits.divideError", "math/bits.overflowError"], apart := false, laid := [("math/bits.deBruijn32tab", laid_math_bits_deBruijn32tab), ("math/bits.deBruijn64tab", laid_math_bits_deBruijn64tab)] }
def TurnOutsSaid : Prop := turnOutsRow.holds Tryz.pinned (OpenSpec.ofChange turnOutsSpec)

/-- ITS FALSE NEIGHBOUR: 'it returns false'. Refute it at one input. -/
def turnOutsWrong : ChangeSpec := { name := "turnOuts", fn := fun _ => fun
  | [d1, d2, d3, d4, d5] => { results := [.lit (.bool false)], args := [d1, d2, d3, d4, d5] }
  | _ => none }
def TurnOutsWrongFalsely : Prop := turnOutsRow.holds Tryz.pinned (OpenSpec.ofChange turnOutsWrong)

/-- 'brackenlaw19.TurnLets': WHATEVER THE INPUT: true; the input reads as it did. -/
def turnLetsSpec : ChangeSpec := { name := "turnLets", fn := fun _ => fun
  | [d1, d2, d3] => { results := [.lit (.bool true)], args := [d1, d2, d3] }
  | _ => none }
def turnLetsRow : OpenClaim := { program := "ytackinampfgklaagreatdoor", sum := "6634b59fdc71210069b64cb969bf3ffe8e780a47103305130ad64ab5e7a48d62", func := "bracken/brackenlaw19.TurnLets", spec := "turnLets", inPlace := ["math/bits.Sub64", "math/bits.Add64"], unfollowed := true, recurses := true, named := ["math/bits.deBruijn32tab", "math/bits.deBruijn64tab", "math/bits.divideError", "math/bits.overflowError"], apart := false, laid := [("math/bits.deBruijn32tab", laid_math_bits_deBruijn32tab), ("math/bits.deBruijn64tab", laid_math_bits_deBruijn64tab)] }
def TurnLetsSaid : Prop := turnLetsRow.holds Tryz.pinned (OpenSpec.ofChange turnLetsSpec)

/-- ITS FALSE NEIGHBOUR: 'it returns false'. Refute it at one input. -/
def turnLetsWrong : ChangeSpec := { name := "turnLets", fn := fun _ => fun
  | [d1, d2, d3] => { results := [.lit (.bool false)], args := [d1, d2, d3] }
  | _ => none }
def TurnLetsWrongFalsely : Prop := turnLetsRow.holds Tryz.pinned (OpenSpec.ofChange turnLetsWrong)

/-- 'brackenlaw19.TurnQuiet': WHATEVER THE INPUT: true; the input reads as it did. -/
def turnQuietSpec : ChangeSpec := { name := "turnQuiet", fn := fun _ => fun
  | [d1, d2, d3, d4, d5] => { results := [.lit (.bool true)], args := [d1, d2, d3, d4, d5] }
  | _ => none }
def turnQuietRow : OpenClaim := { program := "ytackinampfgklaagreatdoor", sum := "6634b59fdc71210069b64cb969bf3ffe8e780a47103305130ad64ab5e7a48d62", func := "bracken/brackenlaw19.TurnQuiet", spec := "turnQuiet", inPlace := ["math/bits.Sub64", "math/bits.Add64"], unfollowed := true, recurses := true, named := ["math/bits.deBruijn32tab", "math/bits.deBruijn64tab", "math/bits.divideError", "math/bits.overflowError"], apart := false, laid := [("math/bits.deBruijn32tab", laid_math_bits_deBruijn32tab), ("math/bits.deBruijn64tab", laid_math_bits_deBruijn64tab)] }
def TurnQuietSaid : Prop := turnQuietRow.holds Tryz.pinned (OpenSpec.ofChange turnQuietSpec)

/-- ITS FALSE NEIGHBOUR: 'it returns false'. Refute it at one input. -/
def turnQuietWrong : ChangeSpec := { name := "turnQuiet", fn := fun _ => fun
  | [d1, d2, d3, d4, d5] => { results := [.lit (.bool false)], args := [d1, d2, d3, d4, d5] }
  | _ => none }
def TurnQuietWrongFalsely : Prop := turnQuietRow.holds Tryz.pinned (OpenSpec.ofChange turnQuietWrong)

/-- 'brackenlaw19.TurnOnce': WHATEVER THE INPUT: true; the input reads as it did. -/
def turnOnceSpec : ChangeSpec := { name := "turnOnce", fn := fun _ => fun
  | [d1, d2, d3, d4, d5, d6] => { results := [.lit (.bool true)], args := [d1, d2, d3, d4, d5, d6] }
  | _ => none }
def turnOnceRow : OpenClaim := { program := "ytackinampfgklaagreatdoor", sum := "6634b59fdc71210069b64cb969bf3ffe8e780a47103305130ad64ab5e7a48d62", func := "bracken/brackenlaw19.TurnOnce", spec := "turnOnce", inPlace := ["math/bits.Sub64", "math/bits.Add64"], unfollowed := true, recurses := true, named := ["math/bits.deBruijn32tab", "math/bits.deBruijn64tab", "math/bits.divideError", "math/bits.overflowError"], apart := false, laid := [("math/bits.deBruijn32tab", laid_math_bits_deBruijn32tab), ("math/bits.deBruijn64tab", laid_math_bits_deBruijn64tab)] }
def TurnOnceSaid : Prop := turnOnceRow.holds Tryz.pinned (OpenSpec.ofChange turnOnceSpec)

/-- ITS FALSE NEIGHBOUR: 'it returns false'. Refute it at one input. -/
def turnOnceWrong : ChangeSpec := { name := "turnOnce", fn := fun _ => fun
  | [d1, d2, d3, d4, d5, d6] => { results := [.lit (.bool false)], args := [d1, d2, d3, d4, d5, d6] }
  | _ => none }
def TurnOnceWrongFalsely : Prop := turnOnceRow.holds Tryz.pinned (OpenSpec.ofChange turnOnceWrong)

/-- 'brackenlaw19.TurnLost': WHATEVER THE INPUT: true; the input reads as it did. -/
def turnLostSpec : ChangeSpec := { name := "turnLost", fn := fun _ => fun
  | [d1, d2, d3, d4, d5] => { results := [.lit (.bool true)], args := [d1, d2, d3, d4, d5] }
  | _ => none }
def turnLostRow : OpenClaim := { program := "ytackinampfgklaagreatdoor", sum := "6634b59fdc71210069b64cb969bf3ffe8e780a47103305130ad64ab5e7a48d62", func := "bracken/brackenlaw19.TurnLost", spec := "turnLost", inPlace := ["math/bits.Sub64", "math/bits.Add64"], unfollowed := true, recurses := true, named := ["math/bits.deBruijn32tab", "math/bits.deBruijn64tab", "math/bits.divideError", "math/bits.overflowError"], apart := false, laid := [("math/bits.deBruijn32tab", laid_math_bits_deBruijn32tab), ("math/bits.deBruijn64tab", laid_math_bits_deBruijn64tab)] }
def TurnLostSaid : Prop := turnLostRow.holds Tryz.pinned (OpenSpec.ofChange turnLostSpec)

/-- ITS FALSE NEIGHBOUR: 'it returns false'. Refute it at one input. -/
def turnLostWrong : ChangeSpec := { name := "turnLost", fn := fun _ => fun
  | [d1, d2, d3, d4, d5] => { results := [.lit (.bool false)], args := [d1, d2, d3, d4, d5] }
  | _ => none }
def TurnLostWrongFalsely : Prop := turnLostRow.holds Tryz.pinned (OpenSpec.ofChange turnLostWrong)

/- THE SECOND FORM. 'bulk': how many values and letters a reading holds, each counted each time it is reached (what is shared counts as often as it is met; a slice's spare places count too). A statement '..UptoSaid' is the law's where the arguments, and the package variables that the reading takes, are together of bulk at most 1048576: NARROWER than '..Said'. Prove '..Said' where nothing that the law and all that it calls make is longer than what came in: it says more and counts as full. Else prove '..UptoSaid'. A law counts once. -/
mutual
def uptoBulk {H : Type} : DataW H → Nat
  | .lit (.string bytes) => bytes.length + 1
  | .lit _ => 1
  | .nil => 1
  | .ptr d => uptoBulk d + 1
  | .slice elems spare => uptoBulkAll elems + uptoBulkAll spare + 1
  | .agg parts => uptoBulkAll parts + 1
  | .iface _ d => uptoBulk d + 1
  | .map entries => uptoBulkEntries entries + 1
  | .held _ => 1
def uptoBulkAll {H : Type} : List (DataW H) → Nat
  | [] => 0
  | d :: r => uptoBulk d + uptoBulkAll r
def uptoBulkEntries {H : Type} : List (Lit × DataW H) → Nat
  | [] => 0
  | x :: r => uptoBulkEntry x + uptoBulkEntries r
def uptoBulkEntry {H : Type} : Lit × DataW H → Nat
  | (.string bytes, d) => bytes.length + uptoBulk d + 1
  | (_, d) => uptoBulk d + 1
 end
def uptoSmall : (H : Type) → List (DataW H) → Bool := fun _ ds => decide (uptoBulkAll ds ≤ 1048576)
def OpenSpec.upto (s : _root_.Go.ChangeSpec) : _root_.Go.OpenSpec := { _root_.Go.OpenSpec.ofChange s with cond := some uptoSmall }

/-- 'brackenlaw18.PassDoes', WHERE WHAT IT READS IS OF BULK AT MOST 1048576: true; the input reads as it did. -/
def passDoesUptoRow : OpenClaim := { program := "ytackinampfgklaagreatdoor", sum := "6634b59fdc71210069b64cb969bf3ffe8e780a47103305130ad64ab5e7a48d62", func := "bracken/brackenlaw18.PassDoes", spec := "passDoes", inPlace := ["math/bits.Sub64", "math/bits.Add64"], unfollowed := true, recurses := true, named := ["math/bits.deBruijn32tab", "math/bits.deBruijn64tab", "math/bits.divideError", "math/bits.overflowError"], apart := false, laid := [("math/bits.deBruijn32tab", laid_math_bits_deBruijn32tab), ("math/bits.deBruijn64tab", laid_math_bits_deBruijn64tab)], narrowed := true }
def PassDoesUptoSaid : Prop := passDoesUptoRow.holds Tryz.pinned (OpenSpec.upto passDoesSpec)

/-- 'brackenlaw18.PassSums', WHERE WHAT IT READS IS OF BULK AT MOST 1048576: true; the input reads as it did. -/
def passSumsUptoRow : OpenClaim := { program := "ytackinampfgklaagreatdoor", sum := "6634b59fdc71210069b64cb969bf3ffe8e780a47103305130ad64ab5e7a48d62", func := "bracken/brackenlaw18.PassSums", spec := "passSums", inPlace := ["math/bits.Sub64", "math/bits.Add64"], unfollowed := true, recurses := true, named := ["math/bits.deBruijn32tab", "math/bits.deBruijn64tab", "math/bits.divideError", "math/bits.overflowError"], apart := false, laid := [("math/bits.deBruijn32tab", laid_math_bits_deBruijn32tab), ("math/bits.deBruijn64tab", laid_math_bits_deBruijn64tab)], narrowed := true }
def PassSumsUptoSaid : Prop := passSumsUptoRow.holds Tryz.pinned (OpenSpec.upto passSumsSpec)

/-- 'brackenlaw18.PassTicks', WHERE WHAT IT READS IS OF BULK AT MOST 1048576: true; the input reads as it did. -/
def passTicksUptoRow : OpenClaim := { program := "ytackinampfgklaagreatdoor", sum := "6634b59fdc71210069b64cb969bf3ffe8e780a47103305130ad64ab5e7a48d62", func := "bracken/brackenlaw18.PassTicks", spec := "passTicks", inPlace := ["math/bits.Sub64", "math/bits.Add64"], unfollowed := true, recurses := true, named := ["math/bits.deBruijn32tab", "math/bits.deBruijn64tab", "math/bits.divideError", "math/bits.overflowError"], apart := false, laid := [("math/bits.deBruijn32tab", laid_math_bits_deBruijn32tab), ("math/bits.deBruijn64tab", laid_math_bits_deBruijn64tab)], narrowed := true }
def PassTicksUptoSaid : Prop := passTicksUptoRow.holds Tryz.pinned (OpenSpec.upto passTicksSpec)

/-- 'brackenlaw18.PassAhead', WHERE WHAT IT READS IS OF BULK AT MOST 1048576: true; the input reads as it did. -/
def passAheadUptoRow : OpenClaim := { program := "ytackinampfgklaagreatdoor", sum := "6634b59fdc71210069b64cb969bf3ffe8e780a47103305130ad64ab5e7a48d62", func := "bracken/brackenlaw18.PassAhead", spec := "passAhead", inPlace := ["math/bits.Sub64", "math/bits.Add64"], unfollowed := true, recurses := true, named := ["math/bits.deBruijn32tab", "math/bits.deBruijn64tab", "math/bits.divideError", "math/bits.overflowError"], apart := false, laid := [("math/bits.deBruijn32tab", laid_math_bits_deBruijn32tab), ("math/bits.deBruijn64tab", laid_math_bits_deBruijn64tab)], narrowed := true }
def PassAheadUptoSaid : Prop := passAheadUptoRow.holds Tryz.pinned (OpenSpec.upto passAheadSpec)

/-- 'brackenlaw18.PassWrites', WHERE WHAT IT READS IS OF BULK AT MOST 1048576: true; the input reads as it did. -/
def passWritesUptoRow : OpenClaim := { program := "ytackinampfgklaagreatdoor", sum := "6634b59fdc71210069b64cb969bf3ffe8e780a47103305130ad64ab5e7a48d62", func := "bracken/brackenlaw18.PassWrites", spec := "passWrites", inPlace := ["math/bits.Sub64", "math/bits.Add64"], unfollowed := true, recurses := true, named := ["math/bits.deBruijn32tab", "math/bits.deBruijn64tab", "math/bits.divideError", "math/bits.overflowError"], apart := false, laid := [("math/bits.deBruijn32tab", laid_math_bits_deBruijn32tab), ("math/bits.deBruijn64tab", laid_math_bits_deBruijn64tab)], narrowed := true }
def PassWritesUptoSaid : Prop := passWritesUptoRow.holds Tryz.pinned (OpenSpec.upto passWritesSpec)

/-- 'brackenlaw18.PassQuiet', WHERE WHAT IT READS IS OF BULK AT MOST 1048576: true; the input reads as it did. -/
def passQuietUptoRow : OpenClaim := { program := "ytackinampfgklaagreatdoor", sum := "6634b59fdc71210069b64cb969bf3ffe8e780a47103305130ad64ab5e7a48d62", func := "bracken/brackenlaw18.PassQuiet", spec := "passQuiet", inPlace := ["math/bits.Sub64", "math/bits.Add64"], unfollowed := true, recurses := true, named := ["math/bits.deBruijn32tab", "math/bits.deBruijn64tab", "math/bits.divideError", "math/bits.overflowError"], apart := false, laid := [("math/bits.deBruijn32tab", laid_math_bits_deBruijn32tab), ("math/bits.deBruijn64tab", laid_math_bits_deBruijn64tab)], narrowed := true }
def PassQuietUptoSaid : Prop := passQuietUptoRow.holds Tryz.pinned (OpenSpec.upto passQuietSpec)

/-- 'brackenlaw19.TurnDoes', WHERE WHAT IT READS IS OF BULK AT MOST 1048576: true; the input reads as it did. -/
def turnDoesUptoRow : OpenClaim := { program := "ytackinampfgklaagreatdoor", sum := "6634b59fdc71210069b64cb969bf3ffe8e780a47103305130ad64ab5e7a48d62", func := "bracken/brackenlaw19.TurnDoes", spec := "turnDoes", inPlace := ["math/bits.Sub64", "math/bits.Add64"], unfollowed := true, recurses := true, named := ["math/bits.deBruijn32tab", "math/bits.deBruijn64tab", "math/bits.divideError", "math/bits.overflowError"], apart := false, laid := [("math/bits.deBruijn32tab", laid_math_bits_deBruijn32tab), ("math/bits.deBruijn64tab", laid_math_bits_deBruijn64tab)], narrowed := true }
def TurnDoesUptoSaid : Prop := turnDoesUptoRow.holds Tryz.pinned (OpenSpec.upto turnDoesSpec)

/-- 'brackenlaw19.TurnTicks', WHERE WHAT IT READS IS OF BULK AT MOST 1048576: true; the input reads as it did. -/
def turnTicksUptoRow : OpenClaim := { program := "ytackinampfgklaagreatdoor", sum := "6634b59fdc71210069b64cb969bf3ffe8e780a47103305130ad64ab5e7a48d62", func := "bracken/brackenlaw19.TurnTicks", spec := "turnTicks", inPlace := ["math/bits.Sub64", "math/bits.Add64"], unfollowed := true, recurses := true, named := ["math/bits.deBruijn32tab", "math/bits.deBruijn64tab", "math/bits.divideError", "math/bits.overflowError"], apart := false, laid := [("math/bits.deBruijn32tab", laid_math_bits_deBruijn32tab), ("math/bits.deBruijn64tab", laid_math_bits_deBruijn64tab)], narrowed := true }
def TurnTicksUptoSaid : Prop := turnTicksUptoRow.holds Tryz.pinned (OpenSpec.upto turnTicksSpec)

/-- 'brackenlaw19.TurnOuts', WHERE WHAT IT READS IS OF BULK AT MOST 1048576: true; the input reads as it did. -/
def turnOutsUptoRow : OpenClaim := { program := "ytackinampfgklaagreatdoor", sum := "6634b59fdc71210069b64cb969bf3ffe8e780a47103305130ad64ab5e7a48d62", func := "bracken/brackenlaw19.TurnOuts", spec := "turnOuts", inPlace := ["math/bits.Sub64", "math/bits.Add64"], unfollowed := true, recurses := true, named := ["math/bits.deBruijn32tab", "math/bits.deBruijn64tab", "math/bits.divideError", "math/bits.overflowError"], apart := false, laid := [("math/bits.deBruijn32tab", laid_math_bits_deBruijn32tab), ("math/bits.deBruijn64tab", laid_math_bits_deBruijn64tab)], narrowed := true }
def TurnOutsUptoSaid : Prop := turnOutsUptoRow.holds Tryz.pinned (OpenSpec.upto turnOutsSpec)

/-- 'brackenlaw19.TurnLets', WHERE WHAT IT READS IS OF BULK AT MOST 1048576: true; the input reads as it did. -/
def turnLetsUptoRow : OpenClaim := { program := "ytackinampfgklaagreatdoor", sum := "6634b59fdc71210069b64cb969bf3ffe8e780a47103305130ad64ab5e7a48d62", func := "bracken/brackenlaw19.TurnLets", spec := "turnLets", inPlace := ["math/bits.Sub64", "math/bits.Add64"], unfollowed := true, recurses := true, named := ["math/bits.deBruijn32tab", "math/bits.deBruijn64tab", "math/bits.divideError", "math/bits.overflowError"], apart := false, laid := [("math/bits.deBruijn32tab", laid_math_bits_deBruijn32tab), ("math/bits.deBruijn64tab", laid_math_bits_deBruijn64tab)], narrowed := true }
def TurnLetsUptoSaid : Prop := turnLetsUptoRow.holds Tryz.pinned (OpenSpec.upto turnLetsSpec)

/-- 'brackenlaw19.TurnQuiet', WHERE WHAT IT READS IS OF BULK AT MOST 1048576: true; the input reads as it did. -/
def turnQuietUptoRow : OpenClaim := { program := "ytackinampfgklaagreatdoor", sum := "6634b59fdc71210069b64cb969bf3ffe8e780a47103305130ad64ab5e7a48d62", func := "bracken/brackenlaw19.TurnQuiet", spec := "turnQuiet", inPlace := ["math/bits.Sub64", "math/bits.Add64"], unfollowed := true, recurses := true, named := ["math/bits.deBruijn32tab", "math/bits.deBruijn64tab", "math/bits.divideError", "math/bits.overflowError"], apart := false, laid := [("math/bits.deBruijn32tab", laid_math_bits_deBruijn32tab), ("math/bits.deBruijn64tab", laid_math_bits_deBruijn64tab)], narrowed := true }
def TurnQuietUptoSaid : Prop := turnQuietUptoRow.holds Tryz.pinned (OpenSpec.upto turnQuietSpec)

/-- 'brackenlaw19.TurnOnce', WHERE WHAT IT READS IS OF BULK AT MOST 1048576: true; the input reads as it did. -/
def turnOnceUptoRow : OpenClaim := { program := "ytackinampfgklaagreatdoor", sum := "6634b59fdc71210069b64cb969bf3ffe8e780a47103305130ad64ab5e7a48d62", func := "bracken/brackenlaw19.TurnOnce", spec := "turnOnce", inPlace := ["math/bits.Sub64", "math/bits.Add64"], unfollowed := true, recurses := true, named := ["math/bits.deBruijn32tab", "math/bits.deBruijn64tab", "math/bits.divideError", "math/bits.overflowError"], apart := false, laid := [("math/bits.deBruijn32tab", laid_math_bits_deBruijn32tab), ("math/bits.deBruijn64tab", laid_math_bits_deBruijn64tab)], narrowed := true }
def TurnOnceUptoSaid : Prop := turnOnceUptoRow.holds Tryz.pinned (OpenSpec.upto turnOnceSpec)

/-- 'brackenlaw19.TurnLost', WHERE WHAT IT READS IS OF BULK AT MOST 1048576: true; the input reads as it did. -/
def turnLostUptoRow : OpenClaim := { program := "ytackinampfgklaagreatdoor", sum := "6634b59fdc71210069b64cb969bf3ffe8e780a47103305130ad64ab5e7a48d62", func := "bracken/brackenlaw19.TurnLost", spec := "turnLost", inPlace := ["math/bits.Sub64", "math/bits.Add64"], unfollowed := true, recurses := true, named := ["math/bits.deBruijn32tab", "math/bits.deBruijn64tab", "math/bits.divideError", "math/bits.overflowError"], apart := false, laid := [("math/bits.deBruijn32tab", laid_math_bits_deBruijn32tab), ("math/bits.deBruijn64tab", laid_math_bits_deBruijn64tab)], narrowed := true }
def TurnLostUptoSaid : Prop := turnLostUptoRow.holds Tryz.pinned (OpenSpec.upto turnLostSpec)

end Rows
end Go.Proofs.YtackinampfgklaaGreatDoor
