/-
  DERIVED. GIVEN WITH THE SEED: THE CARDS: each row of YtpecnaacgkgjmaaGreatDoorRows.lean that lists a variable, with what it lists TIED to the program's text (the seventh form; the later family's looks); each row that meets fmt, with fmt's text TOLD by the authors' own Lean function (tested against real Go, not proved from fmt's source: count such statements apart). THE CARD IS WHAT COUNTS. Prove the row's statement (the work); the ties are given (YtpecnaacgkgjmaaGreatDoorTie.lean); close each card by the builder's one call (the guide's Derived/Test/ToyasCard.lean, 'card_holds'). Laid BY PROGRAM, IN A SANDBOX (cutbox-door.mjs). By AI agents, Wed Nov 11 2026. No macro, syntax, notation, axiom, sorry.
-/
import Derived.Test.YtpecnaacgkgjmaaGreatDoorRows
import GoSem.ClaimSeven
namespace Go.Proofs.YtpecnaacgkgjmaaGreatDoor
namespace Rows

/-- THE TIED CARD OF 'brackenlaw18.PassDoes'. -/
def passDoesCard : Claim7 := { stood := { row := passDoesRow, standIns := [], harness := (true, "50421443ed03684a1a74ea7b08b4f622b7ca57c0161bf614025a3e15efc885e6"), looks := true }, kinds := [], alts := [], laidByText := true, laidKinds := [.data, .data], laidTests := true, laidLooks := .later }
def PassDoesCardSaid : Prop := Claim7.holds Tryz.pinned (.plain (OpenSpec.ofChange passDoesSpec)) passDoesCard

/-- THE TIED CARD OF 'brackenlaw19.TurnDoes'. -/
def turnDoesCard : Claim7 := { stood := { row := turnDoesRow, standIns := [], harness := (true, "50421443ed03684a1a74ea7b08b4f622b7ca57c0161bf614025a3e15efc885e6"), looks := true }, kinds := [], alts := [], laidByText := true, laidKinds := [.data, .data], laidTests := true, laidLooks := .later }
def TurnDoesCardSaid : Prop := Claim7.holds Tryz.pinned (.plain (OpenSpec.ofChange turnDoesSpec)) turnDoesCard

/-- THE TIED CARD OF 'brackenlaw19.TurnOuts'. -/
def turnOutsCard : Claim7 := { stood := { row := turnOutsRow, standIns := [], harness := (true, "50421443ed03684a1a74ea7b08b4f622b7ca57c0161bf614025a3e15efc885e6"), looks := true }, kinds := [], alts := [], laidByText := true, laidKinds := [.data, .data], laidTests := true, laidLooks := .later }
def TurnOutsCardSaid : Prop := Claim7.holds Tryz.pinned (.plain (OpenSpec.ofChange turnOutsSpec)) turnOutsCard

/-- THE TIED CARD OF 'brackenlaw20.TrialDoes'. -/
def trialDoesCard : Claim7 := { stood := { row := trialDoesRow, standIns := [], harness := (true, "50421443ed03684a1a74ea7b08b4f622b7ca57c0161bf614025a3e15efc885e6"), looks := true }, kinds := [], alts := [], laidByText := true, laidKinds := [.data, .data], laidTests := true, laidLooks := .later }
def TrialDoesCardSaid : Prop := Claim7.holds Tryz.pinned (.plain (OpenSpec.ofChange trialDoesSpec)) trialDoesCard

/-- THE TIED CARD OF 'brackenlaw20.TrialBounds'. -/
def trialBoundsCard : Claim7 := { stood := { row := trialBoundsRow, standIns := [], harness := (true, "50421443ed03684a1a74ea7b08b4f622b7ca57c0161bf614025a3e15efc885e6"), looks := true }, kinds := [], alts := [], laidByText := true, laidKinds := [.data, .data], laidTests := true, laidLooks := .later }
def TrialBoundsCardSaid : Prop := Claim7.holds Tryz.pinned (.plain (OpenSpec.ofChange trialBoundsSpec)) trialBoundsCard

/-- THE TIED CARD OF 'brackenlaw20.TrialAlone'. -/
def trialAloneCard : Claim7 := { stood := { row := trialAloneRow, standIns := [], harness := (true, "50421443ed03684a1a74ea7b08b4f622b7ca57c0161bf614025a3e15efc885e6"), looks := true }, kinds := [], alts := [], laidByText := true, laidKinds := [.data, .data], laidTests := true, laidLooks := .later }
def TrialAloneCardSaid : Prop := Claim7.holds Tryz.pinned (.plain (OpenSpec.ofChange trialAloneSpec)) trialAloneCard

/-- THE TIED CARD OF 'brackenlaw20.TrialApart'. -/
def trialApartCard : Claim7 := { stood := { row := trialApartRow, standIns := [], harness := (true, "50421443ed03684a1a74ea7b08b4f622b7ca57c0161bf614025a3e15efc885e6"), looks := true }, kinds := [], alts := [], laidByText := true, laidKinds := [.data, .data], laidTests := true, laidLooks := .later }
def TrialApartCardSaid : Prop := Claim7.holds Tryz.pinned (.plain (OpenSpec.ofChange trialApartSpec)) trialApartCard

/-- THE TIED CARD OF 'brackenlaw20.TrialMore'. -/
def trialMoreCard : Claim7 := { stood := { row := trialMoreRow, standIns := [], harness := (true, "50421443ed03684a1a74ea7b08b4f622b7ca57c0161bf614025a3e15efc885e6"), looks := true }, kinds := [], alts := [], laidByText := true, laidKinds := [.data, .data], laidTests := true, laidLooks := .later }
def TrialMoreCardSaid : Prop := Claim7.holds Tryz.pinned (.plain (OpenSpec.ofChange trialMoreSpec)) trialMoreCard

/-- THE TIED CARD OF 'brackenlaw22.CostTries'. -/
def costTriesCard : Claim7 := { stood := { row := costTriesRow, standIns := [], harness := (true, "50421443ed03684a1a74ea7b08b4f622b7ca57c0161bf614025a3e15efc885e6"), looks := true }, kinds := [], alts := [], laidByText := true, laidKinds := [.data, .data], laidTests := true, laidLooks := .later }
def CostTriesCardSaid : Prop := Claim7.holds Tryz.pinned (.plain (OpenSpec.ofChange costTriesSpec)) costTriesCard

/-- THE TIED CARD OF 'brackenlaw20.TrialQuiet'. -/
def trialQuietCard : Claim7 := { stood := { row := trialQuietRow, standIns := [], harness := (true, "50421443ed03684a1a74ea7b08b4f622b7ca57c0161bf614025a3e15efc885e6"), looks := true }, kinds := [], alts := [], laidByText := true, laidKinds := [.data, .data], laidTests := true, laidLooks := .later }
def TrialQuietCardSaid : Prop := Claim7.holds Tryz.pinned (.plain (OpenSpec.ofChange trialQuietSpec)) trialQuietCard

/-- THE TIED CARD OF 'brackenlaw21.EngineBounds'. -/
def engineBoundsCard : Claim7 := { stood := { row := engineBoundsRow, standIns := [], harness := (true, "50421443ed03684a1a74ea7b08b4f622b7ca57c0161bf614025a3e15efc885e6"), looks := true }, kinds := [], alts := [], laidByText := true, laidKinds := [.data, .data], laidTests := true, laidLooks := .later }
def EngineBoundsCardSaid : Prop := Claim7.holds Tryz.pinned (.plain (OpenSpec.ofChange engineBoundsSpec)) engineBoundsCard

/-- THE TIED CARD OF 'brackenlaw21.EngineItems'. -/
def engineItemsCard : Claim7 := { stood := { row := engineItemsRow, standIns := [], harness := (true, "50421443ed03684a1a74ea7b08b4f622b7ca57c0161bf614025a3e15efc885e6"), looks := true }, kinds := [], alts := [], laidByText := true, laidKinds := [.data, .data], laidTests := true, laidLooks := .later }
def EngineItemsCardSaid : Prop := Claim7.holds Tryz.pinned (.plain (OpenSpec.ofChange engineItemsSpec)) engineItemsCard

/-- THE TIED CARD OF 'brackenlaw21.EngineMore'. -/
def engineMoreCard : Claim7 := { stood := { row := engineMoreRow, standIns := [], harness := (true, "50421443ed03684a1a74ea7b08b4f622b7ca57c0161bf614025a3e15efc885e6"), looks := true }, kinds := [], alts := [], laidByText := true, laidKinds := [.data, .data], laidTests := true, laidLooks := .later }
def EngineMoreCardSaid : Prop := Claim7.holds Tryz.pinned (.plain (OpenSpec.ofChange engineMoreSpec)) engineMoreCard

/-- THE TIED CARD OF 'brackenlaw22.CostMost'. -/
def costMostCard : Claim7 := { stood := { row := costMostRow, standIns := [], harness := (true, "50421443ed03684a1a74ea7b08b4f622b7ca57c0161bf614025a3e15efc885e6"), looks := true }, kinds := [], alts := [], laidByText := true, laidKinds := [.data, .data], laidTests := true, laidLooks := .later }
def CostMostCardSaid : Prop := Claim7.holds Tryz.pinned (.plain (OpenSpec.ofChange costMostSpec)) costMostCard

/-- THE SECOND FORM's CARD OF 'brackenlaw18.PassDoes'. -/
def passDoesUptoCard : Claim7 := { stood := { row := passDoesUptoRow, standIns := [], harness := (true, "50421443ed03684a1a74ea7b08b4f622b7ca57c0161bf614025a3e15efc885e6"), looks := true }, kinds := [], alts := [], laidByText := true, laidKinds := [.data, .data], laidTests := true, laidLooks := .later }
def PassDoesUptoCardSaid : Prop := Claim7.holds Tryz.pinned (.plain (OpenSpec.upto passDoesSpec)) passDoesUptoCard

/-- THE SECOND FORM's CARD OF 'brackenlaw19.TurnDoes'. -/
def turnDoesUptoCard : Claim7 := { stood := { row := turnDoesUptoRow, standIns := [], harness := (true, "50421443ed03684a1a74ea7b08b4f622b7ca57c0161bf614025a3e15efc885e6"), looks := true }, kinds := [], alts := [], laidByText := true, laidKinds := [.data, .data], laidTests := true, laidLooks := .later }
def TurnDoesUptoCardSaid : Prop := Claim7.holds Tryz.pinned (.plain (OpenSpec.upto turnDoesSpec)) turnDoesUptoCard

/-- THE SECOND FORM's CARD OF 'brackenlaw19.TurnOuts'. -/
def turnOutsUptoCard : Claim7 := { stood := { row := turnOutsUptoRow, standIns := [], harness := (true, "50421443ed03684a1a74ea7b08b4f622b7ca57c0161bf614025a3e15efc885e6"), looks := true }, kinds := [], alts := [], laidByText := true, laidKinds := [.data, .data], laidTests := true, laidLooks := .later }
def TurnOutsUptoCardSaid : Prop := Claim7.holds Tryz.pinned (.plain (OpenSpec.upto turnOutsSpec)) turnOutsUptoCard

/-- THE SECOND FORM's CARD OF 'brackenlaw20.TrialDoes'. -/
def trialDoesUptoCard : Claim7 := { stood := { row := trialDoesUptoRow, standIns := [], harness := (true, "50421443ed03684a1a74ea7b08b4f622b7ca57c0161bf614025a3e15efc885e6"), looks := true }, kinds := [], alts := [], laidByText := true, laidKinds := [.data, .data], laidTests := true, laidLooks := .later }
def TrialDoesUptoCardSaid : Prop := Claim7.holds Tryz.pinned (.plain (OpenSpec.upto trialDoesSpec)) trialDoesUptoCard

/-- THE SECOND FORM's CARD OF 'brackenlaw20.TrialBounds'. -/
def trialBoundsUptoCard : Claim7 := { stood := { row := trialBoundsUptoRow, standIns := [], harness := (true, "50421443ed03684a1a74ea7b08b4f622b7ca57c0161bf614025a3e15efc885e6"), looks := true }, kinds := [], alts := [], laidByText := true, laidKinds := [.data, .data], laidTests := true, laidLooks := .later }
def TrialBoundsUptoCardSaid : Prop := Claim7.holds Tryz.pinned (.plain (OpenSpec.upto trialBoundsSpec)) trialBoundsUptoCard

/-- THE SECOND FORM's CARD OF 'brackenlaw20.TrialAlone'. -/
def trialAloneUptoCard : Claim7 := { stood := { row := trialAloneUptoRow, standIns := [], harness := (true, "50421443ed03684a1a74ea7b08b4f622b7ca57c0161bf614025a3e15efc885e6"), looks := true }, kinds := [], alts := [], laidByText := true, laidKinds := [.data, .data], laidTests := true, laidLooks := .later }
def TrialAloneUptoCardSaid : Prop := Claim7.holds Tryz.pinned (.plain (OpenSpec.upto trialAloneSpec)) trialAloneUptoCard

/-- THE SECOND FORM's CARD OF 'brackenlaw20.TrialApart'. -/
def trialApartUptoCard : Claim7 := { stood := { row := trialApartUptoRow, standIns := [], harness := (true, "50421443ed03684a1a74ea7b08b4f622b7ca57c0161bf614025a3e15efc885e6"), looks := true }, kinds := [], alts := [], laidByText := true, laidKinds := [.data, .data], laidTests := true, laidLooks := .later }
def TrialApartUptoCardSaid : Prop := Claim7.holds Tryz.pinned (.plain (OpenSpec.upto trialApartSpec)) trialApartUptoCard

/-- THE SECOND FORM's CARD OF 'brackenlaw20.TrialMore'. -/
def trialMoreUptoCard : Claim7 := { stood := { row := trialMoreUptoRow, standIns := [], harness := (true, "50421443ed03684a1a74ea7b08b4f622b7ca57c0161bf614025a3e15efc885e6"), looks := true }, kinds := [], alts := [], laidByText := true, laidKinds := [.data, .data], laidTests := true, laidLooks := .later }
def TrialMoreUptoCardSaid : Prop := Claim7.holds Tryz.pinned (.plain (OpenSpec.upto trialMoreSpec)) trialMoreUptoCard

/-- THE SECOND FORM's CARD OF 'brackenlaw22.CostTries'. -/
def costTriesUptoCard : Claim7 := { stood := { row := costTriesUptoRow, standIns := [], harness := (true, "50421443ed03684a1a74ea7b08b4f622b7ca57c0161bf614025a3e15efc885e6"), looks := true }, kinds := [], alts := [], laidByText := true, laidKinds := [.data, .data], laidTests := true, laidLooks := .later }
def CostTriesUptoCardSaid : Prop := Claim7.holds Tryz.pinned (.plain (OpenSpec.upto costTriesSpec)) costTriesUptoCard

/-- THE SECOND FORM's CARD OF 'brackenlaw20.TrialQuiet'. -/
def trialQuietUptoCard : Claim7 := { stood := { row := trialQuietUptoRow, standIns := [], harness := (true, "50421443ed03684a1a74ea7b08b4f622b7ca57c0161bf614025a3e15efc885e6"), looks := true }, kinds := [], alts := [], laidByText := true, laidKinds := [.data, .data], laidTests := true, laidLooks := .later }
def TrialQuietUptoCardSaid : Prop := Claim7.holds Tryz.pinned (.plain (OpenSpec.upto trialQuietSpec)) trialQuietUptoCard

/-- THE SECOND FORM's CARD OF 'brackenlaw21.EngineBounds'. -/
def engineBoundsUptoCard : Claim7 := { stood := { row := engineBoundsUptoRow, standIns := [], harness := (true, "50421443ed03684a1a74ea7b08b4f622b7ca57c0161bf614025a3e15efc885e6"), looks := true }, kinds := [], alts := [], laidByText := true, laidKinds := [.data, .data], laidTests := true, laidLooks := .later }
def EngineBoundsUptoCardSaid : Prop := Claim7.holds Tryz.pinned (.plain (OpenSpec.upto engineBoundsSpec)) engineBoundsUptoCard

/-- THE SECOND FORM's CARD OF 'brackenlaw21.EngineItems'. -/
def engineItemsUptoCard : Claim7 := { stood := { row := engineItemsUptoRow, standIns := [], harness := (true, "50421443ed03684a1a74ea7b08b4f622b7ca57c0161bf614025a3e15efc885e6"), looks := true }, kinds := [], alts := [], laidByText := true, laidKinds := [.data, .data], laidTests := true, laidLooks := .later }
def EngineItemsUptoCardSaid : Prop := Claim7.holds Tryz.pinned (.plain (OpenSpec.upto engineItemsSpec)) engineItemsUptoCard

/-- THE SECOND FORM's CARD OF 'brackenlaw21.EngineMore'. -/
def engineMoreUptoCard : Claim7 := { stood := { row := engineMoreUptoRow, standIns := [], harness := (true, "50421443ed03684a1a74ea7b08b4f622b7ca57c0161bf614025a3e15efc885e6"), looks := true }, kinds := [], alts := [], laidByText := true, laidKinds := [.data, .data], laidTests := true, laidLooks := .later }
def EngineMoreUptoCardSaid : Prop := Claim7.holds Tryz.pinned (.plain (OpenSpec.upto engineMoreSpec)) engineMoreUptoCard

/-- THE SECOND FORM's CARD OF 'brackenlaw22.CostMost'. -/
def costMostUptoCard : Claim7 := { stood := { row := costMostUptoRow, standIns := [], harness := (true, "50421443ed03684a1a74ea7b08b4f622b7ca57c0161bf614025a3e15efc885e6"), looks := true }, kinds := [], alts := [], laidByText := true, laidKinds := [.data, .data], laidTests := true, laidLooks := .later }
def CostMostUptoCardSaid : Prop := Claim7.holds Tryz.pinned (.plain (OpenSpec.upto costMostSpec)) costMostUptoCard
end Rows
end Go.Proofs.YtpecnaacgkgjmaaGreatDoor
