/-
  DERIVED. GIVEN WITH THE SEED: THE CARDS: each row of YtackinampfgklaaDoorRows.lean that lists a variable, with what it lists TIED to the program's text (the seventh form; the later family's looks); each row that meets fmt, with fmt's text TOLD by the authors' own Lean function (tested against real Go, not proved from fmt's source: count such statements apart). THE CARD IS WHAT COUNTS. Prove the row's statement (the work); the ties are given (YtackinampfgklaaDoorTie.lean); close each card by the builder's one call (the guide's Derived/Test/ToyasCard.lean, 'card_holds'). Laid BY PROGRAM, IN A SANDBOX (cutbox-door.mjs). By AI agents, Wed Nov 11 2026. No macro, syntax, notation, axiom, sorry.
-/
import Derived.Test.YtackinampfgklaaDoorRows
import GoSem.ClaimSeven
namespace Go.Proofs.YtackinampfgklaaDoor
namespace Rows

/-- THE TIED CARD OF 'brackenlaw18.PassThere'. -/
def passThereCard : Claim7 := { stood := { row := passThereRow, standIns := [], harness := (true, "8e9a9e9e99743842300b0355a366e6444504552d7d5103ad9d07f179bf633930"), looks := true }, kinds := [], alts := [], laidByText := true, laidKinds := [.data, .data], laidTests := true, laidLooks := .later }
def PassThereCardSaid : Prop := Claim7.holds Tryd.pinned (.plain (OpenSpec.ofChange passThereSpec)) passThereCard

/-- THE SECOND FORM's CARD OF 'brackenlaw18.PassThere'. -/
def passThereUptoCard : Claim7 := { stood := { row := passThereUptoRow, standIns := [], harness := (true, "8e9a9e9e99743842300b0355a366e6444504552d7d5103ad9d07f179bf633930"), looks := true }, kinds := [], alts := [], laidByText := true, laidKinds := [.data, .data], laidTests := true, laidLooks := .later }
def PassThereUptoCardSaid : Prop := Claim7.holds Tryd.pinned (.plain (OpenSpec.upto passThereSpec)) passThereUptoCard
end Rows
end Go.Proofs.YtackinampfgklaaDoor
