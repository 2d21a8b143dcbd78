/-
  DERIVED. GIVEN WITH THE SEED: THE CARDS: each row of YtcilfgedcnehfaaGreatDoorRows.lean that lists a variable, with what it lists TIED to the program's text (the seventh form; the later family's looks); each row that meets fmt, with fmt's text TOLD by the authors' own Lean function (tested against real Go, not proved from fmt's source: count such statements apart). THE CARD IS WHAT COUNTS. Prove the row's statement (the work); the ties are given (YtcilfgedcnehfaaGreatDoorTie.lean); close each card by the builder's one call (the guide's Derived/Test/ToyasCard.lean, 'card_holds'). Laid BY PROGRAM, IN A SANDBOX (cutbox-door.mjs). By AI agents, Wed Nov 11 2026. No macro, syntax, notation, axiom, sorry.
-/
import Derived.Test.YtcilfgedcnehfaaGreatDoorRows
import GoSem.ClaimSeven
namespace Go.Proofs.YtcilfgedcnehfaaGreatDoor
namespace Rows

/-- THE TIED CARD OF 'brackenlaw24.AuditDoes'. -/
def auditDoesCard : Claim7 := { stood := { row := auditDoesRow, standIns := [], harness := (true, "e20c004f1548ac9e1a35b27f6b0507ff5dd09d8db4a8b90507f3d156391d9f01"), looks := false }, kinds := [], alts := [], laidByText := true, laidKinds := [.data, .data], laidTests := true, laidLooks := .later }
def AuditDoesCardSaid : Prop := Claim7.holds Tryz.pinned (.plain (OpenSpec.ofChange auditDoesSpec)) auditDoesCard

/-- THE TIED CARD OF 'brackenlaw23.SparseDoes'. -/
def sparseDoesCard : Claim7 := { stood := { row := sparseDoesRow, standIns := [], harness := (true, "e20c004f1548ac9e1a35b27f6b0507ff5dd09d8db4a8b90507f3d156391d9f01"), looks := false }, kinds := [], alts := [], laidByText := true, laidKinds := [.data, .data], laidTests := true, laidLooks := .later }
def SparseDoesCardSaid : Prop := Claim7.holds Tryz.pinned (.plain (OpenSpec.ofChange sparseDoesSpec)) sparseDoesCard

/-- THE SECOND FORM's CARD OF 'brackenlaw24.AuditDoes'. -/
def auditDoesUptoCard : Claim7 := { stood := { row := auditDoesUptoRow, standIns := [], harness := (true, "e20c004f1548ac9e1a35b27f6b0507ff5dd09d8db4a8b90507f3d156391d9f01"), looks := false }, kinds := [], alts := [], laidByText := true, laidKinds := [.data, .data], laidTests := true, laidLooks := .later }
def AuditDoesUptoCardSaid : Prop := Claim7.holds Tryz.pinned (.plain (OpenSpec.upto auditDoesSpec)) auditDoesUptoCard

/-- THE SECOND FORM's CARD OF 'brackenlaw23.SparseDoes'. -/
def sparseDoesUptoCard : Claim7 := { stood := { row := sparseDoesUptoRow, standIns := [], harness := (true, "e20c004f1548ac9e1a35b27f6b0507ff5dd09d8db4a8b90507f3d156391d9f01"), looks := false }, kinds := [], alts := [], laidByText := true, laidKinds := [.data, .data], laidTests := true, laidLooks := .later }
def SparseDoesUptoCardSaid : Prop := Claim7.holds Tryz.pinned (.plain (OpenSpec.upto sparseDoesSpec)) sparseDoesUptoCard
end Rows
end Go.Proofs.YtcilfgedcnehfaaGreatDoor
