/-
  DERIVED. GIVEN WITH THE SEED: THE CARDS: each row of YtcilfgedcnehfaaDoorRows.lean that lists a variable, with what it lists TIED to the program's text (the seventh form; the later family's looks); each row that meets fmt, with fmt's text TOLD by the authors' own Lean function (tested against real Go, not proved from fmt's source: count such statements apart). THE CARD IS WHAT COUNTS. Prove the row's statement (the work); the ties are given (YtcilfgedcnehfaaDoorTie.lean); close each card by the builder's one call (the guide's Derived/Test/ToyasCard.lean, 'card_holds'). Laid BY PROGRAM, IN A SANDBOX (cutbox-door.mjs). By AI agents, Wed Nov 11 2026. No macro, syntax, notation, axiom, sorry.
-/
import Derived.Test.YtcilfgedcnehfaaDoorRows
import GoSem.ClaimSeven
namespace Go.Proofs.YtcilfgedcnehfaaDoor
namespace Rows

/-- THE TIED CARD OF 'brackenlaw22.CostParts'. -/
def costPartsCard : Claim7 := { stood := { row := costPartsRow, standIns := [], harness := (true, "5b0df6862130fd308edc44dc78fc22971b23a6bed1f5a35c389e49c998fb684e"), looks := false }, kinds := [], alts := [], laidByText := true, laidKinds := [.data, .data], laidTests := true, laidLooks := .later }
def CostPartsCardSaid : Prop := Claim7.holds Tryd.pinned (.plain (OpenSpec.ofChange costPartsSpec)) costPartsCard

/-- THE TIED CARD OF 'brackenlaw22.CostDoes'. -/
def costDoesCard : Claim7 := { stood := { row := costDoesRow, standIns := [], harness := (true, "5b0df6862130fd308edc44dc78fc22971b23a6bed1f5a35c389e49c998fb684e"), looks := false }, kinds := [], alts := [], laidByText := true, laidKinds := [.data, .data], laidTests := true, laidLooks := .later }
def CostDoesCardSaid : Prop := Claim7.holds Tryd.pinned (.plain (OpenSpec.ofChange costDoesSpec)) costDoesCard

/-- THE TIED CARD OF 'brackenlaw22.CostGrows'. -/
def costGrowsCard : Claim7 := { stood := { row := costGrowsRow, standIns := [], harness := (true, "5b0df6862130fd308edc44dc78fc22971b23a6bed1f5a35c389e49c998fb684e"), looks := false }, kinds := [], alts := [], laidByText := true, laidKinds := [.data, .data], laidTests := true, laidLooks := .later }
def CostGrowsCardSaid : Prop := Claim7.holds Tryd.pinned (.plain (OpenSpec.ofChange costGrowsSpec)) costGrowsCard

/-- THE TIED CARD OF 'brackenlaw23.SparseLess'. -/
def sparseLessCard : Claim7 := { stood := { row := sparseLessRow, standIns := [], harness := (true, "5b0df6862130fd308edc44dc78fc22971b23a6bed1f5a35c389e49c998fb684e"), looks := false }, kinds := [], alts := [], laidByText := true, laidKinds := [.data, .data], laidTests := true, laidLooks := .later }
def SparseLessCardSaid : Prop := Claim7.holds Tryd.pinned (.plain (OpenSpec.ofChange sparseLessSpec)) sparseLessCard

/-- THE SECOND FORM's CARD OF 'brackenlaw22.CostParts'. -/
def costPartsUptoCard : Claim7 := { stood := { row := costPartsUptoRow, standIns := [], harness := (true, "5b0df6862130fd308edc44dc78fc22971b23a6bed1f5a35c389e49c998fb684e"), looks := false }, kinds := [], alts := [], laidByText := true, laidKinds := [.data, .data], laidTests := true, laidLooks := .later }
def CostPartsUptoCardSaid : Prop := Claim7.holds Tryd.pinned (.plain (OpenSpec.upto costPartsSpec)) costPartsUptoCard

/-- THE SECOND FORM's CARD OF 'brackenlaw22.CostDoes'. -/
def costDoesUptoCard : Claim7 := { stood := { row := costDoesUptoRow, standIns := [], harness := (true, "5b0df6862130fd308edc44dc78fc22971b23a6bed1f5a35c389e49c998fb684e"), looks := false }, kinds := [], alts := [], laidByText := true, laidKinds := [.data, .data], laidTests := true, laidLooks := .later }
def CostDoesUptoCardSaid : Prop := Claim7.holds Tryd.pinned (.plain (OpenSpec.upto costDoesSpec)) costDoesUptoCard

/-- THE SECOND FORM's CARD OF 'brackenlaw22.CostGrows'. -/
def costGrowsUptoCard : Claim7 := { stood := { row := costGrowsUptoRow, standIns := [], harness := (true, "5b0df6862130fd308edc44dc78fc22971b23a6bed1f5a35c389e49c998fb684e"), looks := false }, kinds := [], alts := [], laidByText := true, laidKinds := [.data, .data], laidTests := true, laidLooks := .later }
def CostGrowsUptoCardSaid : Prop := Claim7.holds Tryd.pinned (.plain (OpenSpec.upto costGrowsSpec)) costGrowsUptoCard

/-- THE SECOND FORM's CARD OF 'brackenlaw23.SparseLess'. -/
def sparseLessUptoCard : Claim7 := { stood := { row := sparseLessUptoRow, standIns := [], harness := (true, "5b0df6862130fd308edc44dc78fc22971b23a6bed1f5a35c389e49c998fb684e"), looks := false }, kinds := [], alts := [], laidByText := true, laidKinds := [.data, .data], laidTests := true, laidLooks := .later }
def SparseLessUptoCardSaid : Prop := Claim7.holds Tryd.pinned (.plain (OpenSpec.upto sparseLessSpec)) sparseLessUptoCard
end Rows
end Go.Proofs.YtcilfgedcnehfaaDoor
