/-
  DERIVED. GIVEN WITH THE SEED: THE CARDS: each row of YtackinampfgklaaGreatDoorRows.lean that lists a variable, with what it lists TIED to the program's text (the seventh form; the later family's looks); each row that meets fmt, with fmt's text TOLD by the authors' own Lean function (tested against real Go, not proved from fmt's source: count such statements apart). THE CARD IS WHAT COUNTS. Prove the row's statement (the work); the ties are given (YtackinampfgklaaGreatDoorTie.lean); close each card by the builder's one call (the guide's Derived/Test/ToyasCard.lean, 'card_holds'). Laid BY PROGRAM, IN A SANDBOX (cutbox-door.mjs). By AI agents, Wed Nov 11 2026. No macro, syntax, notation, axiom, sorry.
-/
import Derived.Test.YtackinampfgklaaGreatDoorRows
import GoSem.ClaimSeven
namespace Go.Proofs.YtackinampfgklaaGreatDoor
namespace Rows

/-- THE TIED CARD OF 'brackenlaw18.PassDoes'. -/
def passDoesCard : Claim7 := { stood := { row := passDoesRow, standIns := [], harness := (true, "201aeff565d29d2380bb8b07c0f8e255d85d5935231db5185a59d90e18f96d6e"), looks := true }, kinds := [], alts := [], laidByText := true, laidKinds := [.data, .data], laidTests := true, laidLooks := .later }
def PassDoesCardSaid : Prop := Claim7.holds Tryz.pinned (.plain (OpenSpec.ofChange passDoesSpec)) passDoesCard

/-- THE TIED CARD OF 'brackenlaw18.PassSums'. -/
def passSumsCard : Claim7 := { stood := { row := passSumsRow, standIns := [], harness := (true, "201aeff565d29d2380bb8b07c0f8e255d85d5935231db5185a59d90e18f96d6e"), looks := true }, kinds := [], alts := [], laidByText := true, laidKinds := [.data, .data], laidTests := true, laidLooks := .later }
def PassSumsCardSaid : Prop := Claim7.holds Tryz.pinned (.plain (OpenSpec.ofChange passSumsSpec)) passSumsCard

/-- THE TIED CARD OF 'brackenlaw18.PassTicks'. -/
def passTicksCard : Claim7 := { stood := { row := passTicksRow, standIns := [], harness := (true, "201aeff565d29d2380bb8b07c0f8e255d85d5935231db5185a59d90e18f96d6e"), looks := true }, kinds := [], alts := [], laidByText := true, laidKinds := [.data, .data], laidTests := true, laidLooks := .later }
def PassTicksCardSaid : Prop := Claim7.holds Tryz.pinned (.plain (OpenSpec.ofChange passTicksSpec)) passTicksCard

/-- THE TIED CARD OF 'brackenlaw18.PassAhead'. -/
def passAheadCard : Claim7 := { stood := { row := passAheadRow, standIns := [], harness := (true, "201aeff565d29d2380bb8b07c0f8e255d85d5935231db5185a59d90e18f96d6e"), looks := true }, kinds := [], alts := [], laidByText := true, laidKinds := [.data, .data], laidTests := true, laidLooks := .later }
def PassAheadCardSaid : Prop := Claim7.holds Tryz.pinned (.plain (OpenSpec.ofChange passAheadSpec)) passAheadCard

/-- THE TIED CARD OF 'brackenlaw18.PassWrites'. -/
def passWritesCard : Claim7 := { stood := { row := passWritesRow, standIns := [], harness := (true, "201aeff565d29d2380bb8b07c0f8e255d85d5935231db5185a59d90e18f96d6e"), looks := true }, kinds := [], alts := [], laidByText := true, laidKinds := [.data, .data], laidTests := true, laidLooks := .later }
def PassWritesCardSaid : Prop := Claim7.holds Tryz.pinned (.plain (OpenSpec.ofChange passWritesSpec)) passWritesCard

/-- THE TIED CARD OF 'brackenlaw18.PassQuiet'. -/
def passQuietCard : Claim7 := { stood := { row := passQuietRow, standIns := [], harness := (true, "201aeff565d29d2380bb8b07c0f8e255d85d5935231db5185a59d90e18f96d6e"), looks := true }, kinds := [], alts := [], laidByText := true, laidKinds := [.data, .data], laidTests := true, laidLooks := .later }
def PassQuietCardSaid : Prop := Claim7.holds Tryz.pinned (.plain (OpenSpec.ofChange passQuietSpec)) passQuietCard

/-- THE TIED CARD OF 'brackenlaw19.TurnDoes'. -/
def turnDoesCard : Claim7 := { stood := { row := turnDoesRow, standIns := [], harness := (true, "201aeff565d29d2380bb8b07c0f8e255d85d5935231db5185a59d90e18f96d6e"), looks := true }, kinds := [], alts := [], laidByText := true, laidKinds := [.data, .data], laidTests := true, laidLooks := .later }
def TurnDoesCardSaid : Prop := Claim7.holds Tryz.pinned (.plain (OpenSpec.ofChange turnDoesSpec)) turnDoesCard

/-- THE TIED CARD OF 'brackenlaw19.TurnTicks'. -/
def turnTicksCard : Claim7 := { stood := { row := turnTicksRow, standIns := [], harness := (true, "201aeff565d29d2380bb8b07c0f8e255d85d5935231db5185a59d90e18f96d6e"), looks := true }, kinds := [], alts := [], laidByText := true, laidKinds := [.data, .data], laidTests := true, laidLooks := .later }
def TurnTicksCardSaid : Prop := Claim7.holds Tryz.pinned (.plain (OpenSpec.ofChange turnTicksSpec)) turnTicksCard

/-- THE TIED CARD OF 'brackenlaw19.TurnOuts'. -/
def turnOutsCard : Claim7 := { stood := { row := turnOutsRow, standIns := [], harness := (true, "201aeff565d29d2380bb8b07c0f8e255d85d5935231db5185a59d90e18f96d6e"), looks := true }, kinds := [], alts := [], laidByText := true, laidKinds := [.data, .data], laidTests := true, laidLooks := .later }
def TurnOutsCardSaid : Prop := Claim7.holds Tryz.pinned (.plain (OpenSpec.ofChange turnOutsSpec)) turnOutsCard

/-- THE TIED CARD OF 'brackenlaw19.TurnLets'. -/
def turnLetsCard : Claim7 := { stood := { row := turnLetsRow, standIns := [], harness := (true, "201aeff565d29d2380bb8b07c0f8e255d85d5935231db5185a59d90e18f96d6e"), looks := true }, kinds := [], alts := [], laidByText := true, laidKinds := [.data, .data], laidTests := true, laidLooks := .later }
def TurnLetsCardSaid : Prop := Claim7.holds Tryz.pinned (.plain (OpenSpec.ofChange turnLetsSpec)) turnLetsCard

/-- THE TIED CARD OF 'brackenlaw19.TurnQuiet'. -/
def turnQuietCard : Claim7 := { stood := { row := turnQuietRow, standIns := [], harness := (true, "201aeff565d29d2380bb8b07c0f8e255d85d5935231db5185a59d90e18f96d6e"), looks := true }, kinds := [], alts := [], laidByText := true, laidKinds := [.data, .data], laidTests := true, laidLooks := .later }
def TurnQuietCardSaid : Prop := Claim7.holds Tryz.pinned (.plain (OpenSpec.ofChange turnQuietSpec)) turnQuietCard

/-- THE TIED CARD OF 'brackenlaw19.TurnOnce'. -/
def turnOnceCard : Claim7 := { stood := { row := turnOnceRow, standIns := [], harness := (true, "201aeff565d29d2380bb8b07c0f8e255d85d5935231db5185a59d90e18f96d6e"), looks := true }, kinds := [], alts := [], laidByText := true, laidKinds := [.data, .data], laidTests := true, laidLooks := .later }
def TurnOnceCardSaid : Prop := Claim7.holds Tryz.pinned (.plain (OpenSpec.ofChange turnOnceSpec)) turnOnceCard

/-- THE TIED CARD OF 'brackenlaw19.TurnLost'. -/
def turnLostCard : Claim7 := { stood := { row := turnLostRow, standIns := [], harness := (true, "201aeff565d29d2380bb8b07c0f8e255d85d5935231db5185a59d90e18f96d6e"), looks := true }, kinds := [], alts := [], laidByText := true, laidKinds := [.data, .data], laidTests := true, laidLooks := .later }
def TurnLostCardSaid : Prop := Claim7.holds Tryz.pinned (.plain (OpenSpec.ofChange turnLostSpec)) turnLostCard

/-- THE SECOND FORM's CARD OF 'brackenlaw18.PassDoes'. -/
def passDoesUptoCard : Claim7 := { stood := { row := passDoesUptoRow, standIns := [], harness := (true, "201aeff565d29d2380bb8b07c0f8e255d85d5935231db5185a59d90e18f96d6e"), looks := true }, kinds := [], alts := [], laidByText := true, laidKinds := [.data, .data], laidTests := true, laidLooks := .later }
def PassDoesUptoCardSaid : Prop := Claim7.holds Tryz.pinned (.plain (OpenSpec.upto passDoesSpec)) passDoesUptoCard

/-- THE SECOND FORM's CARD OF 'brackenlaw18.PassSums'. -/
def passSumsUptoCard : Claim7 := { stood := { row := passSumsUptoRow, standIns := [], harness := (true, "201aeff565d29d2380bb8b07c0f8e255d85d5935231db5185a59d90e18f96d6e"), looks := true }, kinds := [], alts := [], laidByText := true, laidKinds := [.data, .data], laidTests := true, laidLooks := .later }
def PassSumsUptoCardSaid : Prop := Claim7.holds Tryz.pinned (.plain (OpenSpec.upto passSumsSpec)) passSumsUptoCard

/-- THE SECOND FORM's CARD OF 'brackenlaw18.PassTicks'. -/
def passTicksUptoCard : Claim7 := { stood := { row := passTicksUptoRow, standIns := [], harness := (true, "201aeff565d29d2380bb8b07c0f8e255d85d5935231db5185a59d90e18f96d6e"), looks := true }, kinds := [], alts := [], laidByText := true, laidKinds := [.data, .data], laidTests := true, laidLooks := .later }
def PassTicksUptoCardSaid : Prop := Claim7.holds Tryz.pinned (.plain (OpenSpec.upto passTicksSpec)) passTicksUptoCard

/-- THE SECOND FORM's CARD OF 'brackenlaw18.PassAhead'. -/
def passAheadUptoCard : Claim7 := { stood := { row := passAheadUptoRow, standIns := [], harness := (true, "201aeff565d29d2380bb8b07c0f8e255d85d5935231db5185a59d90e18f96d6e"), looks := true }, kinds := [], alts := [], laidByText := true, laidKinds := [.data, .data], laidTests := true, laidLooks := .later }
def PassAheadUptoCardSaid : Prop := Claim7.holds Tryz.pinned (.plain (OpenSpec.upto passAheadSpec)) passAheadUptoCard

/-- THE SECOND FORM's CARD OF 'brackenlaw18.PassWrites'. -/
def passWritesUptoCard : Claim7 := { stood := { row := passWritesUptoRow, standIns := [], harness := (true, "201aeff565d29d2380bb8b07c0f8e255d85d5935231db5185a59d90e18f96d6e"), looks := true }, kinds := [], alts := [], laidByText := true, laidKinds := [.data, .data], laidTests := true, laidLooks := .later }
def PassWritesUptoCardSaid : Prop := Claim7.holds Tryz.pinned (.plain (OpenSpec.upto passWritesSpec)) passWritesUptoCard

/-- THE SECOND FORM's CARD OF 'brackenlaw18.PassQuiet'. -/
def passQuietUptoCard : Claim7 := { stood := { row := passQuietUptoRow, standIns := [], harness := (true, "201aeff565d29d2380bb8b07c0f8e255d85d5935231db5185a59d90e18f96d6e"), looks := true }, kinds := [], alts := [], laidByText := true, laidKinds := [.data, .data], laidTests := true, laidLooks := .later }
def PassQuietUptoCardSaid : Prop := Claim7.holds Tryz.pinned (.plain (OpenSpec.upto passQuietSpec)) passQuietUptoCard

/-- THE SECOND FORM's CARD OF 'brackenlaw19.TurnDoes'. -/
def turnDoesUptoCard : Claim7 := { stood := { row := turnDoesUptoRow, standIns := [], harness := (true, "201aeff565d29d2380bb8b07c0f8e255d85d5935231db5185a59d90e18f96d6e"), looks := true }, kinds := [], alts := [], laidByText := true, laidKinds := [.data, .data], laidTests := true, laidLooks := .later }
def TurnDoesUptoCardSaid : Prop := Claim7.holds Tryz.pinned (.plain (OpenSpec.upto turnDoesSpec)) turnDoesUptoCard

/-- THE SECOND FORM's CARD OF 'brackenlaw19.TurnTicks'. -/
def turnTicksUptoCard : Claim7 := { stood := { row := turnTicksUptoRow, standIns := [], harness := (true, "201aeff565d29d2380bb8b07c0f8e255d85d5935231db5185a59d90e18f96d6e"), looks := true }, kinds := [], alts := [], laidByText := true, laidKinds := [.data, .data], laidTests := true, laidLooks := .later }
def TurnTicksUptoCardSaid : Prop := Claim7.holds Tryz.pinned (.plain (OpenSpec.upto turnTicksSpec)) turnTicksUptoCard

/-- THE SECOND FORM's CARD OF 'brackenlaw19.TurnOuts'. -/
def turnOutsUptoCard : Claim7 := { stood := { row := turnOutsUptoRow, standIns := [], harness := (true, "201aeff565d29d2380bb8b07c0f8e255d85d5935231db5185a59d90e18f96d6e"), looks := true }, kinds := [], alts := [], laidByText := true, laidKinds := [.data, .data], laidTests := true, laidLooks := .later }
def TurnOutsUptoCardSaid : Prop := Claim7.holds Tryz.pinned (.plain (OpenSpec.upto turnOutsSpec)) turnOutsUptoCard

/-- THE SECOND FORM's CARD OF 'brackenlaw19.TurnLets'. -/
def turnLetsUptoCard : Claim7 := { stood := { row := turnLetsUptoRow, standIns := [], harness := (true, "201aeff565d29d2380bb8b07c0f8e255d85d5935231db5185a59d90e18f96d6e"), looks := true }, kinds := [], alts := [], laidByText := true, laidKinds := [.data, .data], laidTests := true, laidLooks := .later }
def TurnLetsUptoCardSaid : Prop := Claim7.holds Tryz.pinned (.plain (OpenSpec.upto turnLetsSpec)) turnLetsUptoCard

/-- THE SECOND FORM's CARD OF 'brackenlaw19.TurnQuiet'. -/
def turnQuietUptoCard : Claim7 := { stood := { row := turnQuietUptoRow, standIns := [], harness := (true, "201aeff565d29d2380bb8b07c0f8e255d85d5935231db5185a59d90e18f96d6e"), looks := true }, kinds := [], alts := [], laidByText := true, laidKinds := [.data, .data], laidTests := true, laidLooks := .later }
def TurnQuietUptoCardSaid : Prop := Claim7.holds Tryz.pinned (.plain (OpenSpec.upto turnQuietSpec)) turnQuietUptoCard

/-- THE SECOND FORM's CARD OF 'brackenlaw19.TurnOnce'. -/
def turnOnceUptoCard : Claim7 := { stood := { row := turnOnceUptoRow, standIns := [], harness := (true, "201aeff565d29d2380bb8b07c0f8e255d85d5935231db5185a59d90e18f96d6e"), looks := true }, kinds := [], alts := [], laidByText := true, laidKinds := [.data, .data], laidTests := true, laidLooks := .later }
def TurnOnceUptoCardSaid : Prop := Claim7.holds Tryz.pinned (.plain (OpenSpec.upto turnOnceSpec)) turnOnceUptoCard

/-- THE SECOND FORM's CARD OF 'brackenlaw19.TurnLost'. -/
def turnLostUptoCard : Claim7 := { stood := { row := turnLostUptoRow, standIns := [], harness := (true, "201aeff565d29d2380bb8b07c0f8e255d85d5935231db5185a59d90e18f96d6e"), looks := true }, kinds := [], alts := [], laidByText := true, laidKinds := [.data, .data], laidTests := true, laidLooks := .later }
def TurnLostUptoCardSaid : Prop := Claim7.holds Tryz.pinned (.plain (OpenSpec.upto turnLostSpec)) turnLostUptoCard
end Rows
end Go.Proofs.YtackinampfgklaaGreatDoor
