/-
  No cell of these rows narrows 'for every input' (looked for: loops, veiled, ifaces, maps, wideKeys, modest, calm, conditions, laid).
  DERIVED. THE GIVEN ROWS OF THIS SEAT. 9 by the template 'for every input the law returns true; each argument reads behind the call as it read before'; 0 by the template 'total and deterministic' (their statements: YtcilfgedcnehfaaTotals.lean).
  GIVEN WITH THE SEED: the statements are not yours to turn. If you find one false, say at which input.
  Laid BY PROGRAM, IN A SANDBOX (cutbox-rows.mjs): the forced cells as the released guide's own fill.sh prints them over the translation d92a80e39d12a830… (all of the seat's roots in one cut). By AI agents, Wed Nov 11 2026. No macro, syntax, notation, axiom, sorry.
-/
import Derived.Test.YtcilfgedcnehfaaChecked
import GoSem.Claim
import GoSem.ClaimJoined
import GoSem.ClaimMapViews
import Derived.JoinedTies
import Derived.KernelRfl
namespace Go.Proofs.Ytcilfgedcnehfaa
/- THE CELL 'sum', in the pinned program and in every row, IS THE sha256 OF THE DUMP (.gsa) THAT YtcilfgedcnehfaaProg.lean LOADS. Nothing in Lean hashes anything: it is a label: what it is worth is what the hold of that sum in a sandbox is worth. -/
noncomputable def Try.pinned : Pinned := { name := "ytcilfgedcnehfaa", sum := "d92a80e39d12a83072fa902211f9dd4d1308c365b69560b57a8ccc63eecf4fb1", checked := Try.checked }
namespace Rows
def none {H : Type} : Left H := { results := [], args := [] }

/-- 'brackenlaw24.AuditLess': WHATEVER THE INPUT: true; the input reads as it did. -/
def auditLessSpec : ChangeSpec := { name := "auditLess", fn := fun _ => fun
  | [d1, d2, d3, d4] => { results := [.lit (.bool true)], args := [d1, d2, d3, d4] }
  | _ => none }
def auditLessRow : OpenClaim := { program := "ytcilfgedcnehfaa", sum := "d92a80e39d12a83072fa902211f9dd4d1308c365b69560b57a8ccc63eecf4fb1", func := "bracken/brackenlaw24.AuditLess", spec := "auditLess", unfollowed := true, recurses := true, plainKeys := false, apart := false }
def AuditLessSaid : Prop := auditLessRow.holds Try.pinned (OpenSpec.ofChange auditLessSpec)

/-- ITS FALSE NEIGHBOUR: 'it returns false'. Refute it at one input. -/
def auditLessWrong : ChangeSpec := { name := "auditLess", fn := fun _ => fun
  | [d1, d2, d3, d4] => { results := [.lit (.bool false)], args := [d1, d2, d3, d4] }
  | _ => none }
def AuditLessWrongFalsely : Prop := auditLessRow.holds Try.pinned (OpenSpec.ofChange auditLessWrong)

/-- 'brackenlaw23.SparseThin': WHATEVER THE INPUT: true; the input reads as it did. -/
def sparseThinSpec : ChangeSpec := { name := "sparseThin", fn := fun _ => fun
  | [d] => { results := [.lit (.bool true)], args := [d] }
  | _ => none }
def sparseThinRow : OpenClaim := { program := "ytcilfgedcnehfaa", sum := "d92a80e39d12a83072fa902211f9dd4d1308c365b69560b57a8ccc63eecf4fb1", func := "bracken/brackenlaw23.SparseThin", spec := "sparseThin", recurses := true, plainKeys := false, apart := false }
def SparseThinSaid : Prop := sparseThinRow.holds Try.pinned (OpenSpec.ofChange sparseThinSpec)

/-- ITS FALSE NEIGHBOUR: 'it returns false'. Refute it at one input. -/
def sparseThinWrong : ChangeSpec := { name := "sparseThin", fn := fun _ => fun
  | [d] => { results := [.lit (.bool false)], args := [d] }
  | _ => none }
def SparseThinWrongFalsely : Prop := sparseThinRow.holds Try.pinned (OpenSpec.ofChange sparseThinWrong)

/-- 'brackenlaw23.SparseMost': WHATEVER THE INPUT: true; the input reads as it did. -/
def sparseMostSpec : ChangeSpec := { name := "sparseMost", fn := fun _ => fun
  | [d] => { results := [.lit (.bool true)], args := [d] }
  | _ => none }
def sparseMostRow : OpenClaim := { program := "ytcilfgedcnehfaa", sum := "d92a80e39d12a83072fa902211f9dd4d1308c365b69560b57a8ccc63eecf4fb1", func := "bracken/brackenlaw23.SparseMost", spec := "sparseMost", recurses := true, plainKeys := false, apart := false }
def SparseMostSaid : Prop := sparseMostRow.holds Try.pinned (OpenSpec.ofChange sparseMostSpec)

/-- ITS FALSE NEIGHBOUR: 'it returns false'. Refute it at one input. -/
def sparseMostWrong : ChangeSpec := { name := "sparseMost", fn := fun _ => fun
  | [d] => { results := [.lit (.bool false)], args := [d] }
  | _ => none }
def SparseMostWrongFalsely : Prop := sparseMostRow.holds Try.pinned (OpenSpec.ofChange sparseMostWrong)

/-- 'brackenlaw10.ScriptBack': WHATEVER THE INPUT: true; the input reads as it did. -/
def scriptBackSpec : ChangeSpec := { name := "scriptBack", fn := fun _ => fun
  | [d1, d2] => { results := [.lit (.bool true)], args := [d1, d2] }
  | _ => none }
def scriptBackRow : OpenClaim := { program := "ytcilfgedcnehfaa", sum := "d92a80e39d12a83072fa902211f9dd4d1308c365b69560b57a8ccc63eecf4fb1", func := "bracken/brackenlaw10.ScriptBack", spec := "scriptBack", recurses := true, plainKeys := false, apart := false }
def ScriptBackSaid : Prop := scriptBackRow.holds Try.pinned (OpenSpec.ofChange scriptBackSpec)

/-- ITS FALSE NEIGHBOUR: 'it returns false'. Refute it at one input. -/
def scriptBackWrong : ChangeSpec := { name := "scriptBack", fn := fun _ => fun
  | [d1, d2] => { results := [.lit (.bool false)], args := [d1, d2] }
  | _ => none }
def ScriptBackWrongFalsely : Prop := scriptBackRow.holds Try.pinned (OpenSpec.ofChange scriptBackWrong)

/-- 'brackenlaw10.ScriptQuiet': WHATEVER THE INPUT: true; the input reads as it did. -/
def scriptQuietSpec : ChangeSpec := { name := "scriptQuiet", fn := fun _ => fun
  | [d1, d2] => { results := [.lit (.bool true)], args := [d1, d2] }
  | _ => none }
def scriptQuietRow : OpenClaim := { program := "ytcilfgedcnehfaa", sum := "d92a80e39d12a83072fa902211f9dd4d1308c365b69560b57a8ccc63eecf4fb1", func := "bracken/brackenlaw10.ScriptQuiet", spec := "scriptQuiet", recurses := true, plainKeys := false, apart := false }
def ScriptQuietSaid : Prop := scriptQuietRow.holds Try.pinned (OpenSpec.ofChange scriptQuietSpec)

/-- ITS FALSE NEIGHBOUR: 'it returns false'. Refute it at one input. -/
def scriptQuietWrong : ChangeSpec := { name := "scriptQuiet", fn := fun _ => fun
  | [d1, d2] => { results := [.lit (.bool false)], args := [d1, d2] }
  | _ => none }
def ScriptQuietWrongFalsely : Prop := scriptQuietRow.holds Try.pinned (OpenSpec.ofChange scriptQuietWrong)

/-- 'brackenlaw10.ScriptParts': WHATEVER THE INPUT: true; the input reads as it did. -/
def scriptPartsSpec : ChangeSpec := { name := "scriptParts", fn := fun _ => fun
  | [d1, d2, d3, d4] => { results := [.lit (.bool true)], args := [d1, d2, d3, d4] }
  | _ => none }
def scriptPartsRow : OpenClaim := { program := "ytcilfgedcnehfaa", sum := "d92a80e39d12a83072fa902211f9dd4d1308c365b69560b57a8ccc63eecf4fb1", func := "bracken/brackenlaw10.ScriptParts", spec := "scriptParts", unfollowed := true, recurses := true, plainKeys := false, apart := false }
def ScriptPartsSaid : Prop := scriptPartsRow.holds Try.pinned (OpenSpec.ofChange scriptPartsSpec)

/-- ITS FALSE NEIGHBOUR: 'it returns false'. Refute it at one input. -/
def scriptPartsWrong : ChangeSpec := { name := "scriptParts", fn := fun _ => fun
  | [d1, d2, d3, d4] => { results := [.lit (.bool false)], args := [d1, d2, d3, d4] }
  | _ => none }
def ScriptPartsWrongFalsely : Prop := scriptPartsRow.holds Try.pinned (OpenSpec.ofChange scriptPartsWrong)

/-- 'brackenlaw10.ScriptFar': WHATEVER THE INPUT: true; the input reads as it did. -/
def scriptFarSpec : ChangeSpec := { name := "scriptFar", fn := fun _ => fun
  | [d1, d2] => { results := [.lit (.bool true)], args := [d1, d2] }
  | _ => none }
def scriptFarRow : OpenClaim := { program := "ytcilfgedcnehfaa", sum := "d92a80e39d12a83072fa902211f9dd4d1308c365b69560b57a8ccc63eecf4fb1", func := "bracken/brackenlaw10.ScriptFar", spec := "scriptFar", unfollowed := true, recurses := true, plainKeys := false, apart := false }
def ScriptFarSaid : Prop := scriptFarRow.holds Try.pinned (OpenSpec.ofChange scriptFarSpec)

/-- ITS FALSE NEIGHBOUR: 'it returns false'. Refute it at one input. -/
def scriptFarWrong : ChangeSpec := { name := "scriptFar", fn := fun _ => fun
  | [d1, d2] => { results := [.lit (.bool false)], args := [d1, d2] }
  | _ => none }
def ScriptFarWrongFalsely : Prop := scriptFarRow.holds Try.pinned (OpenSpec.ofChange scriptFarWrong)

/-- 'brackenlaw10.ScriptDoes': WHATEVER THE INPUT: true; the input reads as it did. -/
def scriptDoesSpec : ChangeSpec := { name := "scriptDoes", fn := fun _ => fun
  | [d1, d2, d3, d4, d5, d6] => { results := [.lit (.bool true)], args := [d1, d2, d3, d4, d5, d6] }
  | _ => none }
def scriptDoesRow : OpenClaim := { program := "ytcilfgedcnehfaa", sum := "d92a80e39d12a83072fa902211f9dd4d1308c365b69560b57a8ccc63eecf4fb1", func := "bracken/brackenlaw10.ScriptDoes", spec := "scriptDoes", unfollowed := true, recurses := true, plainKeys := false, apart := false }
def ScriptDoesSaid : Prop := scriptDoesRow.holds Try.pinned (OpenSpec.ofChange scriptDoesSpec)

/-- ITS FALSE NEIGHBOUR: 'it returns false'. Refute it at one input. -/
def scriptDoesWrong : ChangeSpec := { name := "scriptDoes", fn := fun _ => fun
  | [d1, d2, d3, d4, d5, d6] => { results := [.lit (.bool false)], args := [d1, d2, d3, d4, d5, d6] }
  | _ => none }
def ScriptDoesWrongFalsely : Prop := scriptDoesRow.holds Try.pinned (OpenSpec.ofChange scriptDoesWrong)

/-- 'brackenlaw10.ScriptOrder': WHATEVER THE INPUT: true; the input reads as it did. -/
def scriptOrderSpec : ChangeSpec := { name := "scriptOrder", fn := fun _ => fun
  | [d1, d2, d3, d4, d5, d6] => { results := [.lit (.bool true)], args := [d1, d2, d3, d4, d5, d6] }
  | _ => none }
def scriptOrderRow : OpenClaim := { program := "ytcilfgedcnehfaa", sum := "d92a80e39d12a83072fa902211f9dd4d1308c365b69560b57a8ccc63eecf4fb1", func := "bracken/brackenlaw10.ScriptOrder", spec := "scriptOrder", unfollowed := true, recurses := true, plainKeys := false, apart := false }
def ScriptOrderSaid : Prop := scriptOrderRow.holds Try.pinned (OpenSpec.ofChange scriptOrderSpec)

/-- ITS FALSE NEIGHBOUR: 'it returns false'. Refute it at one input. -/
def scriptOrderWrong : ChangeSpec := { name := "scriptOrder", fn := fun _ => fun
  | [d1, d2, d3, d4, d5, d6] => { results := [.lit (.bool false)], args := [d1, d2, d3, d4, d5, d6] }
  | _ => none }
def ScriptOrderWrongFalsely : Prop := scriptOrderRow.holds Try.pinned (OpenSpec.ofChange scriptOrderWrong)

/- THE SECOND FORM. 'bulk': how many values and letters a reading holds, each counted each time it is reached (what is shared counts as often as it is met; a slice's spare places count too). A statement '..UptoSaid' is the law's where the arguments, and the package variables that the reading takes, are together of bulk at most 1048576: NARROWER than '..Said'. Prove '..Said' where nothing that the law and all that it calls make is longer than what came in: it says more and counts as full. Else prove '..UptoSaid'. A law counts once. -/
mutual
def uptoBulk {H : Type} : DataW H → Nat
  | .lit (.string bytes) => bytes.length + 1
  | .lit _ => 1
  | .nil => 1
  | .ptr d => uptoBulk d + 1
  | .slice elems spare => uptoBulkAll elems + uptoBulkAll spare + 1
  | .agg parts => uptoBulkAll parts + 1
  | .iface _ d => uptoBulk d + 1
  | .map entries => uptoBulkEntries entries + 1
  | .held _ => 1
def uptoBulkAll {H : Type} : List (DataW H) → Nat
  | [] => 0
  | d :: r => uptoBulk d + uptoBulkAll r
def uptoBulkEntries {H : Type} : List (Lit × DataW H) → Nat
  | [] => 0
  | x :: r => uptoBulkEntry x + uptoBulkEntries r
def uptoBulkEntry {H : Type} : Lit × DataW H → Nat
  | (.string bytes, d) => bytes.length + uptoBulk d + 1
  | (_, d) => uptoBulk d + 1
 end
def uptoSmall : (H : Type) → List (DataW H) → Bool := fun _ ds => decide (uptoBulkAll ds ≤ 1048576)
def OpenSpec.upto (s : _root_.Go.ChangeSpec) : _root_.Go.OpenSpec := { _root_.Go.OpenSpec.ofChange s with cond := some uptoSmall }

/-- 'brackenlaw24.AuditLess', WHERE WHAT IT READS IS OF BULK AT MOST 1048576: true; the input reads as it did. -/
def auditLessUptoRow : OpenClaim := { program := "ytcilfgedcnehfaa", sum := "d92a80e39d12a83072fa902211f9dd4d1308c365b69560b57a8ccc63eecf4fb1", func := "bracken/brackenlaw24.AuditLess", spec := "auditLess", unfollowed := true, recurses := true, plainKeys := false, apart := false, narrowed := true }
def AuditLessUptoSaid : Prop := auditLessUptoRow.holds Try.pinned (OpenSpec.upto auditLessSpec)

/-- 'brackenlaw23.SparseThin', WHERE WHAT IT READS IS OF BULK AT MOST 1048576: true; the input reads as it did. -/
def sparseThinUptoRow : OpenClaim := { program := "ytcilfgedcnehfaa", sum := "d92a80e39d12a83072fa902211f9dd4d1308c365b69560b57a8ccc63eecf4fb1", func := "bracken/brackenlaw23.SparseThin", spec := "sparseThin", recurses := true, plainKeys := false, apart := false, narrowed := true }
def SparseThinUptoSaid : Prop := sparseThinUptoRow.holds Try.pinned (OpenSpec.upto sparseThinSpec)

/-- 'brackenlaw23.SparseMost', WHERE WHAT IT READS IS OF BULK AT MOST 1048576: true; the input reads as it did. -/
def sparseMostUptoRow : OpenClaim := { program := "ytcilfgedcnehfaa", sum := "d92a80e39d12a83072fa902211f9dd4d1308c365b69560b57a8ccc63eecf4fb1", func := "bracken/brackenlaw23.SparseMost", spec := "sparseMost", recurses := true, plainKeys := false, apart := false, narrowed := true }
def SparseMostUptoSaid : Prop := sparseMostUptoRow.holds Try.pinned (OpenSpec.upto sparseMostSpec)

/-- 'brackenlaw10.ScriptBack', WHERE WHAT IT READS IS OF BULK AT MOST 1048576: true; the input reads as it did. -/
def scriptBackUptoRow : OpenClaim := { program := "ytcilfgedcnehfaa", sum := "d92a80e39d12a83072fa902211f9dd4d1308c365b69560b57a8ccc63eecf4fb1", func := "bracken/brackenlaw10.ScriptBack", spec := "scriptBack", recurses := true, plainKeys := false, apart := false, narrowed := true }
def ScriptBackUptoSaid : Prop := scriptBackUptoRow.holds Try.pinned (OpenSpec.upto scriptBackSpec)

/-- 'brackenlaw10.ScriptQuiet', WHERE WHAT IT READS IS OF BULK AT MOST 1048576: true; the input reads as it did. -/
def scriptQuietUptoRow : OpenClaim := { program := "ytcilfgedcnehfaa", sum := "d92a80e39d12a83072fa902211f9dd4d1308c365b69560b57a8ccc63eecf4fb1", func := "bracken/brackenlaw10.ScriptQuiet", spec := "scriptQuiet", recurses := true, plainKeys := false, apart := false, narrowed := true }
def ScriptQuietUptoSaid : Prop := scriptQuietUptoRow.holds Try.pinned (OpenSpec.upto scriptQuietSpec)

/-- 'brackenlaw10.ScriptParts', WHERE WHAT IT READS IS OF BULK AT MOST 1048576: true; the input reads as it did. -/
def scriptPartsUptoRow : OpenClaim := { program := "ytcilfgedcnehfaa", sum := "d92a80e39d12a83072fa902211f9dd4d1308c365b69560b57a8ccc63eecf4fb1", func := "bracken/brackenlaw10.ScriptParts", spec := "scriptParts", unfollowed := true, recurses := true, plainKeys := false, apart := false, narrowed := true }
def ScriptPartsUptoSaid : Prop := scriptPartsUptoRow.holds Try.pinned (OpenSpec.upto scriptPartsSpec)

/-- 'brackenlaw10.ScriptFar', WHERE WHAT IT READS IS OF BULK AT MOST 1048576: true; the input reads as it did. -/
def scriptFarUptoRow : OpenClaim := { program := "ytcilfgedcnehfaa", sum := "d92a80e39d12a83072fa902211f9dd4d1308c365b69560b57a8ccc63eecf4fb1", func := "bracken/brackenlaw10.ScriptFar", spec := "scriptFar", unfollowed := true, recurses := true, plainKeys := false, apart := false, narrowed := true }
def ScriptFarUptoSaid : Prop := scriptFarUptoRow.holds Try.pinned (OpenSpec.upto scriptFarSpec)

/-- 'brackenlaw10.ScriptDoes', WHERE WHAT IT READS IS OF BULK AT MOST 1048576: true; the input reads as it did. -/
def scriptDoesUptoRow : OpenClaim := { program := "ytcilfgedcnehfaa", sum := "d92a80e39d12a83072fa902211f9dd4d1308c365b69560b57a8ccc63eecf4fb1", func := "bracken/brackenlaw10.ScriptDoes", spec := "scriptDoes", unfollowed := true, recurses := true, plainKeys := false, apart := false, narrowed := true }
def ScriptDoesUptoSaid : Prop := scriptDoesUptoRow.holds Try.pinned (OpenSpec.upto scriptDoesSpec)

/-- 'brackenlaw10.ScriptOrder', WHERE WHAT IT READS IS OF BULK AT MOST 1048576: true; the input reads as it did. -/
def scriptOrderUptoRow : OpenClaim := { program := "ytcilfgedcnehfaa", sum := "d92a80e39d12a83072fa902211f9dd4d1308c365b69560b57a8ccc63eecf4fb1", func := "bracken/brackenlaw10.ScriptOrder", spec := "scriptOrder", unfollowed := true, recurses := true, plainKeys := false, apart := false, narrowed := true }
def ScriptOrderUptoSaid : Prop := scriptOrderUptoRow.holds Try.pinned (OpenSpec.upto scriptOrderSpec)

end Rows
end Go.Proofs.Ytcilfgedcnehfaa
