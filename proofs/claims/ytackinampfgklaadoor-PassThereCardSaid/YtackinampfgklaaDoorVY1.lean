/-
  The law PassThere of brackenlaw18 is true for every input: which places any memory has.
  Conditions: none. (Its two listed variables are tied to the program's text by the card.)
-/
import Derived.Test.YtackinampfgklaaDoorVL1
import Derived.Test.YtackinampfgklaaDoorVR1
import Derived.Test.YtackinampfgklaaDoorRows
import Derived.Test.YtackinampfgklaaDoorTie
import Derived.Test.YtackinampfgklaaDoorCards
import Derived.SevenTiedAt
import Derived.Handed
import Derived.ChangeSame
import Derived.ChangeVars
import Derived.JoinedOf
import Derived.RowKit
import Derived.LaidLaws
import Derived.LaidHandle
import Derived.ProofKit
import Derived.ChangeOld
import Derived.KernelRfl
import Derived.Test.YtackinampfgklaaDoorVX1
import Derived.Test.YtackinampfgklaaDoorVW2
set_option linter.unusedVariables false
set_option linter.unusedSectionVars false
set_option linter.unusedSimpArgs false
set_option linter.deprecated false
set_option linter.unusedVariables false
set_option linter.unusedSectionVars false
set_option linter.unusedSimpArgs false
namespace Go.Proofs.YtackinampfgklaaDoor
open Go.ChangeShapes Go.WideShapes Go.ChangeAt Go.RowKit Go.AM

theorem own_ : ownKnob Tryd.prog.godebug = none := by kernel_rfl
theorem laidOut_ : laidOutB Tryd.prog = true := by kernel_rfl
theorem lits64 : (Rows.laid_math_bits_deBruijn64tab : DataW Unit) = .agg (Lib.deBruijn64tab.map fun n : Nat => .lit (.int .u8 (n : Int))) := by kernel_rfl
theorem gnum64 : Tryd.prog.globalNamed "math/bits.deBruijn64tab" = some 3 := by kernel_rfl
theorem gtype64 : ((Tryd.prog.globals[3]?).map (·.type)).bind Tryd.prog.underlying = some (.array 64 5) := by kernel_rfl
theorem cells_u8 : Tryd.prog.cellsOf 5 = 1 := by kernel_rfl
theorem u8_ : Tryd.prog.underlying 5 = some (.int .u8) := by kernel_rfl
theorem gcells64 : ∀ t, (Tryd.prog.globals[3]?).map (·.type) = some t → Tryd.prog.cellsOf t = 64 := by
  intro t ht
  have h : ((Tryd.prog.globals[3]?).map (·.type)).map Tryd.prog.cellsOf = some 64 := by kernel_rfl
  rw [ht] at h
  exact Option.some.inj h

theorem tab_obj {W : World} (h : laidMet Tryd.prog [("math/bits.deBruijn32tab", Rows.laid_math_bits_deBruijn32tab), ("math/bits.deBruijn64tab", Rows.laid_math_bits_deBruijn64tab)] W) :
    ∃ cs e z, W.heap[3]? = some (.cells cs e z) ∧ (∀ v ∈ cs, ∃ n, v = Value.int .u8 n) ∧ Tab W := by
  obtain ⟨ps, ⟨_, _, _, _, _, _, _, _, _, _, hr, _⟩, _⟩ := h
  obtain ⟨g, t, cs, fuel, p, q, hg, ht, hvar, hd, _, _⟩ := hr
  obtain rfl := Option.some.inj (gnum64.symm.trans hg)
  have hu := gtype64
  rw [ht] at hu
  simp only [Option.bind_some] at hu
  rw [lits64] at hd
  obtain ⟨xs, m, rfl, hx, hlen, hxl, hat⟩ := DataW.trod_array hu hd
  injection hx with hx1 hx2
  injection hx1 with hx1
  rw [gcells64 t ht] at hlen
  have hcell : ∀ j, j < 64 → ∃ n, cs.toList[j]? = some (.int .u8 n) ∧ n = ((Lib.deBruijn64tab.getD j 0 : Nat) : Int) := by
    intro j hj
    have hi := hat j hj
    rw [cells_u8, List.getElem?_eq_getElem (by omega)] at hi
    have e1 : (xs.map (·.1))[j]? = some (xs[j]'(by omega)).1 := by rw [List.getElem?_map, List.getElem?_eq_getElem (by omega)]; rfl
    rw [← hx1, List.getElem?_map] at e1
    have e2 : Lib.deBruijn64tab[j]? = some (Lib.deBruijn64tab.getD j 0) := by
      rw [List.getD_eq_getElem?_getD, List.getElem?_eq_getElem (show j < Lib.deBruijn64tab.length from hj)]; rfl
    rw [e2] at e1
    simp only [Option.map_some, Option.some.injEq] at e1
    obtain ⟨n, hc, hy, _⟩ := DataW.trod_int u8_ hi
    rw [hy] at e1
    simp only [DataW.lit.injEq, Lit.int.injEq, true_and] at e1
    have : ((cs.toList.drop (j * 1)).take 1)[0]? = some (.int .u8 n) := by rw [hc]; rfl
    rw [List.getElem?_take, if_pos (by omega), List.getElem?_drop] at this
    simp only [Nat.mul_one, Nat.add_zero] at this
    exact ⟨n, this, e1.symm⟩
  obtain ⟨e, z, hheap⟩ : ∃ e z, W.heap[3]? = some (.cells cs e z) := by
    simp only [World.var?, hg, Option.bind_some] at hvar
    split at hvar
    · rename_i e z hh; cases hvar; exact ⟨_, _, hh⟩
    · cases hvar
  refine ⟨cs, e, z, hheap, fun v hv => ?_, fun j hj => ?_⟩
  · obtain ⟨j, hj⟩ := List.getElem?_of_mem (Array.mem_toList_iff.2 hv)
    have hj64 : j < 64 := by rw [← hlen]; exact (List.getElem?_eq_some_iff.1 hj).1
    obtain ⟨n, h1, _⟩ := hcell j hj64
    rw [hj] at h1; exact ⟨n, Option.some.inj h1⟩
  · obtain ⟨n, h1, h2⟩ := hcell j hj
    rw [World.var?_cell hg hvar j, ← Array.getElem?_toList, h1, h2]
theorem tab_gt {W : World} {cs : Array Value} {e : TypeId} {z : Nat × Nat} (hh : W.heap[3]? = some (.cells cs e z)) (hT : Tab W) : GT [(3, Obj.cells cs e z)] := by
  intro w hw j hj
  have h1 := hw _ (List.mem_singleton.2 rfl)
  have h2 := hT j hj
  unfold World.cell? at h2 ⊢
  rw [hh] at h2
  dsimp only at h1 ⊢
  rw [h1]; exact h2

def tabCells (l : List Nat) : Array Value := (l.map fun n : Nat => Value.int .u8 (n : Int)).toArray
def layTab (l : List Nat) : Obj → Obj
  | .cells _ t frozen => .cells (tabCells l) t frozen
  | o => o
noncomputable def laidWorld (os : Os) : World :=
  { World.holding Tryd.prog os ⟨#[], #[], []⟩ with heap := ((World.holding Tryd.prog os ⟨#[], #[], []⟩).heap.modify 2 (layTab Lib.deBruijn32tab)).modify 3 (layTab Lib.deBruijn64tab) }
end Go.Proofs.YtackinampfgklaaDoor
set_option linter.unusedVariables false
set_option linter.unusedSectionVars false
set_option linter.unusedSimpArgs false
namespace Go.Proofs.YtackinampfgklaaDoor
open Go.ChangeShapes Go.WideShapes Go.ChangeAt Go.RowKit Go.AM

structure EvR (x : Ev) : Prop where
  it : i64p x.it
  tr : i64p x.tr
  wi : i64p x.wi
  ti : i64p x.ti
  ad : i64p x.ad
  ma : u64p x.ma
theorem EvR.r {x : Ev} (h : EvR x) : i64r x.wi := ⟨h.wi.1, by have := h.wi.2; unfold i64r at *; omega⟩
theorem u8_of {n : Int} (h : (Lit.int .u8 n).wf = true) : 0 ≤ n ∧ n < 256 := by
  simp [Lit.wf, IntKind.min, IntKind.max, IntKind.signed, IntKind.bits] at h
  omega
end Go.Proofs.YtackinampfgklaaDoor
set_option linter.unusedVariables false
set_option linter.unusedSectionVars false
set_option linter.unusedSimpArgs false
namespace Go.Proofs.YtackinampfgklaaDoor
open Go.ChangeShapes Go.WideShapes Go.ChangeAt Go.RowKit Go.AM
set_option maxRecDepth 100000 in
theorem passThere_lifted (os : Os) (started : os.Started) (H : Type) (enc : TypeId × Value → H) :
    ReturnsInHanded {} Tryd.checked os 3 .any (fun w args => (Rows.passThereSpec.pre enc Tryd.prog Tryd.f3 [] false w args ∧ laidMetH Tryd.prog Rows.passThereRow.laid w) ∧ sizedMet enc Tryd.prog Tryd.f3 (OpenSpec.ofChange Rows.passThereSpec) false w args)
      (Rows.passThereSpec.post enc Tryd.prog Tryd.f3 false true false false) := by
  refine returnsInHanded_of_change_and (C := Tryd.checked) (X := fun w _ => laidMetH Tryd.prog Rows.passThereRow.laid w) (fun _ _ _ hh h => h.of_heap hh) own_ started (by kernel_rfl) Tryd.func3
    (ChangeSpec.witness_at (enc := enc) (C := Tryd.checked) (os := os) (X := fun w _ => laidMetH Tryd.prog Rows.passThereRow.laid w) false (laidWorld os) #[.int .u8 0, .int .i64 0, .int .i64 0] 8 rfl (by kernel_rfl) (by kernel_rfl) (by kernel_rfl) (by kernel_rfl) (by kernel_rfl)
      (laidMetH_of_parts (laidMet_of_run' 8 (by kernel_rfl) (by kernel_rfl)) (by kernel_rfl))) ?_
  intro W base args ds gs before hval0 hW hcnd hsz0 hL _
  have hsz : (DataW.weightsEach Tryd.prog (Tryd.f3.params.toList ++ Rows.passThereSpec.plain.varTypes Tryd.prog) (ds ++ gs)).all (· ≤ reachBytes) = true := hsz0
  have hval : ∀ (j : Nat) t v, Tryd.f3.params[j]? = some t → args[j]? = some v → Value.okWide Tryd.prog W .any base t v := hval0
  have hW' := hW
  obtain ⟨p, q, hA0, hV, rfl, hfz, hnd⟩ := hW
  have hA : DataW.TrodAll enc Tryd.prog W 0 (fun _ => true) true Tryd.f3.params.toList args.toList ds p := hA0
  rw [Tryd.params3] at hA hval hsz
  obtain ⟨v0, vs0, d0, ds0, p0, q0, hargs, rfl, rfl, h0, r0⟩ := trodAll_cons hA
  obtain ⟨v1, vs1, d1, ds1, p1, q1, rfl, rfl, rfl, h1, r1⟩ := trodAll_cons r0
  obtain ⟨v2, vs2, d2, ds2, p2, q2, rfl, rfl, rfl, h2, r2⟩ := trodAll_cons r1
  obtain ⟨rfl, rfl, rfl⟩ := trodAll_nil r2
  obtain rfl : args = #[v0, v1, v2] := by cases args; simp_all
  obtain ⟨rfl, rfl⟩ := trodVars_none hV
  have lt0 : ∀ x ∈ p0, x.block < W.heap.size := by obtain ⟨m, hm⟩ := h0; exact DataW.trod_lt m _ _ _ hm
  have lt1 : ∀ x ∈ p1, x.block < W.heap.size := by obtain ⟨m, hm⟩ := h1; exact DataW.trod_lt m _ _ _ hm
  have lt2 : ∀ x ∈ p2, x.block < W.heap.size := by obtain ⟨m, hm⟩ := h2; exact DataW.trod_lt m _ _ _ hm
  have walk : Calls Tryd.prog 3 #[v0, v1, v2] W fun en w' => en = .returned (.bool true) ∧ Below W.heap.size W w' := by
    obtain ⟨cs, e, z, hh, hU, hT⟩ := tab_obj (W := W) hL
    have hG : ∀ p ∈ [(3, Obj.cells cs e z)], W.heap[p.1]? = some p.2 := fun p hp => by rw [List.mem_singleton] at hp; subst hp; exact hh
    have hU8 : U8 [(3, Obj.cells cs e z)] := fun p hp => by rw [List.mem_singleton] at hp; subst hp; exact ⟨_, _, _, rfl, hU⟩
    have fit : ∀ (j : Nat) t d, [5, 3, 3][j]? = some t → [d0, d1, d2][j]? = some d → Fits Tryd.prog t d := fun j t d ht hd n hn => by
      have := List.all_eq_true.1 hsz _ (DataW.weights_mem_each (j := j) (by rw [List.getElem?_append_left (List.getElem?_eq_some_iff.1 ht).1]; exact ht) (by rw [List.getElem?_append_left (List.getElem?_eq_some_iff.1 hd).1]; exact hd) n hn)
      simpa using this
    obtain ⟨z0, rfl, _, _, hz0⟩ := open_int Tryd.underlying5 (hval 0 5 v0 rfl rfl) h0
    obtain ⟨z1, rfl, _, _, hz1⟩ := open_int Tryd.underlying3 (hval 1 3 v1 rfl rfl) h1
    obtain ⟨z2, rfl, _, _, hz2⟩ := open_int Tryd.underlying3 (hval 2 3 v2 rfl rfl) h2
    refine law_of (g_l18_PassThere_ok (tab_gt hh hT)) hG (.cons (.flat rfl) (.cons (.flat rfl) (.cons (.flat rfl) .nil))) ?_
    obtain ⟨v, S', h1, h2, rfl⟩ := (there18_law (words := z0) (a := z1) (many := z2) (by have := u8_of hz0; omega) (by have := wf_i64 hz1; omega) (by have := wf_i64 hz2; omega))
    exact ⟨S', h1, h2⟩
  refine walk.mono fun e W' ⟨he, bel⟩ => ?_
  subst he
  exact ⟨_, rfl, _, _, _, [], _, [], hW', trodAll_mk1 (shut_bool Tryd.underlying4 _), (trodAll_cons_mk (Below.trod laidOut_ (by kernel_rfl) (of_decide_eq_true (by kernel_rfl)) h0 bel lt0) (trodAll_cons_mk (Below.trod laidOut_ (by kernel_rfl) (of_decide_eq_true (by kernel_rfl)) h1 bel lt1) (trodAll_cons_mk (Below.trod laidOut_ (by kernel_rfl) (of_decide_eq_true (by kernel_rfl)) h2 bel lt2) trodAll_mk0))), rfl, bel.frame _, fun h => by cases h⟩

theorem passThere_holds : Rows.PassThereSaid :=
  OpenClaim.holds_of_wide 3 Tryd.f3 rfl rfl rfl rfl rfl rfl rfl ⟨rfl, rfl, rfl, rfl, rfl⟩ rfl rfl rfl rfl rfl (by kernel_rfl) Tryd.func3 (by kernel_rfl)
    (of_decide_eq_true (by kernel_rfl)) (by unfold Func.isWrapper; first | (rw [if_pos (by decide +kernel)]; kernel_rfl) | (rw [if_neg (by decide +kernel)]; exact ⟨rfl, rfl⟩))
    (fun os started H enc _ => passThere_lifted os started H enc)

theorem passThere_card : Rows.PassThereCardSaid :=
  Claim7.holds_tied_plain_at .later [] [.data, .data] true (true, "8e9a9e9e99743842300b0355a366e6444504552d7d5103ad9d07f179bf633930") true
    passThere_holds (fun _ h => by cases h) (by kernel_rfl) (fun _ h => by cases h) passThere_row_tie rfl ⟨rfl, rfl⟩ (by kernel_rfl) rfl
    (fun f fn hf hfn => by
      obtain rfl : f = 3 := Option.some.inj ((show Tryd.prog.funcNamed "bracken/brackenlaw18.PassThere" = some 3 by kernel_rfl).symm.trans hf) |>.symm
      obtain rfl : fn = Tryd.f3 := (Option.some.inj (Tryd.func3.symm.trans hfn)).symm
      exact ⟨by kernel_rfl, fun j t ht => by
        rw [Tryd.params3] at ht
        have hm : t ∈ [5, 3, 3] := List.mem_of_getElem? (by simpa using ht)
        have hall : ∀ t ∈ [5, 3, 3], Tryd.prog.wantsStandIn t = false := by
          have : ([5, 3, 3].all fun t => !Tryd.prog.wantsStandIn t) = true := by kernel_rfl
          intro t ht
          simpa using List.all_eq_true.1 this t ht
        exact hall t hm⟩)
    (by kernel_rfl)
#print axioms passThere_card
end Go.Proofs.YtackinampfgklaaDoor
