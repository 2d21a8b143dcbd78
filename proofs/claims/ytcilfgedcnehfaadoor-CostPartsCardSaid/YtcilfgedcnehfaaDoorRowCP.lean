/-
  The law CostParts of brackenlaw22 is true for every input: the parts of a plan's cost add up.
  Conditions: none. (Its two listed variables are tied to the program's text by the card.)
-/
import Derived.Test.YtcilfgedcnehfaaDoorOpen
import Derived.Test.YtcilfgedcnehfaaDoorTie
import Derived.Test.YtcilfgedcnehfaaDoorCards
import Derived.SevenTiedAt
import Derived.Handed
set_option linter.unusedVariables false
set_option linter.unusedSectionVars false
set_option linter.unusedSimpArgs false
namespace Go.Proofs.YtcilfgedcnehfaaDoor
open Go.ChangeShapes Go.WideShapes Go.ChangeAt Go.RowKit PCP Go.Proofs.YtcilfgedcnehfaaDoorW.PrintWords

theorem own_ : ownKnob Tryd.prog.godebug = none := by kernel_rfl
theorem laidOut_ : laidOutB Tryd.prog = true := by kernel_rfl

theorem lits64 : (Rows.laid_math_bits_deBruijn64tab : DataW Unit) = .agg (Lib.deBruijn64tab.map fun n : Nat => .lit (.int .u8 (n : Int))) := by kernel_rfl
theorem gnum64 : Tryd.prog.globalNamed "math/bits.deBruijn64tab" = some 3 := by kernel_rfl
theorem gtype64 : ((Tryd.prog.globals[3]?).map (·.type)).bind Tryd.prog.underlying = some (.array 64 5) := by kernel_rfl
theorem cells_u8 : Tryd.prog.cellsOf 5 = 1 := by kernel_rfl
theorem u8_ : Tryd.prog.underlying 5 = some (.int .u8) := by kernel_rfl

/-- the table lies in memory as the statement says -/
theorem tab_of_laid {W : World} (h0 : laidMetH Tryd.prog Rows.costPartsRow.laid W) : Tab W := by
  have h : laidMet Tryd.prog [("math/bits.deBruijn32tab", Rows.laid_math_bits_deBruijn32tab), ("math/bits.deBruijn64tab", Rows.laid_math_bits_deBruijn64tab)] W := h0
  obtain ⟨ps, ⟨_, _, _, _, _, _, _, _, _, _, hr, _⟩, _⟩ := h
  obtain ⟨g, t, cs, fuel, p, q, hg, ht, hvar, hd, _, _⟩ := hr
  obtain rfl := Option.some.inj (gnum64.symm.trans hg)
  have hu := gtype64
  rw [ht] at hu
  simp only [Option.bind_some] at hu
  rw [lits64] at hd
  obtain ⟨xs, m, rfl, hx, hlen, hxl, hat⟩ := DataW.trod_array hu hd
  injection hx with hx1 hx2
  injection hx1 with hx1
  intro j hj
  have hj : j < 64 := hj
  rw [World.var?_cell hg hvar j]
  have hi := hat j hj
  rw [cells_u8, List.getElem?_eq_getElem (by omega)] at hi
  have e1 : (xs.map (·.1))[j]? = some (xs[j]'(by omega)).1 := by rw [List.getElem?_map, List.getElem?_eq_getElem (by omega)]; rfl
  rw [← hx1, List.getElem?_map] at e1
  have e2 : Lib.deBruijn64tab[j]? = some (Lib.deBruijn64tab.getD j 0) := by
    rw [List.getD_eq_getElem?_getD, List.getElem?_eq_getElem (show j < Lib.deBruijn64tab.length from hj)]; rfl
  rw [e2] at e1
  simp only [Option.map_some, Option.some.injEq] at e1
  obtain ⟨n, hc, hy, _⟩ := DataW.trod_int u8_ hi
  rw [hy] at e1
  simp only [DataW.lit.injEq, Lit.int.injEq, true_and] at e1
  have : ((cs.toList.drop (j * 1)).take 1)[0]? = some (.int .u8 n) := by rw [hc]; rfl
  rw [List.getElem?_take, if_pos (by omega), List.getElem?_drop] at this
  simp only [Nat.mul_one, Nat.add_zero, Array.getElem?_toList] at this
  rw [this, ← e1]

set_option maxRecDepth 100000 in
/-- an argument that is a list of axes -/
theorem open_axes {H : Type} {enc : TypeId × Value → H} {W : World} {base : Nat} {spare : Nat → Bool} {held : Bool} {v : Value} {d : DataW H} {p : List MemPlace}
    {r : Reach} {b0 : Nat} (hv : Value.okWide Tryd.prog W r b0 23 v) (h : DataW.Trod enc Tryd.prog W base spare held 23 v d p)
    {ts : List TypeId} {ds : List (DataW H)} {q : Nat} (hsz : (DataW.weightsEach Tryd.prog ts ds).all (· ≤ reachBytes) = true) (hts : ts[q]? = some 23) (hds : ds[q]? = some d) :
    ∃ A c l, v = .slice A l.length c ∧ l.length ≤ c ∧ l.length ≤ 8796093022208 ∧ Kd.C k33 W A l.length l := by
  obtain ⟨A, n, c, rfl, hnc, hB, hA, hat⟩ := open_cells (k := 3) (ls := [Lf.int .i64, Lf.bool]) (B := 16) Tryd.underlying23 (by kernel_rfl) (by kernel_rfl) (by kernel_rfl) (Nat.zero_lt_succ _) hv h hsz hts hds
  have h' : ∀ i : Fin n, ∃ x : S33, ∀ b o, A = some ⟨b, o, none⟩ → W.cell? ⟨b, o + (i * 2 + 0), none⟩ = some (.int .i64 x.f0) ∧ W.cell? ⟨b, o + (i * 2 + 1), none⟩ = some (.bool x.f1) := fun i => by
    obtain ⟨b, o, e, hx⟩ := hat i i.2
    obtain ⟨u0, hu0, z, rfl, _⟩ := hx 0 _ rfl
    obtain ⟨u1, hu1, bb, rfl⟩ := hx 1 _ rfl
    exact ⟨⟨z, bb⟩, fun b' o' e' => by rw [e] at e'; injection e' with e'; injection e' with e1 e2; subst e1; subst e2; exact ⟨hu0, hu1⟩⟩
  let g : Fin n → S33 := fun i => Classical.choose (h' i)
  have hg := fun i => Classical.choose_spec (h' i)
  have hl : (List.ofFn g).length = n := by simp
  refine ⟨A, c, List.ofFn g, by rw [hl], by omega, by omega, ?_⟩
  rw [hl]
  refine ⟨hl, by omega, fun h0 => ?_⟩
  obtain ⟨b, o, e, hb⟩ := hA h0
  refine ⟨_, e, fun j x hj => ?_⟩
  have hjl := (List.getElem?_eq_some_iff.1 hj).1
  have hjn : j < n := by omega
  have ex : x = g ⟨j, hjn⟩ := by
    have := (List.getElem?_eq_some_iff.1 hj).2
    rw [← this]; simp
  have hc := hg ⟨j, hjn⟩ b o e
  refine ⟨_, rfl, k33_mk W x, fun i u hu => ?_⟩
  rw [add_addr]
  have h2 : W.cell? ⟨b, o + (j * 2 + 0), none⟩ = some (.int .i64 x.f0) ∧ W.cell? ⟨b, o + (j * 2 + 1), none⟩ = some (.bool x.f1) := by rw [ex]; exact hc
  show W.cell? ⟨b, o + (j * 2 + i), none⟩ = some u
  match i, hu with
  | 0, hu => simp at hu; subst hu; exact h2.1
  | 1, hu => simp at hu; subst hu; exact h2.2

def tabCells (l : List Nat) : Array Value := (l.map fun n : Nat => Value.int .u8 (n : Int)).toArray
def layTab (l : List Nat) : Obj → Obj
  | .cells _ t frozen => .cells (tabCells l) t frozen
  | o => o
noncomputable def laidWorld (os : Os) : World :=
  { World.holding Tryd.prog os ⟨#[], #[], []⟩ with heap := ((World.holding Tryd.prog os ⟨#[], #[], []⟩).heap.modify 2 (layTab Lib.deBruijn32tab)).modify 3 (layTab Lib.deBruijn64tab) }

set_option maxRecDepth 100000 in
theorem costParts_lifted (os : Os) (started : os.Started) (H : Type) (enc : TypeId × Value → H) :
    ReturnsInHanded {} Tryd.checked os 3 .any (fun w args => (Rows.costPartsSpec.pre enc Tryd.prog Tryd.f3 [] false w args ∧ laidMetH Tryd.prog Rows.costPartsRow.laid w) ∧ sizedMet enc Tryd.prog Tryd.f3 (OpenSpec.ofChange Rows.costPartsSpec) false w args)
      (Rows.costPartsSpec.post enc Tryd.prog Tryd.f3 false true false false) := by
  refine returnsInHanded_of_change_and (C := Tryd.checked) (X := fun w _ => laidMetH Tryd.prog Rows.costPartsRow.laid w) (fun _ _ _ hh h => h.of_heap hh) own_ started (by kernel_rfl) Tryd.func3
    (ChangeSpec.witness_at (enc := enc) (C := Tryd.checked) (os := os) (X := fun w _ => laidMetH Tryd.prog Rows.costPartsRow.laid w) false (laidWorld os) #[.int .u64 0, .slice none 0 0, .bool false] 8 rfl (by kernel_rfl) (by kernel_rfl) (by kernel_rfl) (by kernel_rfl) (by kernel_rfl)
      (laidMetH_of_parts (laidMet_of_run' 8 (by kernel_rfl) (by kernel_rfl)) (by kernel_rfl))) ?_
  intro W base args ds gs before hval0 hW hcnd hsz0 hL _
  have hsz : (DataW.weightsEach Tryd.prog (Tryd.f3.params.toList ++ Rows.costPartsSpec.plain.varTypes Tryd.prog) (ds ++ gs)).all (· ≤ reachBytes) = true := hsz0
  have hval : ∀ (j : Nat) t v, Tryd.f3.params[j]? = some t → args[j]? = some v → Value.okWide Tryd.prog W .any base t v := hval0
  have hW' := hW
  obtain ⟨p, q, hA0, hV, rfl, hfz, hnd⟩ := hW
  have hA : DataW.TrodAll enc Tryd.prog W 0 (fun _ => true) true Tryd.f3.params.toList args.toList ds p := hA0
  rw [Tryd.params3] at hA hval hsz
  obtain ⟨v0, vs0, d0, ds0, p0, q0, hargs, rfl, rfl, h0, r0⟩ := trodAll_cons hA
  obtain ⟨v1, vs1, d1, ds1, p1, q1, rfl, rfl, rfl, h1, r1⟩ := trodAll_cons r0
  obtain ⟨v2, vs2, d2, ds2, p2, q2, rfl, rfl, rfl, h2, r2⟩ := trodAll_cons r1
  obtain ⟨rfl, rfl, rfl⟩ := trodAll_nil r2
  obtain rfl : args = #[v0, v1, v2] := by cases args; simp_all
  obtain ⟨rfl, rfl⟩ := trodVars_none hV
  have lt0 : ∀ x ∈ p0, x.block < W.heap.size := by obtain ⟨m, hm⟩ := h0; exact DataW.trod_lt m _ _ _ hm
  have lt1 : ∀ x ∈ p1, x.block < W.heap.size := by obtain ⟨m, hm⟩ := h1; exact DataW.trod_lt m _ _ _ hm
  have lt2 : ∀ x ∈ p2, x.block < W.heap.size := by obtain ⟨m, hm⟩ := h2; exact DataW.trod_lt m _ _ _ hm
  have walk : Calls Tryd.prog 3 #[v0, v1, v2] W fun en w' => en = .returned (.bool true) ∧ Below W.heap.size W w' := by
    obtain ⟨z0, hv0, _, _, wz0⟩ := open_int Tryd.underlying22 (hval 0 22 v0 rfl rfl) h0
    obtain ⟨A1, c1, l1, hv1, hc1, hl1, hr1⟩ := open_axes (hval 1 23 v1 rfl rfl) h1 hsz (q := 1) rfl rfl
    obtain ⟨z2, hv2, _⟩ := open_bool Tryd.underlying4 (hval 2 4 v2 rfl rfl) h2
    rw [hv0, hv1, hv2]
    obtain ⟨k, hk⟩ := (parts_ev z0 l1 hl1 z2).rounds
    exact brackenlaw22_CostParts.calls k z0 A1 c1 l1 z2 true W (tab_of_laid hL) hr1 hc1 hk
  refine walk.mono fun e W' ⟨he, bel⟩ => ?_
  subst he
  exact ⟨_, rfl, _, _, _, [], _, [], hW', trodAll_mk1 (shut_bool Tryd.underlying4 _), (trodAll_cons_mk (Below.trod laidOut_ (by kernel_rfl) (of_decide_eq_true (by kernel_rfl)) h0 bel lt0) (trodAll_cons_mk (Below.trod laidOut_ (by kernel_rfl) (of_decide_eq_true (by kernel_rfl)) h1 bel lt1) (trodAll_cons_mk (Below.trod laidOut_ (by kernel_rfl) (of_decide_eq_true (by kernel_rfl)) h2 bel lt2) trodAll_mk0))), rfl, bel.frame _, fun h => by cases h⟩

theorem costParts_holds : Rows.CostPartsSaid :=
  OpenClaim.holds_of_wide 3 Tryd.f3 rfl rfl rfl rfl rfl rfl rfl ⟨rfl, rfl, rfl, rfl, rfl⟩ rfl rfl rfl rfl rfl (by kernel_rfl) Tryd.func3 (by kernel_rfl)
    (of_decide_eq_true (by kernel_rfl)) (by unfold Func.isWrapper; first | (rw [if_pos (by decide +kernel)]; kernel_rfl) | (rw [if_neg (by decide +kernel)]; exact ⟨rfl, rfl⟩))
    (fun os started H enc _ => costParts_lifted os started H enc)

theorem costParts_card : Rows.CostPartsCardSaid :=
  Claim7.holds_tied_plain_at .later [] [.data, .data] true (true, "5b0df6862130fd308edc44dc78fc22971b23a6bed1f5a35c389e49c998fb684e") false
    costParts_holds (fun _ h => by cases h) (by kernel_rfl) (fun _ h => by cases h) costParts_row_tie rfl ⟨rfl, rfl⟩ (by kernel_rfl) rfl
    (fun f fn hf hfn => by
      obtain rfl : f = 3 := Option.some.inj ((show Tryd.prog.funcNamed "bracken/brackenlaw22.CostParts" = some 3 by kernel_rfl).symm.trans hf) |>.symm
      obtain rfl : fn = Tryd.f3 := (Option.some.inj (Tryd.func3.symm.trans hfn)).symm
      exact ⟨by kernel_rfl, fun j t ht => by
        rw [Tryd.params3] at ht
        have h3 : t = 22 ∨ t = 23 ∨ t = 4 := by
          rcases j with _ | _ | _ | j
          · left; simpa using ht.symm
          · right; left; simpa using ht.symm
          · right; right; simpa using ht.symm
          · simp at ht
        rcases h3 with rfl | rfl | rfl
        · exact (show Tryd.prog.wantsStandIn 22 = false by kernel_rfl)
        · exact (show Tryd.prog.wantsStandIn 23 = false by kernel_rfl)
        · exact (show Tryd.prog.wantsStandIn 4 = false by kernel_rfl)⟩)
    (by kernel_rfl)
#print axioms costParts_card
end Go.Proofs.YtcilfgedcnehfaaDoor
