/-
  The law ScriptOrder of brackenlaw10 is true for every input: in whatever order events stand they strike the same, are sparse, are quiet, and are as many of each window.
  Conditions: none.
-/
import Derived.Test.YtcilfgedcnehfaaVL1
import Derived.Test.YtcilfgedcnehfaaVR1
import Derived.Test.YtcilfgedcnehfaaRows
import Derived.Handed
import Derived.ChangeSame
import Derived.ChangeVars
import Derived.JoinedOf
import Derived.RowKit
import Derived.ProofKit
import Derived.ChangeOld
import Derived.KernelRfl
import Derived.Test.YtcilfgedcnehfaaVX1
import Derived.Test.YtcilfgedcnehfaaVW1
set_option linter.unusedVariables false
set_option linter.unusedSectionVars false
set_option linter.unusedSimpArgs false
set_option linter.deprecated false
set_option linter.unusedVariables false
set_option linter.unusedSectionVars false
set_option linter.unusedSimpArgs false
namespace Go.Proofs.Ytcilfgedcnehfaa
open Go.ChangeShapes Go.WideShapes Go.ChangeAt Go.RowKit Go.AM
theorem own_ : ownKnob Try.prog.godebug = none := by kernel_rfl
theorem laidOut_ : laidOutB Try.prog = true := by kernel_rfl
end Go.Proofs.Ytcilfgedcnehfaa
set_option linter.unusedVariables false
set_option linter.unusedSectionVars false
set_option linter.unusedSimpArgs false
namespace Go.Proofs.Ytcilfgedcnehfaa
open Go.ChangeShapes Go.WideShapes Go.ChangeAt Go.RowKit Go.AM

set_option maxRecDepth 100000 in
theorem open_sl0 {H : Type} {enc : TypeId × Value → H} {w : World} {base b0 : Nat} {r : Reach} {spare : Nat → Bool} {held : Bool} {G : List (Nat × Obj)} (hU : U8 G) (hG : ∀ p ∈ G, w.heap[p.1]? = some p.2)
    {k : Nat} {t e : TypeId} {es : List Fl} {B : Nat} {v : Value} {d : DataW H} {p : List MemPlace} (hu : Try.prog.underlying t = some (.slice e)) (hval : Value.okWide Try.prog w r b0 t v)
    (hl : leafsL Try.prog k t = some [.sl es B]) (hc : Try.prog.cellsOf t = 1) (h : DataW.Trod enc Try.prog w base spare held t v d p) (hfit : Fits Try.prog t d) :
    ∃ u, VR (T0 G w) u v ∧ LV (S0 G w) (.sl es B) u := by
  obtain ⟨a, n, c, rfl⟩ := okWide_slice hu hval
  obtain ⟨us, h1, h2, h3⟩ := open_cells0 (enc := enc) (w := w) hU hG (ls := [.sl es B]) hl hc h hfit
  match us, h2 with
  | [u], _ =>
    obtain ⟨u', e, h4⟩ := h3 0 _ rfl
    cases e
    cases h1 with
    | cons x y => exact ⟨u, x, h4⟩
def evL : List Fl := [some .i64, some .i64, some .i64, some .i64, some .i64, some .u64]
structure EvR (x : Ev) : Prop where
  it : i64p x.it
  tr : i64p x.tr
  wi : i64p x.wi
  ti : i64p x.ti
  ad : i64p x.ad
  ma : u64p x.ma
theorem EvR.r {x : Ev} (h : EvR x) : i64r x.wi := ⟨h.wi.1, by have := h.wi.2; unfold i64r at *; omega⟩
theorem dec_ev {c : List Value} (hc : c.length = evL.length) (hat : ∀ (j : Nat) l v, evL[j]? = some l → c[j]? = some v → FlOk l v) : ∃ x : Ev, EvR x ∧ x.cells = c := by
  match c, hc with
  | [v0, v1, v2, v3, v4, v5], _ =>
    obtain ⟨x0, rfl, h0⟩ := hat 0 _ _ rfl rfl
    obtain ⟨x1, rfl, h1⟩ := hat 1 _ _ rfl rfl
    obtain ⟨x2, rfl, h2⟩ := hat 2 _ _ rfl rfl
    obtain ⟨x3, rfl, h3⟩ := hat 3 _ _ rfl rfl
    obtain ⟨x4, rfl, h4⟩ := hat 4 _ _ rfl rfl
    obtain ⟨x5, rfl, h5⟩ := hat 5 _ _ rfl rfl
    exact ⟨⟨x0, x1, x2, x3, x4, x5⟩, ⟨wf_i64 h0, wf_i64 h1, wf_i64 h2, wf_i64 h3, wf_i64 h4, wf_u64 h5⟩, rfl⟩
theorem LV_evs {S : St} {B : Nat} {u : Value} (h : LV S (.sl evL B) u) : ∃ a c l, u = .slice a l.length c ∧ l.length ≤ c ∧ l.length * B ≤ reachBytes ∧ Ar S a l.length 6 Ev.cells l ∧ ∀ x ∈ l, EvR x :=
  h.listC Ev.cells EvR (fun _ => rfl) fun c hc hat => dec_ev hc hat
theorem u8_of {n : Int} (h : (Lit.int .u8 n).wf = true) : 0 ≤ n ∧ n < 256 := by
  simp [Lit.wf, IntKind.min, IntKind.max, IntKind.signed, IntKind.bits] at h
  omega
theorem LV_words {S : St} {B : Nat} {u : Value} (h : LV S (.sl [some .u64] B) u) : ∃ a c l, u = .slice a l.length c ∧ l.length ≤ c ∧ l.length * B ≤ reachBytes ∧ Ar S a l.length 1 eU l ∧ ∀ x ∈ l, u64p x :=
  h.listC eU u64p (fun _ => rfl) fun c hc hat => by
    match c, hc with
    | [v], _ =>
      obtain ⟨n, rfl, hw⟩ := hat 0 _ _ rfl rfl
      exact ⟨n, wf_u64 hw, rfl⟩
end Go.Proofs.Ytcilfgedcnehfaa
set_option linter.unusedVariables false
set_option linter.unusedSectionVars false
set_option linter.unusedSimpArgs false
namespace Go.Proofs.Ytcilfgedcnehfaa
open Go.ChangeShapes Go.WideShapes Go.ChangeAt Go.RowKit Go.AM
theorem u64r_of {x : Int} (h : u64p x) : Go.Proofs.Ytcilfgedcnehfaa.u64r x := ⟨h.1, by have := h.2; omega⟩
set_option maxRecDepth 100000 in
theorem scriptOrder_lifted (os : Os) (started : os.Started) (H : Type) (enc : TypeId × Value → H) :
    ReturnsInHanded {} Try.checked os 11 .any (Rows.scriptOrderSpec.pre6 enc Try.prog Try.f11 Rows.scriptOrderRow.domain false) (Rows.scriptOrderSpec.post enc Try.prog Try.f11 false true false false) := by
  refine returnsInHanded_of_change_sized (C := Try.checked) own_ started (by kernel_rfl) Try.func11
    (ChangeSpec.witness6 (enc := enc) (C := Try.checked) false ⟨#[], #[.slice none 0 0, .slice none 0 0, .int .u8 0, .int .i64 0, .int .i64 0, .int .i64 0], []⟩ 8 (by kernel_rfl) (by kernel_rfl) (by kernel_rfl) (by kernel_rfl)) ?_
  intro W base args ds gs before hval0 hW hcnd hsz0 _
  have hsz : (DataW.weightsEach Try.prog (Try.f11.params.toList ++ Rows.scriptOrderSpec.plain.varTypes Try.prog) (ds ++ gs)).all (· ≤ reachBytes) = true := hsz0
  have hval : ∀ (j : Nat) t v, Try.f11.params[j]? = some t → args[j]? = some v → Value.okWide Try.prog W .any base t v := hval0
  have hW' := hW
  obtain ⟨p, q, hA0, hV, rfl, hfz, hnd⟩ := hW
  have hA : DataW.TrodAll enc Try.prog W 0 (fun _ => true) true Try.f11.params.toList args.toList ds p := hA0
  rw [Try.params11] at hA hval hsz
  obtain ⟨v0, vs0, d0, ds0, p0, q0, hargs, rfl, rfl, h0, r0⟩ := trodAll_cons hA
  obtain ⟨v1, vs1, d1, ds1, p1, q1, rfl, rfl, rfl, h1, r1⟩ := trodAll_cons r0
  obtain ⟨v2, vs2, d2, ds2, p2, q2, rfl, rfl, rfl, h2, r2⟩ := trodAll_cons r1
  obtain ⟨v3, vs3, d3, ds3, p3, q3, rfl, rfl, rfl, h3, r3⟩ := trodAll_cons r2
  obtain ⟨v4, vs4, d4, ds4, p4, q4, rfl, rfl, rfl, h4, r4⟩ := trodAll_cons r3
  obtain ⟨v5, vs5, d5, ds5, p5, q5, rfl, rfl, rfl, h5, r5⟩ := trodAll_cons r4
  obtain ⟨rfl, rfl, rfl⟩ := trodAll_nil r5
  obtain rfl : args = #[v0, v1, v2, v3, v4, v5] := by cases args; simp_all
  obtain ⟨rfl, rfl⟩ := trodVars_none hV
  have lt0 : ∀ x ∈ p0, x.block < W.heap.size := by obtain ⟨m, hm⟩ := h0; exact DataW.trod_lt m _ _ _ hm
  have lt1 : ∀ x ∈ p1, x.block < W.heap.size := by obtain ⟨m, hm⟩ := h1; exact DataW.trod_lt m _ _ _ hm
  have lt2 : ∀ x ∈ p2, x.block < W.heap.size := by obtain ⟨m, hm⟩ := h2; exact DataW.trod_lt m _ _ _ hm
  have lt3 : ∀ x ∈ p3, x.block < W.heap.size := by obtain ⟨m, hm⟩ := h3; exact DataW.trod_lt m _ _ _ hm
  have lt4 : ∀ x ∈ p4, x.block < W.heap.size := by obtain ⟨m, hm⟩ := h4; exact DataW.trod_lt m _ _ _ hm
  have lt5 : ∀ x ∈ p5, x.block < W.heap.size := by obtain ⟨m, hm⟩ := h5; exact DataW.trod_lt m _ _ _ hm
  have walk : Calls Try.prog 11 #[v0, v1, v2, v3, v4, v5] W fun en w' => en = .returned (.bool true) ∧ Below W.heap.size W w' := by
    have hG : ∀ p ∈ ([] : List (Nat × Obj)), W.heap[p.1]? = some p.2 := fun p hp => by cases hp
    have hU8 : U8 ([] : List (Nat × Obj)) := fun p hp => by cases hp
    have fit : ∀ (j : Nat) t d, [22, 41, 5, 3, 3, 3][j]? = some t → [d0, d1, d2, d3, d4, d5][j]? = some d → Fits Try.prog t d := fun j t d ht hd n hn => by
      have := List.all_eq_true.1 hsz _ (DataW.weights_mem_each (j := j) (by rw [List.getElem?_append_left (List.getElem?_eq_some_iff.1 ht).1]; exact ht) (by rw [List.getElem?_append_left (List.getElem?_eq_some_iff.1 hd).1]; exact hd) n hn)
      simpa using this
    obtain ⟨u0, rr0, g0⟩ := open_sl0 (b0 := base) hU8 hG (k := 4) (es := evL) (B := 48) Try.underlying22 (hval 0 22 v0 rfl rfl) (by kernel_rfl) (by kernel_rfl) h0 (fit 0 _ _ rfl rfl)
    obtain ⟨a0, c0, l0, rfl, hc0, hb0, ha0, hr0⟩ := LV_evs g0
    obtain ⟨u1, rr1, g1⟩ := open_sl0 (b0 := base) hU8 hG (k := 4) (es := [some .u64]) (B := 8) Try.underlying41 (hval 1 41 v1 rfl rfl) (by kernel_rfl) (by kernel_rfl) h1 (fit 1 _ _ rfl rfl)
    obtain ⟨a1, c1, l1, rfl, hc1, hb1, ha1, hr1⟩ := LV_words g1
    obtain ⟨z2, rfl, _, _, hz2⟩ := open_int Try.underlying5 (hval 2 5 v2 rfl rfl) h2
    obtain ⟨z3, rfl, _, _, hz3⟩ := open_int Try.underlying3 (hval 3 3 v3 rfl rfl) h3
    obtain ⟨z4, rfl, _, _, hz4⟩ := open_int Try.underlying3 (hval 4 3 v4 rfl rfl) h4
    obtain ⟨z5, rfl, _, _, hz5⟩ := open_int Try.underlying3 (hval 5 3 v5 rfl rfl) h5
    refine law_of (g_l10_ScriptOrder_ok trivial) hG (.cons rr0 (.cons rr1 (.cons (.flat rfl) (.cons (.flat rfl) (.cons (.flat rfl) (.cons (.flat rfl) .nil)))))) ?_
    obtain ⟨v, S', h1, h2, rfl⟩ := order_law (c := c0) (d := c1) ha0 (fun x hx => (hr0 x hx).r) (fun x hx => u64r_of (hr0 x hx).ma) ha1 (fun x hx => u64r_of (hr1 x hx)) (u8_of hz2)
    exact ⟨S', h1, h2⟩
  refine walk.mono fun e W' ⟨he, bel⟩ => ?_
  subst he
  exact ⟨_, rfl, _, _, _, [], _, [], hW', trodAll_mk1 (shut_bool Try.underlying4 _), (trodAll_cons_mk (Below.trod laidOut_ (by kernel_rfl) (of_decide_eq_true (by kernel_rfl)) h0 bel lt0) (trodAll_cons_mk (Below.trod laidOut_ (by kernel_rfl) (of_decide_eq_true (by kernel_rfl)) h1 bel lt1) (trodAll_cons_mk (Below.trod laidOut_ (by kernel_rfl) (of_decide_eq_true (by kernel_rfl)) h2 bel lt2) (trodAll_cons_mk (Below.trod laidOut_ (by kernel_rfl) (of_decide_eq_true (by kernel_rfl)) h3 bel lt3) (trodAll_cons_mk (Below.trod laidOut_ (by kernel_rfl) (of_decide_eq_true (by kernel_rfl)) h4 bel lt4) (trodAll_cons_mk (Below.trod laidOut_ (by kernel_rfl) (of_decide_eq_true (by kernel_rfl)) h5 bel lt5) trodAll_mk0)))))), rfl, bel.frame _, fun h => by cases h⟩

theorem scriptOrder_holds : Rows.ScriptOrderSaid :=
  OpenClaim.holds_of_wide 11 Try.f11 rfl rfl rfl rfl rfl rfl rfl ⟨rfl, rfl, rfl, rfl, rfl⟩ rfl rfl rfl rfl rfl (by kernel_rfl) Try.func11 (by kernel_rfl)
    (of_decide_eq_true (by kernel_rfl)) (by unfold Func.isWrapper; first | (rw [if_pos (by decide +kernel)]; kernel_rfl) | (rw [if_neg (by decide +kernel)]; exact ⟨rfl, rfl⟩))
    (fun os started H enc _ => scriptOrder_lifted os started H enc)

#print axioms scriptOrder_holds
end Go.Proofs.Ytcilfgedcnehfaa
