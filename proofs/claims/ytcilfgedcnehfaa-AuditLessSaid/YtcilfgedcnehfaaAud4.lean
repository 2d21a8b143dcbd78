/-
  The law AuditLess of brackenlaw24 is true for every input: without any of its records what matches matches.
  Conditions: none.
-/
import Derived.Test.YtcilfgedcnehfaaRows
import Derived.Test.YtcilfgedcnehfaaOwn
import Derived.Test.YtcilfgedcnehfaaAud3
set_option linter.unusedVariables false
set_option linter.unusedSectionVars false
set_option linter.unusedSimpArgs false
namespace Go.Proofs.Ytcilfgedcnehfaa
open Go.ChangeShapes Go.WideShapes Go.ChangeAt Go.RowKit

theorem auditLess_far (w : World) (A B : Option Addr) (n m c d : Nat) (hn : n ≤ 140737488355328) (hm : m ≤ 140737488355328) (q : Int) (x : Ev) (hf : 40 < n ∨ 40 < m) :
    Calls Try.prog 3 #[.slice A n c, .slice B m d, .int .u8 q, x.val] w fun en w' => en = .returned (.bool true) ∧ Below w.heap.size w w' := by
  obtain ⟨x0, x1, x2, x3, x4, x5⟩ := x
  dsimp only [Ev.val]
  by_cases h1 : 40 < n
  all_goals
    go_enter Try.func3, Try.ntmps3
    go_wp2_with fail
    refine (auditLive_any _).mono ?_
    rintro e w1 ⟨rfl, hB⟩
    have hB1 := bafter hB
    have h2 : ¬ 40 < n → 40 < m := by omega
    clear hB
    go_wp2
    go_ret
    exact ⟨rfl, hB1⟩


set_option maxRecDepth 100000 in
theorem auditLess_lifted (os : Os) (started : os.Started) (H : Type) (enc : TypeId × Value → H) :
    ReturnsInHanded {} Try.checked os 3 .any (Rows.auditLessSpec.pre6 enc Try.prog Try.f3 Rows.auditLessRow.domain false) (Rows.auditLessSpec.post enc Try.prog Try.f3 false true false false) := by
  refine returnsInHanded_of_change_sized (C := Try.checked) own_ started (by kernel_rfl) Try.func3
    (ChangeSpec.witness6 (enc := enc) (C := Try.checked) false ⟨#[], #[.slice none 0 0, .slice none 0 0, .int .u8 0, .agg #[.int .i64 0, .int .i64 0, .int .i64 0, .int .i64 0, .int .i64 0, .int .u64 0]], []⟩ 8 (by kernel_rfl) (by kernel_rfl) (by kernel_rfl) (by kernel_rfl)) ?_
  intro W base args ds gs before hval0 hW hcnd hsz0 _
  have hsz : (DataW.weightsEach Try.prog (Try.f3.params.toList ++ Rows.auditLessSpec.plain.varTypes Try.prog) (ds ++ gs)).all (· ≤ reachBytes) = true := hsz0
  have hval : ∀ (j : Nat) t v, Try.f3.params[j]? = some t → args[j]? = some v → Value.okWide Try.prog W .any base t v := hval0
  have hW' := hW
  obtain ⟨p, q, hA0, hV, rfl, hfz, hnd⟩ := hW
  have hA : DataW.TrodAll enc Try.prog W 0 (fun _ => true) true Try.f3.params.toList args.toList ds p := hA0
  rw [Try.params3] at hA hval hsz
  obtain ⟨v0, vs0, d0, ds0, p0, q0, hargs, rfl, rfl, h0, r0⟩ := trodAll_cons hA
  obtain ⟨v1, vs1, d1, ds1, p1, q1, rfl, rfl, rfl, h1, r1⟩ := trodAll_cons r0
  obtain ⟨v2, vs2, d2, ds2, p2, q2, rfl, rfl, rfl, h2, r2⟩ := trodAll_cons r1
  obtain ⟨v3, vs3, d3, ds3, p3, q3, rfl, rfl, rfl, h3, r3⟩ := trodAll_cons r2
  obtain ⟨rfl, rfl, rfl⟩ := trodAll_nil r3
  obtain rfl : args = #[v0, v1, v2, v3] := by cases args; simp_all
  obtain ⟨rfl, rfl⟩ := trodVars_none hV
  have lt0 : ∀ x ∈ p0, x.block < W.heap.size := by obtain ⟨m, hm⟩ := h0; exact DataW.trod_lt m _ _ _ hm
  have lt1 : ∀ x ∈ p1, x.block < W.heap.size := by obtain ⟨m, hm⟩ := h1; exact DataW.trod_lt m _ _ _ hm
  have lt2 : ∀ x ∈ p2, x.block < W.heap.size := by obtain ⟨m, hm⟩ := h2; exact DataW.trod_lt m _ _ _ hm
  have lt3 : ∀ x ∈ p3, x.block < W.heap.size := by obtain ⟨m, hm⟩ := h3; exact DataW.trod_lt m _ _ _ hm
  have walk : Calls Try.prog 3 #[v0, v1, v2, v3] W fun en w' => en = .returned (.bool true) ∧ Below W.heap.size W w' := by
    obtain ⟨A, n, c, l, hv0, hnc, hnB, hrd0, _⟩ := open_evs (k := 3) Try.underlying22 (by kernel_rfl) (by kernel_rfl) (by kernel_rfl) (hval 0 22 v0 rfl rfl) h0 hsz (q := 0) rfl rfl
    obtain ⟨B, m, d, r, hv1, hmd, hmB, hrd1, _⟩ := open_rcs (k := 3) Try.underlying23 (by kernel_rfl) (by kernel_rfl) (by kernel_rfl) (hval 1 23 v1 rfl rfl) h1 hsz (q := 1) rfl rfl
    obtain ⟨z, hv2, _, _, wz⟩ := open_int Try.underlying5 (hval 2 5 v2 rfl rfl) h2
    obtain ⟨x, hv3, _⟩ := open_ev (k := 3) Try.underlying26 (by kernel_rfl) (by kernel_rfl) (hval 3 26 v3 rfl rfl) h3
    have bz := bounds_u8 wz
    rw [hv0, hv1, hv2, hv3]
    by_cases hf : 40 < n ∨ 40 < m
    · exact auditLess_far W A B n m c d hrd0.big hrd1.big z x hf
    · exact auditLess_any W A B n m c d l r hrd0 hrd1 z bz.1 (by omega) x hnc hmd (by omega) (by omega)
  refine walk.mono fun e W' ⟨he, bel⟩ => ?_
  subst he
  exact ⟨_, rfl, _, _, _, [], _, [], hW', trodAll_mk1 (shut_bool Try.underlying4 _),
    (trodAll_cons_mk (Below.trod laidOut_ (by kernel_rfl) (of_decide_eq_true (by kernel_rfl)) h0 bel lt0) (trodAll_cons_mk (Below.trod laidOut_ (by kernel_rfl) (of_decide_eq_true (by kernel_rfl)) h1 bel lt1) (trodAll_cons_mk (Below.trod laidOut_ (by kernel_rfl) (of_decide_eq_true (by kernel_rfl)) h2 bel lt2) (trodAll_cons_mk (Below.trod laidOut_ (by kernel_rfl) (of_decide_eq_true (by kernel_rfl)) h3 bel lt3) trodAll_mk0)))), rfl, bel.frame _, fun h => by cases h⟩

theorem auditLess_holds : Rows.AuditLessSaid :=
  OpenClaim.holds_of_wide 3 Try.f3 rfl rfl rfl rfl rfl rfl rfl ⟨rfl, rfl, rfl, rfl, rfl⟩ rfl rfl rfl rfl rfl (by kernel_rfl) Try.func3 (by kernel_rfl)
    (of_decide_eq_true (by kernel_rfl)) (by unfold Func.isWrapper; first | (rw [if_pos (by decide +kernel)]; kernel_rfl) | (rw [if_neg (by decide +kernel)]; exact ⟨rfl, rfl⟩))
    (fun os started H enc _ => auditLess_lifted os started H enc)
#print axioms auditLess_holds
end Go.Proofs.Ytcilfgedcnehfaa
