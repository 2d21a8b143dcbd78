import Derived.Test.YtcilfgedcnehfaaDoorFld
set_option linter.unusedVariables false
set_option linter.unusedSectionVars false
set_option linter.unusedSimpArgs false
namespace Go.Proofs.YtcilfgedcnehfaaDoor
open Go.RowKit
def genF (p : Int) : Int := if p = P0 then 7 else if p = P1 then 3 else if p = P2 then 31 else 0
set_option maxHeartbeats 1000000 in
set_option maxRecDepth 100000 in
theorem gen_any (p : Int) (w : World) : Calls Tryd.prog 73 #[.int .u64 p] w fun e w' => e = .returned (.int .u64 (genF p)) ∧ Below w.heap.size w w' := by
  have i0 : ∀ w, (Instr.index 121 (.agg #[.int .u64 18446744069414584321, .int .u64 7, .int .u64 998244353, .int .u64 3, .int .u64 2013265921, .int .u64 31]) (.int .i64 0)).run Tryd.prog w = .ok (.agg #[.int .u64 18446744069414584321, .int .u64 7]) w := fun _ => by kernel_rfl
  have i1 : ∀ w, (Instr.index 121 (.agg #[.int .u64 18446744069414584321, .int .u64 7, .int .u64 998244353, .int .u64 3, .int .u64 2013265921, .int .u64 31]) (.int .i64 1)).run Tryd.prog w = .ok (.agg #[.int .u64 998244353, .int .u64 3]) w := fun _ => by kernel_rfl
  have i2 : ∀ w, (Instr.index 121 (.agg #[.int .u64 18446744069414584321, .int .u64 7, .int .u64 998244353, .int .u64 3, .int .u64 2013265921, .int .u64 31]) (.int .i64 2)).run Tryd.prog w = .ok (.agg #[.int .u64 2013265921, .int .u64 31]) w := fun _ => by kernel_rfl
  by_cases h0 : p = 18446744069414584321
  · subst h0
    go_enter Tryd.func73, Tryd.ntmps73
    go_wp2
    refine wp_loop_rounds 1 ?_
    rw [rounds_succ]
    go_wp2
    go_ret
    exact ⟨rfl, by repeat (first | exact Below.refl _ _ | refine Below.setCell ?_ (by first | exact Nat.le_refl _ | (simp; done) | (simp; omega)) _ | refine Below.alloc ?_ (by first | exact Nat.le_refl _ | (simp; done) | (simp; omega)) _)⟩
  · have q0 : ((18446744069414584321 : Int) == p) = false := beq_eq_false_iff_ne.2 (fun e => h0 e.symm)
    by_cases h1 : p = 998244353
    · subst h1
      go_enter Tryd.func73, Tryd.ntmps73
      go_wp2
      refine wp_loop_rounds 2 ?_
      rw [rounds_succ]
      go_wp2
      rw [rounds_succ]
      go_wp2
      go_ret
      exact ⟨by rfl, by repeat (first | exact Below.refl _ _ | refine Below.setCell ?_ (by first | exact Nat.le_refl _ | (simp; done) | (simp; omega)) _ | refine Below.alloc ?_ (by first | exact Nat.le_refl _ | (simp; done) | (simp; omega)) _)⟩
    · have q1 : ((998244353 : Int) == p) = false := beq_eq_false_iff_ne.2 (fun e => h1 e.symm)
      by_cases h2 : p = 2013265921
      · subst h2
        go_enter Tryd.func73, Tryd.ntmps73
        go_wp2
        refine wp_loop_rounds 3 ?_
        rw [rounds_succ]
        go_wp2
        rw [rounds_succ]
        go_wp2
        rw [rounds_succ]
        go_wp2
        go_ret
        exact ⟨by rfl, by repeat (first | exact Below.refl _ _ | refine Below.setCell ?_ (by first | exact Nat.le_refl _ | (simp; done) | (simp; omega)) _ | refine Below.alloc ?_ (by first | exact Nat.le_refl _ | (simp; done) | (simp; omega)) _)⟩
      · have q2 : ((2013265921 : Int) == p) = false := beq_eq_false_iff_ne.2 (fun e => h2 e.symm)
        have hg : genF p = 0 := by unfold genF P0 P1 P2; rw [if_neg h0, if_neg h1, if_neg h2]
        have HG := Lib.hid hg
        clear hg h0 h1 h2
        go_enter Tryd.func73, Tryd.ntmps73
        go_wp2
        refine wp_loop_rounds 4 ?_
        rw [rounds_succ]
        go_wp2
        rw [rounds_succ]
        go_wp2
        rw [rounds_succ]
        go_wp2
        rw [rounds_succ]
        go_wp2
        go_ret
        exact ⟨by rw [HG.out]; rfl, by repeat (first | exact Below.refl _ _ | refine Below.setCell ?_ (by first | exact Nat.le_refl _ | (simp; done) | (simp; omega)) _ | refine Below.alloc ?_ (by first | exact Nat.le_refl _ | (simp; done) | (simp; omega)) _)⟩
end Go.Proofs.YtcilfgedcnehfaaDoor
