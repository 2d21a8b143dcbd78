import Derived.Lib.Zigzag
import Derived.Lib.BitFns
import Derived.Test.YtcilfgedcnehfaaDoorPCPx2
set_option linter.unusedVariables false
set_option linter.unusedSimpArgs false
namespace Go.Proofs.YtcilfgedcnehfaaDoor.PCP
open Go.RowKit Go.Proofs.YtcilfgedcnehfaaDoorW.PrintWords Go.Proofs.YtcilfgedcnehfaaDoorW.PrintLast Go.Proofs.YtcilfgedcnehfaaDoorW.PrintMore

/-! ### powers -/
def powM (p a : Int) (n : Nat) : Int := if known p = true then a ^ n % p else 0
theorem powM_range (p a : Int) (n : Nat) : 0 ≤ powM p a n ∧ powM p a n < 18446744073709551616 := by
  unfold powM
  cases hk : known p with
  | false => simp
  | true =>
    have hp := known_pos hk
    rw [if_pos rfl]
    exact ⟨Int.emod_nonneg _ (by omega), by have := Int.emod_lt_of_pos (a ^ n) (b := p) (by omega); omega⟩
theorem mulF_powM (p a : Int) (m n : Nat) : mulF p (powM p a m) (powM p a n) = powM p a (m + n) := by
  unfold mulF powM
  cases hk : known p with
  | false => simp
  | true => simp only [if_true]; rw [← Int.mul_emod, ← Int.pow_add]
theorem mulF_powM1 (p a : Int) (m : Nat) : mulF p (powM p a m) a = powM p a (m + 1) := by
  unfold mulF powM
  cases hk : known p with
  | false => simp
  | true => simp only [if_true]; rw [Int.pow_succ, Int.mul_emod, Int.emod_emod_of_dvd _ (Int.dvd_refl p), ← Int.mul_emod]
theorem bitLenAux_le : ∀ (f x : Nat), x < 2 ^ f → x < 2 ^ Lib.bitLenAux f x ∧ Lib.bitLenAux f x ≤ f
  | 0, x, h => by simpa [Lib.bitLenAux] using h
  | f + 1, x, h => by
    unfold Lib.bitLenAux
    by_cases h0 : x = 0
    · rw [if_pos h0]; subst h0; simp
    · rw [if_neg h0]
      obtain ⟨h1, h2⟩ := bitLenAux_le f (x / 2) (by rw [Nat.pow_succ] at h; omega)
      refine ⟨?_, by omega⟩
      rw [Nat.add_comm, Nat.pow_succ]; omega
theorem wrap_small {i : Int} (h0 : -9223372036854775808 ≤ i) (h1 : i ≤ 9223372036854775807) : wrap64 i = i := by unfold wrap64; omega

theorem odd_half (q : Nat) (h : q % 2 = 1) : q / 2 + q / 2 + 1 = q := by omega
theorem even_half (q : Nat) (h : ¬ q % 2 = 1) : q / 2 + q / 2 = q := by omega
theorem pow_loop (p a n : Int) (N : Nat) (hn : n = (N : Int)) (hN : N < 18446744073709551616) (ha : 0 ≤ a) (ha2 : a < 18446744073709551616) : ∀ (d : Nat), d ≤ 64 →
    Ev (fun k => power_Pow.l0 k p a n (powM p a (N / 2 ^ d)) ((d : Int) - 1)) (powM p a N)
  | 0, _ => Ev.step (f := fun _ => some (powM p a N)) (fun k => by
      simp only [power_Pow.l0]; rw [if_neg (by omega)]; simp) (Ev.now _)
  | d + 1, hd => by
    have ih := pow_loop p a n N hn hN ha ha2 d (by omega)
    obtain ⟨r0, r1⟩ := powM_range p a (N / 2 ^ (d + 1))
    have hm : field_Mul.f p (powM p a (N / 2 ^ (d + 1))) (powM p a (N / 2 ^ (d + 1))) = some (powM p a (N / 2 ^ (d + 1) + N / 2 ^ (d + 1))) := by
      unfold field_Mul.f; rw [if_pos ⟨r0, r1, r0, r1⟩, mulF_powM]
    obtain ⟨s0, s1⟩ := powM_range p a (N / 2 ^ (d + 1) + N / 2 ^ (d + 1))
    have hm2 : field_Mul.f p (powM p a (N / 2 ^ (d + 1) + N / 2 ^ (d + 1))) a = some (powM p a (N / 2 ^ (d + 1) + N / 2 ^ (d + 1) + 1)) := by
      unfold field_Mul.f; rw [if_pos ⟨s0, s1, ha, ha2⟩, mulF_powM1]
    have hsh : shr .u64 n ((d + 1 : Nat) - 1 : Int) = ((N / 2 ^ d : Nat) : Int) := by
      unfold shr
      rw [show ((d + 1 : Nat) - 1 : Int).toNat = d by omega, Nat.min_eq_left (show d ≤ IntKind.u64.bits by simp only [IntKind.bits]; omega), hn]
      simp
    have hlt : N / 2 ^ d < 18446744073709551616 := Nat.lt_of_le_of_lt (Nat.div_le_self _ _) hN
    have hand : Go.bits .and .u64 (shr .u64 n ((d + 1 : Nat) - 1 : Int)) 1 = ((N / 2 ^ d % 2 : Nat) : Int) := by
      rw [hsh]
      generalize N / 2 ^ d = q at hlt ⊢
      rw [Lib.u64_and1 _ (by omega) (by omega)]; omega
    have hdiv : N / 2 ^ (d + 1) = N / 2 ^ d / 2 := by rw [Nat.pow_succ, Nat.div_div_eq_div_mul]
    have hw : wrap64 (((d + 1 : Nat) : Int) - 1 - 1) = (d : Int) - 1 := by rw [wrap_small (by omega) (by omega)]; omega
    by_cases hb : N / 2 ^ d % 2 = 1
    · refine Ev.step (f := fun k => power_Pow.l0 k p a n (powM p a (N / 2 ^ d)) ((d : Int) - 1)) (fun k => ?_) ih
      simp only [power_Pow.l0]
      rw [if_pos (by omega), hm]
      simp only [Option.bind_some]
      rw [if_pos (by omega), hand, if_pos (by rw [hb]; rfl), hm2, hw]
      simp only [Option.bind_some]
      rw [hdiv, odd_half _ hb]
    · refine Ev.step (f := fun k => power_Pow.l0 k p a n (powM p a (N / 2 ^ d)) ((d : Int) - 1)) (fun k => ?_) ih
      simp only [power_Pow.l0]
      rw [if_pos (by omega), hm]
      simp only [Option.bind_some]
      rw [if_pos (by omega), hand, if_neg (fun e => hb (by exact_mod_cast e)), hw]
      rw [hdiv, even_half _ hb]
theorem pow_ev (p a : Int) (N : Nat) (hN : N < 18446744073709551616) (ha : 0 ≤ a) (ha2 : a < 18446744073709551616) : Ev (fun k => power_Pow.f k p a (N : Int)) (powM p a N) := by
  obtain ⟨h1, h2⟩ := bitLenAux_le 64 N (by simpa using hN)
  have h0 : N / 2 ^ Lib.bitLenAux 64 N = 0 := Nat.div_eq_of_lt h1
  have hr : field_Reduce.f p 1 = some (powM p a 0) := by
    unfold field_Reduce.f; rw [if_pos ⟨by omega, by omega⟩]; unfold red powM; rw [Int.pow_zero]
  have hl : bits_Len64.f (N : Int) = some ((Lib.bitLenAux 64 N : Nat) : Int) := by
    unfold bits_Len64.f; rw [if_pos ⟨by omega, by omega⟩, Int.toNat_natCast]; rfl
  refine Ev.congr (f := fun k => power_Pow.l0 k p a N (powM p a (N / 2 ^ Lib.bitLenAux 64 N)) ((Lib.bitLenAux 64 N : Int) - 1)) (fun k => ?_) (pow_loop p a N N rfl hN ha ha2 _ h2)
  unfold power_Pow.f
  rw [hr, hl, h0]
  simp only [Option.bind_some]
  rw [wrap_small (by omega) (by omega)]
end Go.Proofs.YtcilfgedcnehfaaDoor.PCP
