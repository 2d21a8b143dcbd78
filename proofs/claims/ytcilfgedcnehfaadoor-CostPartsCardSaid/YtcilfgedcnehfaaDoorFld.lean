import Derived.WalkKit
import Derived.BigQuiet
import Derived.Deep.QuietTactic
import Derived.Lib.Hide
import Derived.KernelRfl
import Derived.IntWalk
import Derived.Shelf.Spec.BitsCarry
import Derived.Laws.MathBits
import Derived.Laws.BitsLemmas
import Derived.Test.YtcilfgedcnehfaaDoorProg
import Derived.Test.YtcilfgedcnehfaaDoorShelf
set_option linter.unusedVariables false
set_option linter.unusedSectionVars false
set_option linter.unusedSimpArgs false
namespace Go.Proofs.YtcilfgedcnehfaaDoor
open Go.RowKit

/-! ### the field's numbers -/
def P0 : Int := 18446744069414584321
def P1 : Int := 998244353
def P2 : Int := 2013265921
def known (p : Int) : Bool := p == P0 || p == P1 || p == P2
def red (p a : Int) : Int := if known p = true then a % p else 0
def mulF (p a b : Int) : Int := if known p = true then a * b % p else 0
def addF (p a b : Int) : Int := if known p = true then (a + b) % p else 0
def subF (p a b : Int) : Int := if known p = true then (a - b) % p else 0
def u64r (a : Int) : Bool := decide (0 ≤ a ∧ a < 18446744073709551616)

theorem known_any (p : Int) (w : World) : Calls Tryd.prog 45 #[.int .u64 p] w fun e w' => e = .returned (.bool (known p)) ∧ w = w' := by
  unfold known P0 P1 P2
  by_cases h0 : p = 18446744069414584321
  · subst h0
    go_enter Tryd.func45, Tryd.ntmps45
    go_wp2
    go_ret
    exact ⟨rfl, rfl⟩
  · by_cases h1 : p = 998244353
    · subst h1
      go_enter Tryd.func45, Tryd.ntmps45
      go_wp2
      go_ret
      exact ⟨rfl, rfl⟩
    · by_cases h2 : p = 2013265921
      · subst h2
        go_enter Tryd.func45, Tryd.ntmps45
        go_wp2
        go_ret
        exact ⟨rfl, rfl⟩
      · have e0 : (p == 18446744069414584321) = false := beq_eq_false_iff_ne.2 h0
        have e1 : (p == 998244353) = false := beq_eq_false_iff_ne.2 h1
        have e2 : (p == 2013265921) = false := beq_eq_false_iff_ne.2 h2
        go_enter Tryd.func45, Tryd.ntmps45
        go_wp2
        go_ret
        exact ⟨by rw [e0, e1, e2]; rfl, rfl⟩

theorem add64_at (x y s c : Int) (hx : 0 ≤ x) (hx2 : x < 18446744073709551616) (hy : 0 ≤ y) (hy2 : y < 18446744073709551616) (hs : s = (x + y) % 18446744073709551616) (hc : c = if x + y < 18446744073709551616 then 0 else 1) (w : World) :
    (callFunc 77 #[.int .u64 x, .int .u64 y, .int .u64 0]).run Tryd.prog w = .ok (.value (.tuple #[.int .u64 s, .int .u64 c])) w := by
  rw [run_callFunc_extern Tryd.func77 (by kernel_rfl) (by kernel_rfl) (by kernel_rfl) (e := add64Entry) (by kernel_rfl)]
  obtain ⟨m, rfl⟩ := Int.eq_ofNat_of_zero_le hx
  obtain ⟨n, rfl⟩ := Int.eq_ofNat_of_zero_le hy
  have h := run_add64 (P := Tryd.prog) (w := w) (m : Int) (n : Int) 0 (by omega) (by omega) (by omega) (by omega)
  have e1 : ((m : Int) + n + 0) % 18446744073709551616 = s := by rw [hs, Int.add_zero]
  have e2 : ((m : Int) + n + 0) / 18446744073709551616 = c := by rw [hc]; split <;> omega
  rw [h, e1, e2]
  rfl
theorem sub64_at (x y s c : Int) (hx : 0 ≤ x) (hx2 : x < 18446744073709551616) (hy : 0 ≤ y) (hy2 : y < 18446744073709551616) (hs : s = (x - y) % 18446744073709551616) (hc : c = if x < y then 1 else 0) (w : World) :
    (callFunc 76 #[.int .u64 x, .int .u64 y, .int .u64 0]).run Tryd.prog w = .ok (.value (.tuple #[.int .u64 s, .int .u64 c])) w := by
  rw [run_callFunc_extern Tryd.func76 (by kernel_rfl) (by kernel_rfl) (by kernel_rfl) (e := sub64Entry) (by kernel_rfl)]
  obtain ⟨m, rfl⟩ := Int.eq_ofNat_of_zero_le hx
  obtain ⟨n, rfl⟩ := Int.eq_ofNat_of_zero_le hy
  have h := run_sub64 (P := Tryd.prog) (w := w) m n 0 (by omega)
  have e1 : (((m + 18446744073709551616 - n - 0) % 18446744073709551616 : Nat) : Int) = s := by rw [hs]; omega
  have e2 : ((if m < n + 0 then 1 else 0 : Nat) : Int) = c := by rw [hc]; split <;> split <;> omega
  rw [e1, e2] at h
  rw [show (0 : Int) = ((0 : Nat) : Int) from rfl, h]
  rfl

theorem u64_wrap (n : Int) : IntKind.u64.wrap n = n % 18446744073709551616 := by simp [IntKind.wrap, IntKind.bits, IntKind.signed]
theorem known_P0 : known P0 = true := rfl
theorem reduce_any (p a : Int) (ha : 0 ≤ a) (ha2 : a < 18446744073709551616) (w : World) :
    Calls Tryd.prog 52 #[.int .u64 p, .int .u64 a] w fun e w' => e = .returned (.int .u64 (red p a)) ∧ w = w' := by
  cases hk : known p with
  | false =>
    have hr : red p a = 0 := by unfold red; rw [hk]; rfl
    have HR := Lib.hid hr
    have HK := Lib.hid hk
    clear hr hk
    go_enter Tryd.func52, Tryd.ntmps52
    go_wp2_with fail
    refine (known_any p _).mono ?_
    rw [HK.out]
    rintro e w' ⟨rfl, rfl⟩
    go_wp2
    go_ret
    exact ⟨by rw [HR.out]; rfl, rfl⟩
  | true =>
    have hr : red p a = a % p := by unfold red; rw [hk]; rfl
    have HR := Lib.hid hr
    have HK := Lib.hid hk
    clear hr
    by_cases h0 : p = P0
    · unfold P0 at h0
      subst h0
      clear hk
      by_cases hge : (18446744069414584321 : Int) ≤ a
      · go_enter Tryd.func52, Tryd.ntmps52
        go_wp2_with fail
        refine (known_any _ _).mono ?_
        rw [HK.out]
        rintro e w' ⟨rfl, rfl⟩
        go_wp2
        go_ret
        exact ⟨by rw [HR.out, show a % 18446744069414584321 = a - 18446744069414584321 from by omega]; rfl, rfl⟩
      · go_enter Tryd.func52, Tryd.ntmps52
        go_wp2_with fail
        refine (known_any _ _).mono ?_
        rw [HK.out]
        rintro e w' ⟨rfl, rfl⟩
        go_wp2
        go_ret
        exact ⟨by rw [HR.out, show a % 18446744069414584321 = a from by omega]; rfl, rfl⟩
    · have hp : 1 ≤ p ∧ p < 18446744073709551616 := by
        unfold known at hk
        simp only [Bool.or_eq_true, beq_iff_eq] at hk
        unfold P0 P1 P2 at hk
        omega
      obtain ⟨hp1, hp2⟩ := hp
      clear hk
      unfold P0 at h0
      have hb : (p == 18446744069414584321) = false := beq_eq_false_iff_ne.2 h0
      clear h0
      have hne : (p == 0) = false := beq_eq_false_iff_ne.2 (by omega)
      go_enter Tryd.func52, Tryd.ntmps52
      go_wp2_with fail
      refine (known_any _ _).mono ?_
      rw [HK.out]
      rintro e w' ⟨rfl, rfl⟩
      go_wp2
      go_ret
      exact ⟨by rw [HR.out]; rfl, rfl⟩

/-- a product of two words, by P0 -/
theorem gold_any (h d : Int) (hh : 0 ≤ h) (hh2 : h < 18446744073709551616) (hd : 0 ≤ d) (hd2 : d < 18446744073709551616) (w : World) :
    Calls Tryd.prog 53 #[.int .u64 h, .int .u64 d] w fun e w' => e = .returned (.int .u64 ((h * 18446744073709551616 + d) % P0)) ∧ w = w' := by
  obtain ⟨top, ht⟩ : ∃ t, t = h / 4294967296 := ⟨_, rfl⟩
  obtain ⟨mid, hm⟩ : ∃ t, t = h % 4294967296 := ⟨_, rfl⟩
  have htop : 0 ≤ top ∧ top < 4294967296 := by omega
  have hmid : 0 ≤ mid ∧ mid < 4294967296 := by omega
  have hhm : h = top * 4294967296 + mid := by omega
  have e1 : h / 4294967296 = top := ht.symm
  have e2 : bits .and .u64 h 4294967295 = mid := by rw [and_low32 h hh hh2, hm]
  have HH := Lib.hid hhm
  clear ht hm hhm
  obtain ⟨prod, hprod⟩ : ∃ t, t = mid * 4294967295 := ⟨_, rfl⟩
  have hp0 : 0 ≤ prod ∧ prod ≤ 18446744065119617025 := by omega
  have e3 : IntKind.u64.wrap (mid * 4294967295) = prod := by rw [u64_wrap]; omega
  have HP := Lib.hid hprod
  clear hprod
  have fin : ∀ s : Int, (∃ k : Int, s = h * 18446744073709551616 + d - k * 18446744069414584321) → s % P0 = (h * 18446744073709551616 + d) % P0 := by
    rintro s ⟨k, rfl⟩
    unfold P0
    rw [Int.sub_mul_emod_self_right]
  have HF := Lib.hid fin
  clear fin
  by_cases hb : d < top
  · -- the words go around
    obtain ⟨left, hl⟩ : ∃ t, t = d - top + 18446744073709551616 - 4294967295 := ⟨_, rfl⟩
    obtain ⟨l0, hl0⟩ : ∃ t, t = d - top + 18446744073709551616 := ⟨_, rfl⟩
    have hs := sub64_at d top l0 1 hd hd2 htop.1 (by omega) (by omega) (by rw [if_pos hb])
    have e4 : IntKind.u64.wrap (l0 - 4294967295) = left := by rw [u64_wrap]; omega
    have hlb : 0 ≤ left ∧ left < 18446744073709551616 := by omega
    by_cases hc : left + prod < 18446744073709551616
    · obtain ⟨sum, hsum⟩ : ∃ t, t = left + prod := ⟨_, rfl⟩
      have ha := add64_at left prod sum 0 hlb.1 hlb.2 hp0.1 (by omega) (by omega) (by rw [if_pos hc])
      have hsb : 0 ≤ sum ∧ sum < 18446744073709551616 := by omega
      have HS := Lib.hid (show ∃ k : Int, sum = h * 18446744073709551616 + d - k * 18446744069414584321 from ⟨top * 4294967297 + mid - 1, by have := HH.out; have := HP.out; omega⟩)
      clear hl hl0 hc hsum hlb hp0 hmid htop hb
      go_enter Tryd.func53, Tryd.ntmps53
      go_wp2_with fail
      refine (reduce_any P0 sum hsb.1 hsb.2 _).mono ?_
      rintro e w' ⟨rfl, rfl⟩
      go_wp2
      go_ret
      exact ⟨by rw [← HF.out _ HS.out]; rfl, rfl⟩
    · obtain ⟨s0, hs0⟩ : ∃ t, t = left + prod - 18446744073709551616 := ⟨_, rfl⟩
      obtain ⟨sum, hsum⟩ : ∃ t, t = s0 + 4294967295 := ⟨_, rfl⟩
      have ha := add64_at left prod s0 1 hlb.1 hlb.2 hp0.1 (by omega) (by omega) (by rw [if_neg hc])
      have e5 : IntKind.u64.wrap (s0 + 4294967295) = sum := by rw [u64_wrap]; omega
      have hsb : 0 ≤ sum ∧ sum < 18446744073709551616 := by omega
      have HS := Lib.hid (show ∃ k : Int, sum = h * 18446744073709551616 + d - k * 18446744069414584321 from ⟨top * 4294967297 + mid, by have := HH.out; have := HP.out; omega⟩)
      clear hl hl0 hc hsum hs0 hlb hp0 hmid htop hb
      go_enter Tryd.func53, Tryd.ntmps53
      go_wp2_with fail
      refine (reduce_any P0 sum hsb.1 hsb.2 _).mono ?_
      rintro e w' ⟨rfl, rfl⟩
      go_wp2
      go_ret
      exact ⟨by rw [← HF.out _ HS.out]; rfl, rfl⟩
  · obtain ⟨left, hl⟩ : ∃ t, t = d - top := ⟨_, rfl⟩
    have hs := sub64_at d top left 0 hd hd2 htop.1 (by omega) (by omega) (by rw [if_neg hb])
    have hlb : 0 ≤ left ∧ left < 18446744073709551616 := by omega
    by_cases hc : left + prod < 18446744073709551616
    · obtain ⟨sum, hsum⟩ : ∃ t, t = left + prod := ⟨_, rfl⟩
      have ha := add64_at left prod sum 0 hlb.1 hlb.2 hp0.1 (by omega) (by omega) (by rw [if_pos hc])
      have hsb : 0 ≤ sum ∧ sum < 18446744073709551616 := by omega
      have HS := Lib.hid (show ∃ k : Int, sum = h * 18446744073709551616 + d - k * 18446744069414584321 from ⟨top * 4294967297 + mid, by have := HH.out; have := HP.out; omega⟩)
      clear hl hc hsum hlb hp0 hmid htop hb
      go_enter Tryd.func53, Tryd.ntmps53
      go_wp2_with fail
      refine (reduce_any P0 sum hsb.1 hsb.2 _).mono ?_
      rintro e w' ⟨rfl, rfl⟩
      go_wp2
      go_ret
      exact ⟨by rw [← HF.out _ HS.out]; rfl, rfl⟩
    · obtain ⟨s0, hs0⟩ : ∃ t, t = left + prod - 18446744073709551616 := ⟨_, rfl⟩
      obtain ⟨sum, hsum⟩ : ∃ t, t = s0 + 4294967295 := ⟨_, rfl⟩
      have ha := add64_at left prod s0 1 hlb.1 hlb.2 hp0.1 (by omega) (by omega) (by rw [if_neg hc])
      have e5 : IntKind.u64.wrap (s0 + 4294967295) = sum := by rw [u64_wrap]; omega
      have hsb : 0 ≤ sum ∧ sum < 18446744073709551616 := by omega
      have HS := Lib.hid (show ∃ k : Int, sum = h * 18446744073709551616 + d - k * 18446744069414584321 from ⟨top * 4294967297 + mid + 1, by have := HH.out; have := HP.out; omega⟩)
      clear hl hc hsum hs0 hlb hp0 hmid htop hb
      go_enter Tryd.func53, Tryd.ntmps53
      go_wp2_with fail
      refine (reduce_any P0 sum hsb.1 hsb.2 _).mono ?_
      rintro e w' ⟨rfl, rfl⟩
      go_wp2
      go_ret
      exact ⟨by rw [← HF.out _ HS.out]; rfl, rfl⟩

theorem div64_any (lo y : Int) (hl : 0 ≤ lo) (hl2 : lo < 18446744073709551616) (hy : 1 ≤ y) (hy2 : y < 18446744073709551616) (w : World) :
    Calls Tryd.prog 78 #[.int .u64 0, .int .u64 lo, .int .u64 y] w fun e w' => e = .returned (.tuple #[.int .u64 (lo / y), .int .u64 (lo % y)]) ∧ ∃ n, w' = w.drewN n := by
  have hne : (y == 0) = false := beq_eq_false_iff_ne.2 (by omega)
  have hle : decide (y ≤ 0) = false := decide_eq_false (by omega)
  go_enter Tryd.func78, Tryd.ntmps78
  go_wp2
  go_quiet (fail)
  go_wp2
  go_ret2
  exact ⟨rfl, _, rfl⟩
theorem rem64_any (lo y : Int) (hl : 0 ≤ lo) (hl2 : lo < 18446744073709551616) (hy : 1 ≤ y) (hy2 : y < 18446744073709551616) (w : World) :
    Calls Tryd.prog 54 #[.int .u64 0, .int .u64 lo, .int .u64 y] w fun e w' => e = .returned (.int .u64 (lo % y)) ∧ ∃ n, w' = w.drewN n := by
  have hne : (y == 0) = false := beq_eq_false_iff_ne.2 (by omega)
  go_enter Tryd.func54, Tryd.ntmps54
  go_wp2_with fail
  refine (div64_any lo y hl hl2 hy hy2 _).mono ?_
  rintro e w' ⟨rfl, n, rfl⟩
  go_wp2
  go_ret
  exact ⟨rfl, _, rfl⟩
theorem known_cases {p : Int} (h : known p = true) : p = P0 ∨ p = P1 ∨ p = P2 := by
  unfold known at h
  simp only [Bool.or_eq_true, beq_iff_eq] at h
  omega
theorem red_bound (p a : Int) (h : known p = true) : 0 ≤ red p a ∧ red p a < p := by
  unfold red; rw [if_pos h]
  rcases known_cases h with rfl | rfl | rfl <;> simp only [P0, P1, P2] <;> omega
theorem known_pos {p : Int} (h : known p = true) : 1 ≤ p ∧ p < 18446744073709551616 := by
  rcases known_cases h with rfl | rfl | rfl <;> simp only [P0, P1, P2] <;> omega
theorem mul_any (p a b : Int) (ha : 0 ≤ a) (ha2 : a < 18446744073709551616) (hb : 0 ≤ b) (hb2 : b < 18446744073709551616) (w : World) :
    Calls Tryd.prog 32 #[.int .u64 p, .int .u64 a, .int .u64 b] w fun e w' => e = .returned (.int .u64 (mulF p a b)) ∧ ∃ n, w' = w.drewN n := by
  cases hk : known p with
  | false =>
    have HR := Lib.hid (show mulF p a b = 0 by unfold mulF; rw [hk]; rfl)
    have HK := Lib.hid hk
    clear hk
    go_enter Tryd.func32, Tryd.ntmps32
    go_wp2_with fail
    refine (known_any p _).mono ?_
    rw [HK.out]
    rintro e w' ⟨rfl, rfl⟩
    go_wp2
    go_ret
    exact ⟨by rw [HR.out]; rfl, 0, rfl⟩
  | true =>
    have hr : mulF p a b = red p a * red p b % p := by unfold mulF red; rw [if_pos hk, if_pos hk, if_pos hk, ← Int.mul_emod]
    have hp := known_pos hk
    obtain ⟨hx0, hx1⟩ := red_bound p a hk
    obtain ⟨hy0, hy1⟩ := red_bound p b hk
    obtain ⟨x, hx⟩ := Int.eq_ofNat_of_zero_le hx0
    obtain ⟨y, hy⟩ := Int.eq_ofNat_of_zero_le hy0
    have HX := Lib.hid hx
    have HY := Lib.hid hy
    have HR := Lib.hid hr
    have HK := Lib.hid hk
    have hxb : x < 18446744073709551616 := by omega
    have hyb : y < 18446744073709551616 := by omega
    have hxy : x * y < 18446744073709551616 * 18446744073709551616 := Nat.mul_lt_mul'' hxb hyb
    have hhi : x * y / 18446744073709551616 < 18446744073709551616 := Nat.div_lt_of_lt_mul hxy
    obtain ⟨hi, hhi2⟩ : ∃ t, t = x * y / 18446744073709551616 := ⟨_, rfl⟩
    obtain ⟨lo, hlo2⟩ : ∃ t, t = x * y % 18446744073709551616 := ⟨_, rfl⟩
    have hb1 : 0 ≤ (hi : Int) ∧ (hi : Int) < 18446744073709551616 := by rw [← hhi2] at hhi; omega
    have hb2' : 0 ≤ (lo : Int) ∧ (lo : Int) < 18446744073709551616 := by omega
    have hcomb : (hi : Int) * 18446744073709551616 + lo = (x : Int) * y := by
      have := Nat.div_add_mod (x * y) 18446744073709551616
      rw [← hhi2, ← hlo2] at this
      rw [← Int.natCast_mul, ← this]; simp; omega
    have HC := Lib.hid hcomb
    have hmul := fun w => Tryd.bits_Mul64 x y hxb hyb w
    rw [← hhi2, ← hlo2] at hmul
    have HM := Lib.hid hmul
    by_cases h0 : p = P0
    · subst h0
      clear hx hy hr hk hxy hhi hhi2 hlo2 hcomb hmul hxb hyb hx0 hx1 hy0 hy1 hp
      unfold P0 at HK HX HY ⊢
      go_enter Tryd.func32, Tryd.ntmps32
      go_wp2_with fail
      refine (known_any _ _).mono ?_
      rw [HK.out]
      rintro e w' ⟨rfl, rfl⟩
      go_wp2_with fail
      refine (reduce_any _ a ha ha2 _).mono ?_
      rw [HX.out]
      rintro e w' ⟨rfl, rfl⟩
      go_wp2_with fail
      refine (reduce_any _ b hb hb2 _).mono ?_
      rw [HY.out]
      rintro e w' ⟨rfl, rfl⟩
      go_wp2_with fail
      refine (HM.out _).mono ?_
      rintro e w' ⟨rfl, rfl⟩
      go_wp2_with fail
      refine (gold_any _ _ hb1.1 hb1.2 hb2'.1 hb2'.2 _).mono ?_
      rintro e w' ⟨rfl, rfl⟩
      go_wp2
      go_ret
      refine ⟨?_, 0, rfl⟩
      have h1 := HR.out
      unfold P0 at h1
      rw [h1, HX.out, HY.out, ← HC.out]; rfl
    · have hps : p < 4294967296 := by
        rcases known_cases hk with h | h | h
        · exact absurd h h0
        · rw [h]; decide
        · rw [h]; decide
      have hxy2 : x * y < 4294967296 * 4294967296 := Nat.mul_lt_mul'' (by omega) (by omega)
      have hhi0 : hi = 0 := by omega
      subst hhi0
      have hlo3 : (lo : Int) = (x : Int) * y := by have := HC.out; omega
      have HL := Lib.hid hlo3
      unfold P0 at h0
      have hbq : (p == 18446744069414584321) = false := beq_eq_false_iff_ne.2 h0
      clear hx hy hr hk hxy hhi hhi2 hlo2 hcomb hmul hxb hyb hx0 hx1 hy0 hy1 h0 hlo3 hps hxy2 hb1
      go_enter Tryd.func32, Tryd.ntmps32
      go_wp2_with fail
      refine (known_any _ _).mono ?_
      rw [HK.out]
      rintro e w' ⟨rfl, rfl⟩
      go_wp2_with fail
      refine (reduce_any _ a ha ha2 _).mono ?_
      rw [HX.out]
      rintro e w' ⟨rfl, rfl⟩
      go_wp2_with fail
      refine (reduce_any _ b hb hb2 _).mono ?_
      rw [HY.out]
      rintro e w' ⟨rfl, rfl⟩
      go_wp2_with fail
      refine (HM.out _).mono ?_
      rintro e w' ⟨rfl, rfl⟩
      go_wp2_with fail
      refine (rem64_any _ _ hb2'.1 hb2'.2 hp.1 hp.2 _).mono ?_
      rintro e w' ⟨rfl, n, rfl⟩
      go_wp2
      go_ret
      refine ⟨?_, n, rfl⟩
      rw [HR.out, HX.out, HY.out, ← HL.out]; rfl
end Go.Proofs.YtcilfgedcnehfaaDoor
