/-
  Part of the proof of a law: what the functions compute. Conditions: none.
-/
import Derived.Test.YtcilfgedcnehfaaGreatDoorVF3
import Derived.Test.YtcilfgedcnehfaaGreatDoorVX1
import Derived.Test.YtcilfgedcnehfaaGreatDoorVP1
set_option linter.unusedVariables false
set_option linter.unusedSectionVars false
set_option linter.unusedSimpArgs false
set_option linter.deprecated false
set_option linter.unusedVariables false
set_option linter.unusedSimpArgs false
namespace Go.AM
open Go Go.Proofs.YtcilfgedcnehfaaGreatDoor
theorem chk10_w {S : St} {a : Option Addr} {n c : Nat} : Gv (g_script_Check [.slice a n c]) S (vI (if 1024 < n then 1 else 0)) := by
  refine .of ?_
  rw [g_script_Check_eq]
  simp only [wps]
  refine ⟨fun h => by rw [if_pos (by omega)], fun h => by rw [if_neg (by omega)]⟩
end Go.AM
set_option linter.unusedVariables false
set_option linter.unusedSimpArgs false
namespace Go.AM
open Go Go.Proofs.YtcilfgedcnehfaaGreatDoor
theorem r10chk_w {S : St} {a : Option Addr} {n c : Nat} : Gv (g_r10_Check [.slice a n c]) S (vI (if 1024 < n then 1 else 0)) := by
  refine .of ?_
  rw [g_r10_Check_eq]
  simp only [wps]
  refine ⟨fun h => by rw [if_pos (by omega)], fun h => by rw [if_neg (by omega)]⟩
end Go.AM
set_option linter.unusedVariables false
set_option linter.unusedSimpArgs false
namespace Go.AM
open Go Go.Proofs.YtcilfgedcnehfaaGreatDoor
def OwnW (S S' : St) (a : Option Addr) (ws : List Int) : Prop := S <+: S' ∧ (ws = [] ∨ ∃ b t g, a = some ⟨b, 0, none⟩ ∧ S.length ≤ b ∧ S'[b]? = some (.cells (ws.flatMap eU) t g))
theorem OwnW.ar {S S' : St} {a : Option Addr} {ws : List Int} (h : OwnW S S' a ws) : Ar S' a ws.length 1 eU ws := by
  rcases h.2 with rfl | ⟨b, t, g, rfl, _, h1⟩
  · exact .nil
  · exact Ar.blk h1 (fun _ _ => rfl) rfl
theorem OwnW.more {S S' S2 : St} {a : Option Addr} {ws : List Int} (h : OwnW S S' a ws) (hs : S' <+: S2) : OwnW S S2 a ws :=
  ⟨h.1.trans hs, h.2.imp id fun ⟨b, t, g, h1, h2, h3⟩ => ⟨b, t, g, h1, h2, pre_get hs h3⟩⟩
theorem OwnW.base {S0 S S' : St} {a : Option Addr} {ws : List Int} (h : OwnW S S' a ws) (hs : S0 <+: S) : OwnW S0 S' a ws :=
  ⟨hs.trans h.1, h.2.imp id fun ⟨b, t, g, h1, h2, h3⟩ => ⟨b, t, g, h1, Nat.le_trans hs.length_le h2, h3⟩⟩
theorem xor_term (a b : Int) : wU ((BitVec.ofInt IntKind.u64.bits a ^^^ BitVec.ofInt IntKind.u64.bits b).toNat : Int) = bits .xor .u64 a b := rfl
end Go.AM
set_option linter.unusedVariables false
set_option linter.unusedSimpArgs false
namespace Go.AM
open Go Go.Proofs.YtcilfgedcnehfaaGreatDoor
theorem evc_set : ∀ (l : List Ev) (i : Nat) (x : Ev), i < l.length → splice (l.flatMap Ev.cells) (i * 6) x.cells = (l.set i x).flatMap Ev.cells
  | [], i, x, h => by simp at h
  | y :: l, 0, x, h => by
    rw [List.set_cons_zero, List.flatMap_cons, List.flatMap_cons, Nat.zero_mul]
    unfold splice
    have : x.cells.length = y.cells.length := rfl
    simp [this]
  | y :: l, i + 1, x, h => by
    have ih := evc_set l i x (by simpa using h)
    rw [List.set_cons_succ, List.flatMap_cons, List.flatMap_cons, ← ih]
    have h6 : y.cells.length = 6 := rfl
    unfold splice
    rw [show (i + 1) * 6 = 6 + i * 6 by omega, show 6 = y.cells.length from rfl, List.take_length_add_append, Nat.add_assoc, List.drop_length_add_append]
    simp
structure Od (S : St) (b : Nat) (t : TypeId) (g : Option Nat) (l : List Ev) (S' : St) : Prop where
  len : S.length ≤ S'.length
  keep : ∀ i, i < S.length → i ≠ b → S'[i]? = S[i]?
  at_ : S'[b]? = some (.cells (l.flatMap Ev.cells) t g)
section
variable {S S1 S2 : St} {b : Nat} {t : TypeId} {g : Option Nat} {l l' : List Ev}
theorem Od.refl (h : S[b]? = some (.cells (l.flatMap Ev.cells) t g)) : Od S b t g l S := ⟨Nat.le_refl _, fun _ _ _ => rfl, h⟩
theorem Od.trans (h : Od S b t g l S1) (k : Od S1 b t g l' S2) : Od S b t g l' S2 :=
  ⟨Nat.le_trans h.len k.len, fun i hi hne => by rw [k.keep i (Nat.lt_of_lt_of_le hi h.len) hne, h.keep i hi hne], k.at_⟩
theorem Od.more (h : Od S b t g l S1) (hs : S1 <+: S2) : Od S b t g l S2 :=
  ⟨Nat.le_trans h.len hs.length_le, fun i hi hne => by rw [pre_at hs (Nat.lt_of_lt_of_le hi h.len), h.keep i hi hne], pre_get hs h.at_⟩
theorem Od.put (h : Od S b t g l S1) {i : Nat} (hi : i < l.length) (x : Ev) : Od S b t g (l.set i x) (S1.set b (.cells (splice (l.flatMap Ev.cells) (i * 6) x.cells) t g)) :=
  ⟨by rw [List.length_set]; exact h.len, fun j hj hne => by rw [List.getElem?_set_ne (fun e => hne e.symm), h.keep j hj hne], by rw [List.getElem?_set_self (pre_lt h.at_), evc_set l i x hi]⟩
end
end Go.AM
set_option linter.unusedVariables false
set_option linter.unusedSimpArgs false
namespace Go.AM
open Go Go.Proofs.YtcilfgedcnehfaaGreatDoor
end Go.AM
set_option linter.unusedVariables false
set_option linter.unusedSimpArgs false
namespace Go.AM
open Go Go.Proofs.YtcilfgedcnehfaaGreatDoor
end Go.AM
set_option linter.unusedVariables false
set_option linter.unusedSimpArgs false
namespace Go.AM
open Go Go.Proofs.YtcilfgedcnehfaaGreatDoor
variable {C : FuncId → List Value → M Value} {cmp : Value}
end Go.AM
set_option linter.unusedVariables false
set_option linter.unusedSimpArgs false
namespace Go.AM
open Go Go.Proofs.YtcilfgedcnehfaaGreatDoor
variable {C : FuncId → List Value → M Value} {cmp : Value}
end Go.AM
set_option linter.unusedVariables false
set_option linter.unusedSimpArgs false
namespace Go.AM
open Go Go.Proofs.YtcilfgedcnehfaaGreatDoor
variable {C : FuncId → List Value → M Value} {cmp : Value}
end Go.AM
set_option linter.unusedVariables false
set_option linter.unusedSimpArgs false
namespace Go.AM
open Go Go.Proofs.YtcilfgedcnehfaaGreatDoor
end Go.AM
set_option linter.unusedVariables false
set_option linter.unusedSimpArgs false
namespace Go.AM
open Go Go.Proofs.YtcilfgedcnehfaaGreatDoor
end Go.AM
set_option linter.unusedVariables false
set_option linter.unusedSimpArgs false
namespace Go.AM
open Go Go.Proofs.YtcilfgedcnehfaaGreatDoor
end Go.AM
set_option linter.unusedVariables false
set_option linter.unusedSimpArgs false
namespace Go.AM
open Go Go.Proofs.YtcilfgedcnehfaaGreatDoor
theorem Stab.cnt {l r : List Ev} (h : Stab Ev.ti l r) (y : Ev) : (r.filter fun z => decide (z = y)).length = (l.filter fun z => decide (z = y)).length := by
  have key : ∀ m : List Ev, m.filter (fun z => decide (z = y)) = (at_key Ev.ti y.ti m).filter (fun z => decide (z = y)) := fun m => by
    unfold at_key
    rw [List.filter_filter]
    congr 1
    funext z
    by_cases hz : z = y <;> simp [hz]
  rw [key r, h.same, ← key l]
end Go.AM
set_option linter.unusedVariables false
set_option linter.unusedSimpArgs false
namespace Go.AM
open Go Go.Proofs.YtcilfgedcnehfaaGreatDoor
end Go.AM
set_option linter.unusedVariables false
set_option linter.unusedSimpArgs false
namespace Go.AM
open Go Go.Proofs Go.Proofs.YtcilfgedcnehfaaGreatDoor
theorem radG_w {n : Int} {S : St} : WP (radG [.int .i64 n]) S fun v S' => ∃ a, v = .tuple ⟨[.slice a (radV n).1.length (radV n).1.length, .int .i64 (radV n).2]⟩ ∧ Ap S none S' a (radV n).1.length 3 1 ((radV n).1.flatMap eI) := by
  have key : ∃ c : Int, radO n = ((radV n).1.map fun x => .int .i64 x, .int .i64 c) ∧ (radV n).2 = c := by
    unfold radO radV
    split
    · unfold radR
      split
      · refine ⟨0, ?_, rfl⟩
        rw [List.map_map]; rfl
      · exact ⟨4, rfl, rfl⟩
    · exact ⟨4, rfl, rfl⟩
  obtain ⟨c, h1, h2⟩ := key
  unfold WP radG rowR radF
  simp only [h1, h2]
  generalize (radV n).1 = l
  cases l with
  | nil => exact ⟨_, _, rfl, none, rfl, .nil⟩
  | cons x l =>
    refine ⟨_, _, rfl, some ⟨S.length, 0, none⟩, by simp, by simp, fun i hi _ => List.getElem?_append_left hi, .inr ⟨_, rfl, Nat.le_refl _⟩, by rw [flat_len (w := 1) (fun _ => rfl)], .inr ⟨_, rfl, ?_⟩, .inl rfl⟩
    rw [get_new]
    have e : Value.int .i64 x :: l.map (fun x => Value.int .i64 x) = (x :: l).flatMap eI := by rw [← List.map_cons (f := fun x => Value.int .i64 x), List.map_eq_flatMap]; rfl
    exact congrArg (fun c => some (AObj.cells c 3 (some 1))) e
theorem redG_w {p a : Int} (h : 0 ≤ a ∧ a < 18446744073709551616) : redG [.int .u64 p, .int .u64 a] = M.ret (.int .u64 (red p a)) := by
  funext S; simp [redG, valR, redF, h, M.ret]
theorem mulG_w {p a b : Int} (h : 0 ≤ a ∧ a < 18446744073709551616) (g : 0 ≤ b ∧ b < 18446744073709551616) : mulG [.int .u64 p, .int .u64 a, .int .u64 b] = M.ret (.int .u64 (mulF p a b)) := by
  funext S; simp [mulG, valR, mulFF, h, g, M.ret]
theorem genG_w {p : Int} : genG [.int .u64 p] = M.ret (.int .u64 (genF p)) := by
  funext S; simp [genG, valR, genFF, M.ret]
theorem lenG_w {a : Int} (h : 0 ≤ a ∧ a < 18446744073709551616) : lenG [.int .u64 a] = M.ret (.int .i64 (Lib.bitLen a.toNat)) := by
  funext S; simp [lenG, valR, lenFF, M.ret]; omega
theorem known_w {p : Int} : g_field_Known [vU p] = M.ret (vB (known p)) := by
  rw [g_field_Known_eq]
  unfold known P0 P1 P2
  cases p == 18446744069414584321 <;> cases p == 998244353 <;> cases p == 2013265921 <;> rfl
theorem red_w {p a : Int} (h : 0 ≤ a ∧ a < 18446744073709551616) : g_field_Reduce [vU p, vU a] = M.ret (vU (red p a)) := redG_w h
theorem mul_w {p a b : Int} (h : 0 ≤ a ∧ a < 18446744073709551616) (g : 0 ≤ b ∧ b < 18446744073709551616) : g_field_Mul [vU p, vU a, vU b] = M.ret (vU (mulF p a b)) := mulG_w h g
theorem gen_w {p : Int} : g_root_Gen [vU p] = M.ret (vU (genF p)) := genG_w
theorem len_w {a : Int} (h : 0 ≤ a ∧ a < 18446744073709551616) : g_bits_Len64 [vU a] = M.ret (vI (Lib.bitLen a.toNat)) := lenG_w h
theorem ready_w {p n : Int} : g_root_ready [vU p, vI n] = M.ret (vI (readyV p n)) := by
  refine wp_eq fun S => ?_
  rw [g_root_ready_eq, known_w]
  unfold readyV
  cases known p with
  | false => simp only [wps]; simp
  | true =>
    simp only [wps]
    by_cases h1 : n < 1
    · simp [h1]
    · by_cases h2 : 8192 < n <;> simp [h1, h2]
theorem bit_at (N d : Nat) (hN : N < 18446744073709551616) (hd : d < 64) : IntKind.u64.wrap (↑(BitVec.ofInt IntKind.u64.bits ((N : Int).fdiv (2 ^ min d IntKind.u64.bits)) &&& BitVec.ofInt IntKind.u64.bits 1).toNat : Int) = ((N / 2 ^ d % 2 : Nat) : Int) := by
  have h1 : (N : Int).fdiv (2 ^ min d IntKind.u64.bits) = ((N / 2 ^ d : Nat) : Int) := by
    rw [Nat.min_eq_left (show d ≤ IntKind.u64.bits by simp only [IntKind.bits]; omega), show (2 : Int) ^ d = ((2 ^ d : Nat) : Int) by simp, Int.fdiv_eq_ediv_of_nonneg _ (Int.natCast_nonneg _)]
    simp
  have h2 : N / 2 ^ d < 18446744073709551616 := Nat.lt_of_le_of_lt (Nat.div_le_self _ _) hN
  rw [h1]
  generalize N / 2 ^ d = q at h2 ⊢
  have := Lib.u64_and1 (q : Int) (by omega) (by omega)
  refine Eq.trans ?_ (this.trans ?_)
  · rfl
  · omega
theorem pow_w {p a n : Int} (ha : 0 ≤ a ∧ a < 18446744073709551616) (hn : 0 ≤ n ∧ n < 18446744073709551616) : g_power_Pow [vU p, vU a, vU n] = M.ret (vU (powM p a n.toNat)) := by
  obtain ⟨N, rfl⟩ := Int.eq_ofNat_of_zero_le hn.1
  obtain ⟨h1, h2⟩ := bitLenAux_le 64 N (by omega)
  refine wp_eq fun S => ?_
  rw [g_power_Pow_eq, red_w (by omega), len_w hn]
  simp only [wps]
  refine wp_loop (fun st S' m => ∃ d : Nat, st = [vU (powM p a (N / 2 ^ d)), vI ((d : Int) - 1)] ∧ S' = S ∧ m = d ∧ d ≤ 64) ?_ (Lib.bitLenAux 64 N) _ _ ⟨Lib.bitLenAux 64 N, ?_, rfl, rfl, h2⟩
  · rintro st S' m ⟨d, rfl, rfl, hmd, hd⟩
    cases d with
    | zero => simp [wps]
    | succ d =>
      have e1 : ((d + 1 : Nat) : Int) - 1 = (d : Int) := by omega
      have hm := mul_w (p := p) (powM_range p a (N / 2 ^ (d + 1))) (powM_range p a (N / 2 ^ (d + 1)))
      rw [mulF_powM] at hm
      have hm2 := mul_w (p := p) (powM_range p a (N / 2 ^ (d + 1) + N / 2 ^ (d + 1))) ha
      rw [mulF_powM1] at hm2
      have hdiv : N / 2 ^ (d + 1) = N / 2 ^ d / 2 := by rw [Nat.pow_succ, Nat.div_div_eq_div_mul]
      simp only [wps, hm, hm2, e1, bit_at N d (by omega) (by omega), wI_ (n := (d : Int) - 1) (by omega) (by omega)]
      generalize hq : N / 2 ^ d = q at hdiv ⊢
      refine ⟨fun hb => ⟨d, by omega, d, ?_, rfl, by omega⟩, fun hb => ⟨d, by omega, d, ?_, rfl, by omega⟩⟩
      · rw [hdiv, hq, show q / 2 + q / 2 + 1 = q by omega]
      · rw [hdiv, hq, show q / 2 + q / 2 = q by omega]
  · rw [Nat.div_eq_of_lt h1]
    unfold red powM Lib.bitLen
    rw [wI_ (by omega) (by omega)]
    simp
theorem root_w {p n : Int} : g_root_Root [vU p, vI n] = M.ret (vT [vU (rootV p n).1, vI (rootV p n).2]) := by
  refine wp_eq fun S => ?_
  rw [g_root_Root_eq, ready_w]
  unfold rootV
  simp only [wps]
  refine ⟨fun h => by simp [h], fun h => ?_⟩
  rw [if_pos h]
  have hk : known p = true ∧ 1 ≤ n ∧ n ≤ 8192 := by
    unfold readyV at h
    split at h
    · split at h
      · simp at h
      · exact ⟨‹_›, by omega, by omega⟩
    · simp at h
  have hp := known_pos hk.1
  have hq0 : 0 ≤ (p - 1) / n := Int.ediv_nonneg (by omega) (by omega)
  have hq1 : (p - 1) / n ≤ p - 1 := Int.ediv_le_self _ (by omega)
  have e1 : wU n = n := wU_ (by omega) (by omega)
  have e2 : wU (p - 1) = p - 1 := wU_ (by omega) (by omega)
  have e3 : (p - 1).tmod n = (p - 1) % n := Int.tmod_eq_emod_of_nonneg (by omega)
  have e4 : (p - 1).tdiv n = (p - 1) / n := Int.tdiv_eq_ediv_of_nonneg (by omega)
  have e5 : wU ((p - 1) / n) = (p - 1) / n := wU_ hq0 (by omega)
  rw [e1, e2, e3, e4, e5]
  simp only [wps, gen_w, pow_w (p := p) (genF_range p) ⟨hq0, show (p - 1) / n < 18446744073709551616 by omega⟩]
  exact ⟨by omega, fun h2 => by rw [if_pos (by omega)], fun h2 => ⟨by omega, by rw [if_neg (by omega)]⟩⟩
theorem inv_w {p a : Int} (ha : 0 ≤ a ∧ a < 18446744073709551616) : g_power_Inv [vU p, vU a] = M.ret (vT [vU (invV p a).1, vI (invV p a).2]) := by
  refine wp_eq fun S => ?_
  rw [g_power_Inv_eq, known_w, red_w ha]
  unfold invV
  cases hk : known p with
  | false => simp [wps]
  | true =>
    have hp : 2 ≤ p ∧ p < 18446744073709551616 := by rcases known_cases hk with rfl | rfl | rfl <;> decide
    rw [wU_ (n := p - 2) (by omega) (by omega), pow_w (p := p) ha ⟨by omega, by omega⟩]
    simp only [wps]
    exact ⟨fun h => by simp [h], fun h => by simp [h]⟩
theorem back_w {p n : Int} : g_root_Back [vU p, vI n] = M.ret (vT [vU (backV p n).1, vI (backV p n).2]) := by
  refine wp_eq fun S => ?_
  rw [g_root_Back_eq, root_w]
  unfold backV
  simp only [wps, inv_w (rootV_range p n)]
  exact ⟨fun h => by simp [h], fun h => by simp [h]⟩
theorem rad_w {n : Int} {S : St} : WP (g_factor_Radices [vI n]) S fun v S' => ∃ a, v = vT [.slice a (radV n).1.length (radV n).1.length, vI (radV n).2] ∧ Ap S none S' a (radV n).1.length 3 1 ((radV n).1.flatMap eI) := radG_w
theorem smooth_w {n : Int} {S : St} : Sp (g_factor_Smooth [vI n]) S fun v _ => v = vB (smoothV n) := by
  unfold Sp
  rw [g_factor_Smooth_eq]
  simp only [wps]
  refine rad_w.mono ?_
  rintro _ S' ⟨a, rfl, h⟩
  simp only [wps]
  exact ⟨h.pre, rfl⟩

theorem fill_set {c : List Value} {l : List Int} {k : IntKind} {n j : Nat} {z x : Int} (h : c = (l.take j).map (.int k) ++ List.replicate (n - j) (.int k z)) (hl : l.length = n) (hj : j < n) (hx : l[j]? = some x) :
    splice c j [.int k x] = (l.take (j + 1)).map (.int k) ++ List.replicate (n - (j + 1)) (.int k z) := by
  have hlen : ((l.take j).map (Value.int k)).length = j := by simp; omega
  rw [splice_set (by rw [h]; simp; omega), h, List.set_append_right _ _ (by omega), hlen, Nat.sub_self, show n - j = (n - (j + 1)) + 1 by omega, List.replicate_succ, List.set_cons_zero, List.take_add_one, hx]
  simp
theorem dims_w {S : St} {axes : Option Addr} {n c : Nat} {l : List Ax} (h : Ar S axes n 2 eAx l) (hl : n ≤ 8796093022208) :
    Sp (g_grid_Dims [.slice axes n c]) S fun v S' => ∃ a k, v = .slice a n k ∧ Ar S' a n 1 eI (dimsOf l) := by
  unfold Sp
  rw [g_grid_Dims_eq]
  have hn := h.1
  simp only [wps, zeroC_one]
  refine ⟨⟨by omega, by omega, by omega, rfl⟩, ?_⟩
  refine wp_loop (fun st S' m => ∃ j : Nat, st = [vI j] ∧ j ≤ n ∧ m = n - j ∧ (S ++ [.cells (((dimsOf l).take j).map (.int .i64) ++ List.replicate (n - j) (.int .i64 0)) 3 none]) <+: S') ?_ n _ _ ⟨0, rfl, by omega, by omega, by simp⟩
  rintro st S' m ⟨j, rfl, hj, rfl, hp⟩
  simp only [wps]
  refine ⟨fun h1 => ?_, fun h1 => ?_⟩
  · have hj' : j < l.length := by omega
    obtain ⟨a, rfl, c1, c2⟩ := (h.mono (pre_of_add hp)).getAx hj'
    have hb := pre_get hp get_new
    have hb2 : ∀ o, (S' ++ [o])[S.length]? = _ := fun o => get_add hb
    simp only [wps, c1, c2, hb2]
    refine ⟨h1, h1, ?_, n - (j + 1), by omega, j + 1, ?_, by omega, rfl, ?_⟩
    · simp [dimsOf]; omega
    · rw [wI_ (by omega) (by omega)]; simp
    · rw [fill_set (l := dimsOf l) (n := n) (j := j) (z := 0) (x := l[j].N) rfl (by simp [dimsOf]; omega) (by omega) (by simp [dimsOf, hj'])]
      exact pre_top (pre_add hp _)
  · have : n - j = 0 := by omega
    refine ⟨pre_of_add hp, _, _, rfl, ?_⟩
    have hb := pre_get hp get_new
    have e : n = (dimsOf l).length := by simp [dimsOf]; omega
    rw [List.take_of_length_le (by omega), this] at hb
    conv => arg 3; rw [e]
    exact arI_blk (by simpa using hb)
theorem all_w {S : St} {dims : Option Addr} {n c : Nat} {l : List Int} (h : Ar S dims n 1 eI l) : Gv (g_shape_All [.slice dims n c]) S (vT [vI (allV l).1, vI (allV l).2]) := by
  refine .of ?_
  rw [g_shape_All_eq]
  have hn := h.1
  simp only [wps]
  refine ⟨fun h1 => by simp [allV, show l.length < 1 by omega], fun h1 => ⟨fun h2 => by simp [allV, show 4 < l.length by omega], fun h2 => ?_⟩⟩
  have e : allV l = allGo 1 l := by unfold allV; rw [if_neg (by omega)]
  rw [e]
  refine wp_loop (fun st S' m => ∃ (i : Nat) (x : Int), st = [.int .i64 x, .int .i64 i] ∧ S' = S ∧ i ≤ n ∧ m = n - i ∧ 1 ≤ x ∧ x ≤ 4096 ∧ allGo 1 l = allGo x (l.drop i)) ?_ n _ _ ⟨0, 1, rfl, rfl, by omega, by omega, by omega, by omega, by simp⟩
  rintro st S' m ⟨i, x, rfl, rfl, hi, rfl, h3, h4, hg⟩
  simp only [wps]
  refine ⟨fun h5 => ⟨h5, ?_⟩, fun h5 => ?_⟩
  · obtain ⟨a, rfl, hc⟩ := h.getI (i := i) (by omega)
    rw [List.drop_eq_getElem_cons (by omega), allGo] at hg
    simp only [wps, hc]
    refine ⟨fun h6 => ?_, fun h6 => ⟨fun h7 => ?_, fun h7 => ?_⟩⟩
    · rw [if_pos (.inl h6)] at hg; simp [hg, wps]
    · rw [if_pos (.inr (.inl h7))] at hg; simp [hg, wps]
    · have hb1 : 1 ≤ x * l[i] := by
        have := Int.mul_le_mul h3 (show 1 ≤ l[i] by omega) (by omega) (by omega)
        simpa using this
      have hb2 : x * l[i] ≤ 4096 * 4096 := Int.mul_le_mul h4 (by omega) (by omega) (by omega)
      rw [wI_ (n := x * l[i]) (by omega) (by omega), wI_ (n := (i : Int) + 1) (by omega) (by omega)]
      refine ⟨fun h8 => ?_, fun h8 => ?_⟩
      · rw [if_pos (.inr (.inr h8))] at hg; simp [hg]
      · rw [if_neg (by omega)] at hg
        exact ⟨n - (i + 1), by omega, i + 1, _, rfl, by omega, rfl, by omega, by omega, hg⟩
  · rw [List.drop_eq_nil_iff.2 (by omega), allGo] at hg
    simp [hg]
end Go.AM
set_option linter.unusedVariables false
set_option linter.unusedSimpArgs false
namespace Go.AM
open Go Go.Proofs.YtcilfgedcnehfaaGreatDoor
theorem grid_w {p : Int} {S : St} {axes : Option Addr} {n c : Nat} {l : List Ax} (h : Ar S axes n 2 eAx l) (hl : n ≤ 8796093022208) :
    Sp (g_grid_Check [vU p, .slice axes n c]) S fun v S' => v = vI (gridV p l) := by
  unfold Sp
  have hn := h.1
  rw [g_grid_Check_eq, known_w]
  unfold gridV
  simp only [wps]
  refine ⟨fun hk => ⟨List.prefix_rfl, by simp [hk]⟩, fun hk => ?_⟩
  refine (dims_w h hl).use ?_
  rintro _ S1 h1 ⟨a, k, rfl, hd⟩
  simp only [wps, (all_w hd).wp]
  refine ⟨fun h2 => ⟨h1, by simp [hk, h2]⟩, fun h2 => ?_⟩
  rw [if_pos hk, if_pos h2]
  refine wp_loop (fun st S' m => ∃ (j : Nat) (e : Int), st = [vI e, vI j] ∧ j ≤ n ∧ m = n - j ∧ S <+: S' ∧ gGo p 0 l = gGo p e (l.drop j)) ?_ n _ _ ⟨0, 0, rfl, by omega, by omega, h1, by simp⟩
  rintro st S' m ⟨j, e, rfl, hj, rfl, hp, hg⟩
  simp only [wps]
  refine ⟨fun h3 => ⟨h3, ?_⟩, fun h3 => ?_⟩
  · have hj' : j < l.length := by omega
    obtain ⟨a, rfl, c1, c2⟩ := (h.mono hp).getAx hj'
    rw [List.drop_eq_getElem_cons hj', gGo] at hg
    simp only [wps, c1, c2]
    have hq := pre_add hp
    refine ⟨fun h4 => ?_, fun h4 => ?_⟩
    all_goals
      refine smooth_w.use ?_
      rintro _ S2 h5 rfl
      simp only [wps, root_w]
      refine ⟨fun h6 => ?_, fun h6 => ?_⟩
      · rw [if_neg (by simp [h6])] at hg
        simp only [wps, hg]
        exact (hq _).trans h5
      · rw [if_pos (by simpa using h6)] at hg
        unfold ordW at hg
        simp only [h4, if_true, Bool.false_eq_true, if_false] at hg
        refine ⟨fun h7 => ?_, fun h7 => ?_⟩
        · rw [if_neg h7] at hg
          exact ⟨n - (j + 1), by omega, j + 1, 5, by rw [wI_ (by omega) (by omega)]; simp, by omega, rfl, (hq _).trans h5, hg⟩
        · rw [if_pos h7] at hg
          exact ⟨n - (j + 1), by omega, j + 1, e, by rw [wI_ (by omega) (by omega)]; simp, by omega, rfl, (hq _).trans h5, hg⟩
  · rw [List.drop_eq_nil_iff.2 (by omega), gGo] at hg
    exact ⟨hp, by rw [hg]⟩
theorem base_w {p : Int} {a : Ax} {inv : Bool} {s : Stp} {S : St} : Sp (g_step_base [vU p, vA [vI a.N, vB a.neg], vB inv, vA [vI s.ax, vB s.tw, vI s.st.R, vI s.st.L, vI s.st.M]]) S fun v S' => v = vT [vU (baseV p a inv s).1, vI (baseV p a inv s).2] := by
  unfold Sp
  rw [g_step_base_eq]
  unfold baseV k_step_base_1
  have hb : ∀ o x y, (S ++ [o] ++ [AObj.cells x y none])[S.length]? = some o := fun o x y => get_add get_new
  have hp : ∀ o o', S <+: S ++ [o] ++ [o'] := fun o o' => pre_add (List.prefix_append _ _) _
  have hc : ∀ c t o k, St.cell (S ++ [.cells c t none] ++ [o]) ⟨S.length, k, none⟩ = c[k]? := fun c t o k => cell_blk (get_add get_new) k
  cases h1 : s.tw with
  | true =>
    cases h2 : a.neg with
    | true =>
      simp only [wps, hc]
      cases inv <;> simp [wps, back_w, root_w, hp]
    | false =>
      simp only [wps, hc]
      simp [hp]
  | false =>
    simp only [wps, hc]
    cases inv <;> simp [wps, back_w, root_w, hp]
end Go.AM
set_option linter.unusedVariables false
set_option linter.unusedSimpArgs false
namespace Go.AM
open Go Go.Proofs.YtcilfgedcnehfaaGreatDoor
theorem foldr_pos : ∀ l : List Int, (∀ r ∈ l, 1 ≤ r) → 1 ≤ l.foldr (· * ·) 1
  | [], _ => by simp
  | x :: l, h => by
    have h3 := foldr_pos l (fun r hr => h r (by simp [hr]))
    have h4 := h x (by simp)
    rw [List.foldr_cons]
    have := Int.mul_le_mul h4 h3 (by omega) (by omega)
    omega
theorem stages_w {n : Int} {S : St} : WP (g_factor_Stages [vI n]) S fun v S' => ∃ a, v = vT [.slice a (stagesV n).1.length (stagesV n).1.length, vI (stagesV n).2] ∧ Ap S none S' a (stagesV n).1.length 94 3 ((stagesV n).1.flatMap eSg) := by
  rw [g_factor_Stages_eq]
  simp only [wps]
  refine rad_w.mono ?_
  rintro _ S1 ⟨a, rfl, hr⟩
  have hS := hr.pre
  have hr := hr.ar (fun _ => rfl) (by decide)
  simp only [wps]
  unfold stagesV
  refine ⟨fun h => ?_, fun h => ?_⟩
  · rw [if_neg h]; exact ⟨none, rfl, Ap.nil.more hS⟩
  · rw [if_pos h]
    obtain ⟨n1, n2, f1, f2, f3⟩ := radV_facts h
    generalize (radV n).1 = rs at hr f1 f2 f3 ⊢
    refine wp_loop (fun st S' m => ∃ (j : Nat) (x : Int) (sa : Option Addr) (dn : List Sg), st = [.slice sa j j, vI x, vI j] ∧ j ≤ rs.length ∧ m = rs.length - j ∧ Ap S1 none S' sa j 94 3 (dn.flatMap eSg) ∧
      dn ++ stGo n x (rs.drop j) = stGo n 1 rs ∧ 1 ≤ x ∧ x * (rs.drop j).foldr (· * ·) 1 = n) ?_ rs.length _ _ ⟨0, 1, none, [], rfl, by omega, by omega, .nil, by simp, by omega, by simpa using f2⟩
    rintro st S' m ⟨j, x, sa, dn, rfl, hj, rfl, ho, hd, hx, hf⟩
    simp only [wps]
    refine ⟨fun h3 => ⟨h3, ?_⟩, fun h3 => ?_⟩
    · have hj' : j < rs.length := by omega
      obtain ⟨b, rfl, hc⟩ := (hr.mono ho.pre).getI hj'
      rw [List.drop_eq_getElem_cons hj'] at hd hf
      have hr1 := f1 _ (List.getElem_mem hj')
      rw [List.foldr_cons, ← Int.mul_assoc] at hf
      have hp1 := foldr_pos (rs.drop (j + 1)) (fun r hr' => by have := (f1 r (List.mem_of_mem_drop hr')).1; omega)
      have har : 1 ≤ x * rs[j] := by have := Int.mul_le_mul hx (show 1 ≤ rs[j] by omega) (by omega) (by omega); omega
      have har2 : x * rs[j] ≤ 4096 := by
        have : x * rs[j] * 1 ≤ x * rs[j] * (rs.drop (j + 1)).foldr (· * ·) 1 := Int.mul_le_mul_of_nonneg_left hp1 (by omega)
        omega
      have hq0 : 0 ≤ n / x := Int.ediv_nonneg (by omega) (by omega)
      have hq1 : n / x ≤ n := Int.ediv_le_self _ (by omega)
      have hq2 : 0 ≤ n / x / rs[j] := Int.ediv_nonneg hq0 (by omega)
      have hq3 : n / x / rs[j] ≤ n / x := Int.ediv_le_self _ hq0
      simp only [wps, hc]
      refine ⟨by omega, by omega, ?_⟩
      rw [show n.tdiv x = n / x from Int.tdiv_eq_ediv_of_nonneg (by omega), wI_ (n := n / x) (by omega) (by omega), show (n / x).tdiv rs[j] = n / x / rs[j] from Int.tdiv_eq_ediv_of_nonneg hq0, wI_ (n := n / x / rs[j]) (by omega) (by omega)]
      refine wp_push ho rfl (by omega) (by omega) rfl ?_
      intro b' S2 h6
      simp only [wps]
      rw [wI_ (n := x * rs[j]) (by omega) (by omega), wI_ (n := (j : Int) + 1) (by omega) (by omega)]
      refine ⟨rs.length - (j + 1), by omega, j + 1, x * rs[j], _, dn ++ [⟨rs[j], x, n / x / rs[j]⟩], rfl, by omega, rfl, ?_, ?_, har, hf⟩
      · simpa [eSg] using h6
      · rw [← hd, stGo]; simp
    · rw [List.drop_eq_nil_of_le (by omega), stGo, List.append_nil] at hd
      have e := ho.cnt (fun _ => rfl) (by decide)
      subst hd
      rw [← e]
      refine ⟨sa, rfl, ?_⟩
      exact (Ap.nil.more hS).trans ho
theorem index_w {S : St} {p : Option Addr} {n c : Nat} {l : List Sg} (h : Ar S p n 3 eSg l) (hl : n ≤ 140737488355328) (s : Sg) :
    Sp (g_slices_Index_api_Stage_api_Stage [.slice p n c, vA [vI s.R, vI s.L, vI s.M]]) S fun v S' => ∃ r : Int, v = vI r ∧ (0 ≤ r ↔ s ∈ l) := by
  unfold Sp
  have hn := h.1
  rw [g_slices_Index_api_Stage_api_Stage_eq]
  simp only [wps]
  refine wp_loop (fun st S' m => ∃ j : Nat, st = [vI j] ∧ j ≤ n ∧ m = n - j ∧ S' = S ++ [.cells [vI s.R, vI s.L, vI s.M] 94 none] ∧ (s ∈ l ↔ s ∈ l.drop j)) ?_ n _ _ ⟨0, rfl, by omega, by omega, rfl, by simp⟩
  rintro st S' m ⟨j, rfl, hj, rfl, rfl, hm⟩
  simp only [wps]
  refine ⟨fun h3 => ⟨h3, ?_⟩, fun h3 => ?_⟩
  · have hj' : j < l.length := by omega
    obtain ⟨a, rfl, c1, c2, c3⟩ := (h.mono (List.prefix_append S [.cells [vI s.R, vI s.L, vI s.M] 94 none])).getSg hj'
    simp only [wps, c1, c2, c3]
    rw [List.drop_eq_getElem_cons hj', List.mem_cons] at hm
    have e : eqL [vI s.R, vI s.L, vI s.M] [vI l[j].R, vI l[j].L, vI l[j].M] = decide (s = l[j]) := by
      obtain ⟨a1, a2, a3⟩ := s
      cases hx : l[j] with
      | mk b1 b2 b3 => simp [eqL, Bool.and_assoc, Bool.decide_and, Sg.mk.injEq]; rfl
    rw [e]
    refine ⟨fun h4 => ?_, fun h4 => ?_⟩
    · exact ⟨pre_add List.prefix_rfl _, j, rfl, by simp at h4; exact ⟨fun _ => hm.2 (.inl h4), fun _ => by omega⟩⟩
    · refine ⟨n - (j + 1), by omega, j + 1, by rw [wI_ (by omega) (by omega)]; simp, by omega, rfl, ?_⟩
      simp at h4
      rw [hm]; simp [h4]
  · refine ⟨pre_add List.prefix_rfl _, -1, rfl, ?_⟩
    rw [hm, List.drop_eq_nil_of_le (by omega)]; simp
theorem contains_w {S : St} {p : Option Addr} {n c : Nat} {l : List Sg} (h : Ar S p n 3 eSg l) (hl : n ≤ 140737488355328) (s : Sg) :
    Sp (g_slices_Contains_api_Stage_api_Stage [.slice p n c, vA [vI s.R, vI s.L, vI s.M]]) S fun v S' => v = vB (decide (s ∈ l)) := by
  unfold Sp
  rw [g_slices_Contains_api_Stage_api_Stage_eq]
  simp only [wps]
  refine (index_w (h.mono (pre_add List.prefix_rfl _)) hl s).use ?_
  rintro _ S1 h1 ⟨r, rfl, hr⟩
  simp only [wps]
  refine ⟨pre_of_add h1, ?_⟩
  by_cases h2 : s ∈ l
  · simp [h2, hr.2 h2]
  · have : ¬ 0 ≤ r := fun h => h2 (hr.1 h)
    simp [h2, this]
end Go.AM
set_option linter.unusedVariables false
set_option linter.unusedSimpArgs false
namespace Go.AM
open Go Go.Proofs.YtcilfgedcnehfaaGreatDoor
theorem stages_len (n : Int) : (stagesV n).1.length ≤ 4096 := by
  unfold stagesV
  by_cases h : (radV n).2 = 0
  · have := (stages_facts h).2
    unfold stagesV at this
    exact this
  · rw [if_neg h]; simp
theorem stepc_w {p : Int} {S : St} {axes : Option Addr} {n c : Nat} {l : List Ax} (h : Ar S axes n 2 eAx l) (hl : n ≤ 8796093022208) (s : Stp) :
    Sp (g_step_Check [vU p, .slice axes n c, vA [vI s.ax, vB s.tw, vI s.st.R, vI s.st.L, vI s.st.M]]) S fun v S' => v = vI (stepV p l s) := by
  unfold Sp
  have hn := h.1
  rw [g_step_Check_eq]
  simp only [wps]
  refine (grid_w (h.mono (List.prefix_append _ _)) hl).use ?_
  rintro _ S1 h1 rfl
  have hb := pre_get h1 get_new
  have hb2 : ∀ o, (S1 ++ [o])[S.length]? = _ := fun o => get_add hb
  have hc := cell_blk hb
  have hc2 := fun o => cell_blk (hb2 o)
  have h0 := pre_of_add h1
  simp only [wps, hc, hc2]
  unfold stepV
  refine ⟨fun h2 => ⟨h0, by rw [if_neg h2]⟩, fun h2 => ?_⟩
  rw [if_pos h2]
  refine ⟨fun h3 => ⟨h0, by rw [if_neg (by omega)]⟩, fun h3 => ⟨fun h4 => ⟨h0, by rw [if_neg (by omega)]⟩, fun h4 => ?_⟩⟩
  rw [if_pos (by omega)]
  obtain ⟨k, hk⟩ := Int.eq_ofNat_of_zero_le (show 0 ≤ s.ax by omega)
  have hkl : k < l.length := by omega
  refine ⟨fun h5 => ?_, fun h5 => ?_⟩
  · obtain ⟨a, rfl, c1, c2⟩ := (h.mono (pre_add h0 [.cells [vI 0, vI 0, vI 0] 94 none])).getAx hkl
    rw [if_neg (by rw [h5]; simp), hk, axAt_nat l k hkl]
    simp only [wps, c1]
    refine ⟨by omega, stages_w.mono ?_⟩
    rintro _ S2 ⟨b, rfl, hst⟩
    have h6 := hst.pre
    have hst := hst.ar (fun _ => rfl) (by decide)
    simp only [wps]
    refine ⟨fun h7 => ⟨(pre_add h0 _).trans h6, by rw [if_neg h7]⟩, fun h7 => ?_⟩
    rw [if_pos h7]
    have hc3 := cell_blk (pre_get h6 (hb2 _))
    simp only [wps, hc3]
    refine (contains_w hst (by have := stages_len l[k].N; omega) s.st).use ?_
    rintro _ S3 h8 rfl
    simp only [wps]
    have h9 := ((pre_add h0 _).trans h6).trans h8
    exact ⟨fun h10 => ⟨h9, by simp [h10]⟩, fun h10 => ⟨h9, by simp [h10]⟩⟩
  · rw [if_pos h5]
    have hst : Ar (S1 ++ [.cells [vI 0, vI 0, vI 0] 94 none]) (some (ad S1.length 0)) 1 3 eSg [⟨0, 0, 0⟩] := Ar.blk (l := ([⟨0, 0, 0⟩] : List Sg)) get_new (fun _ _ => rfl) rfl
    refine (contains_w hst (by omega) s.st).use ?_
    rintro _ S3 h8 rfl
    simp only [wps]
    have h9 := (pre_add h0 _).trans h8
    exact ⟨fun h10 => ⟨h9, by rw [List.mem_singleton] at h10; rw [if_neg h10]⟩, fun h10 => ⟨h9, by rw [List.mem_singleton] at h10; rw [if_pos h10]⟩⟩
theorem fill_at {c : List Value} {f : Nat → Value} {n j : Nat} {z : Value} (h : c = (List.range j).map f ++ List.replicate (n - j) z) (hj : j < n) {v : Value} (hv : v = f j) :
    splice c j [v] = (List.range (j + 1)).map f ++ List.replicate (n - (j + 1)) z := by
  have hlen : ((List.range j).map f).length = j := by simp
  rw [splice_set (by rw [h]; simp; omega), h, List.set_append_right _ _ (by omega), hlen, Nat.sub_self, show n - j = (n - (j + 1)) + 1 by omega, List.replicate_succ, List.set_cons_zero, List.range_succ, hv]
  simp
theorem powers_w {p a many : Int} (ha : 0 ≤ a ∧ a < 18446744073709551616) {S : St} :
    Sp (g_power_Powers [vU p, vU a, vI many]) S fun v S' => ∃ b k, v = vT [.slice b (powersV p a many).1.length k, vI (powersV p a many).2] ∧ Ar S' b (powersV p a many).1.length 1 eU (powersV p a many).1 ∧
      ((powersV p a many).2 = 0 → b = some ⟨S.length, 0, none⟩ ∧ k = many.toNat ∧ S'[S.length]? = some (.cells ((powersV p a many).1.map (.int .u64)) 22 none)) := by
  unfold Sp
  rw [g_power_Powers_eq, known_w]
  unfold powersV
  cases hk : known p with
  | false => simp only [wps]; exact ⟨List.prefix_rfl, none, 0, rfl, .nil, by simp⟩
  | true =>
    rw [if_pos rfl]
    simp only [wps]
    refine ⟨fun h1 => ?_, fun h1 => ⟨fun h2 => ?_, fun h2 => ?_⟩⟩
    · rw [if_pos (.inl h1)]; exact ⟨List.prefix_rfl, none, 0, rfl, .nil, by simp⟩
    · rw [if_pos (.inr h2)]; exact ⟨List.prefix_rfl, none, 0, rfl, .nil, by simp⟩
    · rw [if_neg (by omega)]
      obtain ⟨n, rfl⟩ := Int.eq_ofNat_of_zero_le (show 0 ≤ many by omega)
      simp only [wps, zeroC_one]
      refine ⟨⟨by omega, by omega, by omega, rfl⟩, ?_⟩
      refine wp_loop (fun st S' m => ∃ j : Nat, st = [vU (powM p a j), vI j] ∧ j ≤ n ∧ m = n - j ∧ S' = S ++ [.cells ((List.range j).map (fun i => .int .u64 (powM p a i)) ++ List.replicate (n - j) (.int .u64 0)) 22 none]) ?_ n _ _ ⟨0, by rw [powM_zero a hk]; rfl, by omega, by omega, by simp⟩
      rintro st S' m ⟨j, rfl, hj, rfl, rfl⟩
      have hm := mul_w (p := p) (powM_range p a j) ha
      rw [mulF_powM1] at hm
      simp only [wps, hm]
      refine ⟨fun h3 => ⟨h3, ⟨by simp; omega, ?_⟩⟩, fun h3 => ?_⟩
      · refine ⟨n - (j + 1), by omega, j + 1, by rw [wI_ (by omega) (by omega)]; simp, by omega, rfl, ?_⟩
        rw [fill_at (f := fun i => .int .u64 (powM p a i)) (z := .int .u64 0) rfl (by omega) rfl]
      · obtain rfl : j = n := by omega
        have e : (powsV p a j).length = j := powsV_len p a j
        rw [Nat.sub_self]
        have e2 : (List.map (fun i => Value.int .u64 (powM p a i)) (List.range j) ++ List.replicate 0 (Value.int .u64 0)) = (powsV p a j).map (.int .u64) := by simp [powsV]
        rw [e2]
        exact ⟨List.prefix_append _ _, some ⟨S.length, 0, none⟩, j, by rw [e], arU_blk get_new, rfl, rfl, rfl⟩
end Go.AM
set_option linter.unusedVariables false
set_option linter.unusedSimpArgs false
namespace Go.AM
open Go Go.Proofs.YtcilfgedcnehfaaGreatDoor
theorem rdN_ar {S : St} {b n : Nat} {c : List Value} {e : TypeId} {g : Option Nat} {Q : List Value → St → Prop} (hb : S[b]? = some (.cells c e g)) (hn : c.length = n) (q : Q c S) : WP (rdN (some ⟨b, 0, none⟩) n) S Q := by
  refine wp_rdN hb rfl (by simp [hn]) ?_
  rw [List.drop_zero, ← hn, List.take_length]; exact q
theorem table_w {p : Int} {S : St} {axes : Option Addr} {n c : Nat} {l : List Ax} (h : Ar S axes n 2 eAx l) (hl : n ≤ 8796093022208) (inv : Bool) (s : Stp) :
    Sp (g_step_Table [vU p, .slice axes n c, vB inv, vA [vI s.ax, vB s.tw, vI s.st.R, vI s.st.L, vI s.st.M]]) S fun v S' => ∃ b k, v = vT [.slice b (tableV p l inv s (tabV p l inv s)).length k, vI (stepV p l s)] ∧
      Ar S' b (tableV p l inv s (tabV p l inv s)).length 1 eU (tableV p l inv s (tabV p l inv s)) := by
  unfold Sp
  have hn := h.1
  rw [g_step_Table_eq]
  simp only [wps]
  refine (stepc_w (h.mono (List.prefix_append _ _)) hl s).use ?_
  rintro _ S1 h1 rfl
  have h0 := pre_of_add h1
  have hb := pre_get h1 get_new
  simp only [wps, cell_blk hb]
  unfold tableV
  refine ⟨fun h2 => by rw [if_neg h2]; exact ⟨h0, none, 0, rfl, .nil⟩, fun h2 => ?_⟩
  rw [if_pos h2, h2]
  obtain ⟨hg, hs⟩ := stepV_inv h2
  obtain ⟨hb0, hb1⟩ := base_ok hg hs inv
  obtain ⟨hk, _, hall⟩ := grid_ok hg
  obtain ⟨k, hkl, e0, h3⟩ := hs
  obtain ⟨hr, ho⟩ := hall l[k] (List.getElem_mem hkl)
  obtain ⟨n1, n2, _⟩ := radV_facts hr
  have hax : axAt l s.ax = l[k] := by rw [e0, axAt_nat l k hkl]
  obtain ⟨a, rfl, c1, c2⟩ := (h.mono h0).getAx hkl
  rw [e0]
  simp only [wps, c1, c2]
  refine ⟨by omega, ?_⟩
  have hb2 : ∀ o, (S1 ++ [o])[S.length]? = _ := fun o => get_add hb
  simp only [wps, fun o => cell_blk (hb2 o)]
  refine base_w.use ?_
  rintro _ S2 h4 rfl
  rw [hax] at hb0 hb1
  have h5 := (pre_add h0 _).trans h4
  have hb3 := pre_get h4 (hb2 _)
  have hb4 := pre_get h4 get_new
  simp only [wps, hb0, cell_blk hb3, cell_blk hb4]
  unfold tabV
  rw [hax]
  rcases h3 with ⟨h3, h6⟩ | ⟨h3, h6⟩
  · obtain ⟨N, hN⟩ := Int.eq_ofNat_of_zero_le (show 0 ≤ l[k].N by omega)
    generalize (baseV p l[k] inv s).1 = w at hb1 ⊢
    have hpw : powersV p w (N : Int) = (powsV p w N, 0) := by unfold powersV; rw [if_pos hk, if_neg (by omega), Int.toNat_natCast]
    simp only [wps, h3]
    rw [if_pos (by simp), hN, Int.toNat_natCast]
    refine (powers_w (p := p) (a := w) hb1).use ?_
    rintro _ S3 h7 ⟨b, k', rfl, hpa, hpb⟩
    rw [hpw] at hpa hpb ⊢
    obtain ⟨rfl, hk', hpc⟩ := hpb rfl
    rw [Int.toNat_natCast] at hk'
    have hk' := hk'.symm
    subst hk'
    simp only [powsV_len, Int.toNat_natCast] at hpa hpc
    simp only [wps, powsV_len]
    refine ⟨fun h8 => ?_, fun h8 => ?_⟩
    · rw [h8]
      simp only [wps, Bool.false_eq_true, if_false]
      rw [powsV_len]
      exact ⟨h5.trans h7, _, _, rfl, hpa⟩
    · rw [h8]
      have hred : red p (N : Int) ≠ 0 := by
        unfold red; rw [if_pos hk]
        have : (N : Int) < p := by rcases known_cases hk with rfl | rfl | rfl <;> simp only [P0, P1, P2] <;> omega
        rw [Int.emod_eq_of_lt (by omega) this]; omega
      obtain ⟨i0, i1⟩ := inv_ok hk hred
      have e3 : wU (N : Int) = N := wU_ (by omega) (by omega)
      have hb6 := pre_get h7 hb4
      simp only [wps, cell_blk hb6, hN, e3, inv_w (p := p) (a := (N : Int)) ⟨by omega, by omega⟩, i0]
      generalize (invV p (N : Int)).1 = iv at i1 ⊢
      simp only [if_true, List.length_map, powsV_len]
      refine wp_loop (fun st S' m => ∃ j : Nat, st = [vI j] ∧ j ≤ N ∧ m = N - j ∧ S3.set S2.length (.cells ((((powsV p w N).map fun x => mulF p x iv).take j ++ (powsV p w N).drop j).map (.int .u64)) 22 none) <+: S') ?_ N _ _
        ⟨0, rfl, by omega, by omega, by
          simp only [List.take_zero, List.nil_append, List.drop_zero]
          rw [set_get hpc]; exact List.prefix_rfl⟩
      rintro st S' m ⟨j, rfl, hj, rfl, hp⟩
      have hS2 : S2.length < S3.length := pre_lt hpc
      have hlen := powsV_len p w N
      have hbl := pre_get hp (i := S2.length) (by rw [List.getElem?_set_self hS2])
      simp only [wps]
      refine ⟨fun h9 => ⟨h9, ?_⟩, fun h9 => ?_⟩
      · have hj' : j < N := by omega
        have hx := powM_range p w j
        have hx2 : (powsV p w N)[j]? = some (powM p w j) := by simp [powsV, hj']
        have hl1 : (((powsV p w N).map fun x => mulF p x iv).take j).length = j := by simp; omega
        have hcell : S'.cell ⟨S2.length, j, none⟩ = some (.int .u64 (powM p w j)) := by
          rw [cell_blk hbl, List.getElem?_map, List.getElem?_append_right (by omega), hl1, Nat.sub_self, List.getElem?_drop, Nat.add_zero, hx2]; rfl
        simp only [wps, hcell, mul_w (p := p) hx i1, hbl]
        refine ⟨h9, by simp; omega, N - (j + 1), by omega, j + 1, by rw [wI_ (by omega) (by omega)]; simp, by omega, rfl, ?_⟩
        have e4 : splice ((((powsV p w N).map fun x => mulF p x iv).take j ++ (powsV p w N).drop j).map (.int .u64)) j [.int .u64 (mulF p (powM p w j) iv)] = (((powsV p w N).map fun x => mulF p x iv).take (j + 1) ++ (powsV p w N).drop (j + 1)).map (.int .u64) := by
          rw [splice_set (by simp; omega), ← List.map_set, List.set_append_right _ _ (by omega), hl1, Nat.sub_self, List.drop_eq_getElem_cons (by omega), List.set_cons_zero, List.take_add_one, List.getElem?_map, hx2]
          simp
        rw [e4]
        have := pre_set hp (b := S2.length) (o := .cells ((((powsV p w N).map fun x => mulF p x iv).take (j + 1) ++ (powsV p w N).drop (j + 1)).map (.int .u64)) 22 none) (by simpa using hS2)
        rwa [List.set_set] at this
      · obtain rfl : j = N := by omega
        rw [List.take_of_length_le (by simp; omega), List.drop_of_length_le (by omega), List.append_nil] at hbl
        have h10 : S <+: S' := (h5.trans (pre_set' h7 (Nat.le_refl _))).trans hp
        refine ⟨h10, _, _, rfl, ?_⟩
        have := arU_blk hbl
        rwa [List.length_map, powsV_len] at this
  · obtain ⟨g1, g2, g3, g4, g5, g6⟩ := stages_ok (stages_facts hr).1 h6
    have hp1 : 1 ≤ s.st.R * s.st.M := by have := Int.mul_le_mul (show 1 ≤ s.st.R by omega) g4 (by omega) (by omega); omega
    have hp2 := prod_bound g3 hp1 g5 g6
    have hM : s.st.M ≤ 4096 := prod_bound (show 1 ≤ s.st.R by omega) g4 rfl hp2
    rw [Int.mul_comm] at hp1 hp2
    simp only [wps, h3]
    rw [wI_ (n := s.st.M * s.st.R) (by omega) (by omega)]
    obtain ⟨R, hR⟩ := Int.eq_ofNat_of_zero_le (show 0 ≤ s.st.R by omega)
    obtain ⟨M', hM'⟩ := Int.eq_ofNat_of_zero_le (show 0 ≤ s.st.M by omega)
    generalize hw : (baseV p l[k] inv s).1 = w at hb1 ⊢
    have e1 : (s.st.M * s.st.R).toNat = M' * R := by rw [hR, hM', ← Int.natCast_mul, Int.toNat_natCast]
    have e2 : s.st.M * s.st.R = ((M' * R : Nat) : Int) := by rw [hR, hM', Int.natCast_mul]
    rw [hR, hM'] at hp1 hp2
    rw [e1, zeroC_one, hR, hM', Int.toNat_natCast, Int.toNat_natCast, if_neg (by simp)]
    refine ⟨⟨by decide, by omega, by omega, by omega, rfl⟩, ?_⟩
    refine wp_loop (fun st S' m => ∃ j : Nat, st = [.slice (some ⟨S2.length, 0, none⟩) (j * R) (M' * R), vU (powM p w j)] ∧ j ≤ M' ∧ m = M' - j ∧ S2 ++ [.cells ((rowsV p w R j).map (.int .u64) ++ List.replicate ((M' - j) * R) (.int .u64 0)) 22 none] <+: S') ?_ M' _ _
      ⟨0, by rw [powM_zero w hk]; simp, by omega, by omega, by simp [rowsV]⟩
    rintro st S' m ⟨j, rfl, hj, rfl, hp⟩
    have hp' := pre_of_add hp
    have hb5 := pre_get hp' hb3
    have hlen := rowsV_len p w R j
    have hbl := pre_get hp get_new
    have h7 := h5.trans hp'
    rcases Nat.lt_or_ge j M' with h8 | h8
    · have h9 : j * R + R ≤ M' * R := by rw [← Nat.succ_mul]; exact Nat.mul_le_mul_right _ h8
      have hm := mul_w (p := p) (powM_range p w j) hb1
      rw [mulF_powM1] at hm
      have hpw : powersV p (powM p w j) (R : Int) = (powsV p (powM p w j) R, 0) := by unfold powersV; rw [if_pos hk, if_neg (by omega), Int.toNat_natCast]
      simp only [wps, cell_blk hb5, hR, hM', hm]
      rw [show (M' : Int) * R = ((M' * R : Nat) : Int) by rw [Int.natCast_mul], wI_ (n := ((M' * R : Nat) : Int)) (by omega) (by omega)]
      refine ⟨fun h10 => ?_, fun h10 => by omega⟩
      refine (powers_w (p := p) (a := powM p w j) (powM_range p w j)).use ?_
      rintro _ S3 h11 ⟨b, k', rfl, hpa, hpb⟩
      rw [hpw] at hpa hpb ⊢
      obtain ⟨rfl, hk', hpc⟩ := hpb rfl
      simp only [wps, powsV_len]
      refine rdN_ar hpc (by rw [List.length_map, powsV_len]) ?_
      have hbl2 := pre_get h11 hbl
      refine wp_app_in hbl2 h9 ?_ (by simp [leafV]) ?_
      · simp only [List.length_map, powsV_len, List.length_append, List.length_replicate, hlen]
        have : (M' - j) * R = M' * R - j * R := Nat.sub_mul ..
        omega
      · simp only [wps]
        refine ⟨M' - (j + 1), by omega, j + 1, by rw [Nat.succ_mul], by omega, rfl, ?_⟩
        have e4 : splice ((rowsV p w R j).map (.int .u64) ++ List.replicate ((M' - j) * R) (.int .u64 0)) (j * R) ((powsV p (powM p w j) R).map (.int .u64)) = (rowsV p w R (j + 1)).map (.int .u64) ++ List.replicate ((M' - (j + 1)) * R) (.int .u64 0) := by
          have e5 : (M' - j) * R - R = (M' - (j + 1)) * R := by rw [← Nat.sub_one_mul, Nat.sub_sub]
          unfold splice
          rw [rowsV, List.take_append_of_le_length (by simp [hlen]), List.take_of_length_le (by simp [hlen]), List.drop_append, List.drop_of_length_le (by simp [hlen])]
          simp [hlen, powsV_len, e5]
        rw [e4]
        exact pre_top (hp.trans h11)
    · obtain rfl : j = M' := by omega
      simp only [wps, cell_blk hb5, hR, hM']
      rw [show (j : Int) * R = ((j * R : Nat) : Int) by rw [Int.natCast_mul], wI_ (n := ((j * R : Nat) : Int)) (by omega) (by omega)]
      refine ⟨fun h10 => by omega, fun h10 => ?_⟩
      refine ⟨h7, _, _, by rw [hlen], ?_⟩
      rw [Nat.sub_self, Nat.zero_mul, List.replicate_zero, List.append_nil] at hbl
      exact arU_blk hbl
end Go.AM
set_option linter.unusedVariables false
set_option linter.unusedSimpArgs false
namespace Go.AM
open Go Go.Proofs.YtcilfgedcnehfaaGreatDoor
theorem steps_tail {inv : Bool} {k : Int} {b sa : Option Addr} {sts : List Sg} {nl q n1 : Nat} {S0 S : St} {dn : List Stp} {Q : Nat × List Value → St → Prop}
    (h : Ap S0 none S sa q 96 5 (dn.flatMap eStp)) (hr : Ar S b nl 3 eSg sts) (hne : ∀ x, b = some x → sa ≠ some ⟨x.block, 0, none⟩)
    (hn : S[n1]? = some (.cells [vI k, vB true, vI 0, vI 0, vI 0] 96 none)) (hk : 0 ≤ k ∧ k < 1000) (hsz : dn.length + sts.length + 1 ≤ 100000)
    (hq : ∀ sa' q' S', Ap S0 none S' sa' q' 96 5 ((dn ++ sts.map (stg k) ++ (if inv = true then [tw k] else [])).flatMap eStp) → Q (0, [.slice sa' q' q', vI (k + 1)]) S') :
    WP (k_plan_Steps_1 inv k ⟨b, nl, nl⟩ n1 (0, [.slice sa q q])) S Q := by
  have hnl := hr.1
  unfold k_plan_Steps_1
  simp only [wps]
  refine wp_loop (fun st S' m => ∃ (j : Nat) (sa' : Option Addr) (q' : Nat), st = [.slice sa' q' q', vI j] ∧ j ≤ nl ∧ m = nl - j ∧ Ap S sa S' sa' q' 96 5 ((dn ++ (sts.take j).map (stg k)).flatMap eStp)) ?_ nl _ _
    ⟨0, sa, q, rfl, by omega, by omega, by simpa using h.start⟩
  rintro st S' m ⟨j, sa', q', rfl, hj, rfl, ha⟩
  have hcnt := ha.cnt (fun _ => rfl) (by decide)
  simp only [List.length_append, List.length_map, List.length_take] at hcnt
  simp only [wps]
  refine ⟨fun h3 => ⟨h3, ?_⟩, fun h3 => ?_⟩
  · have hj' : j < sts.length := by omega
    obtain ⟨a, rfl, c1, c2, c3⟩ := (ha.kAr hr hne).getSg hj'
    simp only [wps, c1, c2, c3]
    refine wp_push (ha.more (List.prefix_append _ _)) rfl (by omega) (by omega) rfl ?_
    intro b' S2 h6
    simp only [wps]
    rw [wI_ (n := (j : Int) + 1) (by omega) (by omega)]
    refine ⟨nl - (j + 1), by omega, j + 1, _, _, rfl, by omega, rfl, ?_⟩
    have e : (dn ++ (sts.take (j + 1)).map (stg k)).flatMap eStp = (dn ++ (sts.take j).map (stg k)).flatMap eStp ++ [vI k, vB false, vI sts[j].R, vI sts[j].L, vI sts[j].M] := by
      have e0 : (sts.take (j + 1)).map (stg k) = (sts.take j).map (stg k) ++ [stg k sts[j]] := by
        rw [List.take_add_one, List.getElem?_eq_getElem hj', List.map_append]; rfl
      rw [e0, ← List.append_assoc, List.flatMap_append]; rfl
    rw [e]; exact h6
  · rw [List.take_of_length_le (by omega)] at ha
    have hb := ha.cells hn
    rw [wI_ (n := k + 1) (by omega) (by omega)]
    simp only [wps, cell_blk hb]
    refine ⟨fun hi => ?_, fun hi => ?_⟩
    · refine wp_push ha rfl (by omega) (by omega) rfl ?_
      intro b' S2 h6
      simp only [wps]
      refine hq _ _ _ ?_
      rw [hi, if_pos rfl]
      have := h.trans (h.start.trans h6)
      simpa [eStp, tw] using h.trans h6
    · refine hq _ _ _ ?_
      rw [hi, if_neg (by simp), List.append_nil]
      exact h.trans ha
theorem steps_w {p : Int} {S : St} {axes : Option Addr} {n c : Nat} {l : List Ax} (h : Ar S axes n 2 eAx l) (hl : n ≤ 8796093022208) (inv : Bool) :
    WP (g_plan_Steps [vU p, .slice axes n c, vB inv]) S fun v S' => ∃ a, v = vT [.slice a (stepsV p l inv).1.length (stepsV p l inv).1.length, vI (stepsV p l inv).2] ∧ Ap S none S' a (stepsV p l inv).1.length 96 5 ((stepsV p l inv).1.flatMap eStp) := by
  have hn := h.1
  rw [g_plan_Steps_eq]
  simp only [wps]
  refine (grid_w h hl).use ?_
  rintro _ S1 h1 rfl
  simp only [wps]
  unfold stepsV
  refine ⟨fun h2 => by rw [if_neg h2]; exact ⟨none, rfl, Ap.nil.more h1⟩, fun h2 => ?_⟩
  rw [if_pos h2]
  obtain ⟨hk, hal, hall⟩ := grid_ok h2
  have h4 : n ≤ 4 := by have := (allV_len hal).2.1; simp [dimsOf] at this; omega
  have hbig := (steps_are inv l (fun a ha => (hall a ha).1) l 0 rfl).2
  generalize hG : stepsGo inv 0 l = G
  have hG' : stepsGo inv ((0 : Nat) : Int) l = G := hG
  rw [hG'] at hbig
  refine wp_loop (fun st S' m => ∃ (j : Nat) (sa : Option Addr) (q : Nat) (dn : List Stp), st = [.slice sa q q, vI j] ∧ j ≤ n ∧ m = n - j ∧ Ap S1 none S' sa q 96 5 (dn.flatMap eStp) ∧
    dn ++ stepsGo inv j (l.drop j) = G) ?_ n _ _ ⟨0, none, 0, [], rfl, by omega, by omega, .nil, by simpa using hG'⟩
  rintro st S' m ⟨j, sa, q, dn, rfl, hj, rfl, ho, hd⟩
  have hq := ho.cnt (fun _ => rfl) (by decide)
  simp only [wps]
  refine ⟨fun h3 => ⟨h3, ?_⟩, fun h3 => ?_⟩
  · have hj' : j < l.length := by omega
    obtain ⟨a, rfl, c1, c2⟩ := (h.mono (h1.trans ho.pre)).getAx hj'
    rw [List.drop_eq_getElem_cons hj', stepsGo] at hd
    have hst := stages_facts (hall _ (List.getElem_mem hj')).1
    have hbd : dn.length + (stagesV l[j].N).1.length + 2 ≤ 100000 := by
      have : (dn ++ _).length = _ := congrArg List.length hd
      simp only [List.length_append, List.length_map] at this
      omega
    simp only [wps, c1, c2]
    refine stages_w.mono ?_
    rintro _ S2 ⟨b, rfl, hsa⟩
    have h5 := hsa.pre
    have hb1 := pre_get h5 get_new
    have ho2 := ho.more (pre_of_add h5)
    have har := hsa.ar (fun _ => rfl) (by decide)
    have hfr : ∀ x, b = some x → S'.length < x.block := fun x hx => by have := hsa.new hx; simp at this; omega
    simp only [wps, hst.1]
    have hb2 : ∀ o, (S2 ++ [o])[S'.length]? = _ := fun o => get_add hb1
    have fin : ∀ (sa' : Option Addr) (q' : Nat) (S' : St), Ap S1 none S' sa' q' 96 5 ((dn ++ (if l[j].neg = true ∧ inv = false then [tw j] else []) ++ (stagesV l[j].N).1.map (stg j) ++ (if inv = true then [tw j] else [])).flatMap eStp) →
        ∃ n', n' < n - j ∧ ∃ (j_1 : Nat) (sa : Option Addr) (q : Nat) (dn : List Stp), [Value.slice sa' q' q', vI (j + 1)] = [Value.slice sa q q, vI ↑j_1] ∧ j_1 ≤ n ∧ n' = n - j_1 ∧ Ap S1 none S' sa q 96 5 (List.flatMap eStp dn) ∧ dn ++ stepsGo inv ↑j_1 (List.drop j_1 l) = G := by
      intro sa' q' S' hap
      refine ⟨n - (j + 1), by omega, j + 1, sa', q', _, by simp, by omega, rfl, hap, ?_⟩
      rw [← hd, show ((j : Int) + 1) = ((j + 1 : Nat) : Int) by omega]
      simp only [List.append_assoc]
    simp only [wps, fun o => cell_blk (hb2 o)]
    refine ⟨fun h6 => ⟨fun h7 => ?_, fun h7 => ?_⟩, fun h6 => ?_⟩
    · have hin : ∀ x, b = some x → sa ≠ some ⟨x.block, 0, none⟩ := fun x hx e => by
        have := hfr x hx
        have h9 := ho.lt e
        omega
      have hm := ho2.more (List.prefix_append S2 [.cells [vI (j : Int), vB true, vI 0, vI 0, vI 0] 96 none])
      refine wp_push (bt := 40) hm.start rfl (by omega) (by omega) rfl ?_
      intro b' S3 h8
      have h9 := hm.trans h8
      have e9 : dn.flatMap eStp ++ [vI (j : Int), vB true, vI 0, vI 0, vI 0] = (dn ++ [tw j]).flatMap eStp := by simp [eStp, tw]
      rw [e9] at h9
      refine steps_tail (sts := (stagesV l[j].N).1) h9 (h8.kAr (har.mono (List.prefix_append _ _)) hin) (fun x hx e => ?_) (h8.cells get_new) ⟨by omega, by omega⟩ (by simp; omega) ?_
      · rcases h8.at_ with h10 | ⟨c', h10, h11⟩
        · rw [h10] at e; exact hin x hx e
        · rw [h10] at e
          have h12 := hsa.below hx
          simp at e h11
          omega
      · intro sa' q' S' hap
        exact fin sa' q' S' (by rw [if_pos ⟨h6, h7⟩]; exact hap)
    · have h8 := ho2.more (List.prefix_append S2 [.cells [vI (j : Int), vB true, vI 0, vI 0, vI 0] 96 none])
      refine steps_tail (sts := (stagesV l[j].N).1) h8 (har.mono (List.prefix_append _ _)) (fun x hx e => ?_) get_new ⟨by omega, by omega⟩ (by omega) ?_
      · have := hfr x hx
        have h9 := ho.lt e
        omega
      · intro sa' q' S' hap
        exact fin sa' q' S' (by rw [if_neg (by simp [h7]), List.append_nil]; exact hap)
    · have h8 := ho2.more (List.prefix_append S2 [.cells [vI (j : Int), vB true, vI 0, vI 0, vI 0] 96 none])
      refine steps_tail (sts := (stagesV l[j].N).1) h8 (har.mono (List.prefix_append _ _)) (fun x hx e => ?_) get_new ⟨by omega, by omega⟩ (by omega) ?_
      · have := hfr x hx
        have h9 := ho.lt e
        omega
      · intro sa' q' S' hap
        exact fin sa' q' S' (by rw [if_neg (by simp [h6]), List.append_nil]; exact hap)
  · rw [List.drop_eq_nil_of_le (by omega), stepsGo, List.append_nil] at hd
    subst hd
    rw [← hq]
    exact ⟨sa, rfl, (Ap.nil.more h1).trans ho⟩
end Go.AM
set_option linter.unusedVariables false
set_option linter.unusedSimpArgs false
namespace Go.AM
open Go Go.Proofs.YtcilfgedcnehfaaGreatDoor
theorem sum_w {S : St} {p : Option Addr} {n c : Nat} {l : List Int} (h : Ar S p n 1 eI l) (hn : n ≤ 140737488355328) : Gv (g_cost_sum [.slice p n c]) S (vI (sumW 0 l)) := by
  refine .of ?_
  have hl := h.1
  rw [g_cost_sum_eq]
  simp only [wps]
  refine wp_loop (fun st S' m => ∃ (j : Nat) (x : Int), st = [vI x, vI j] ∧ j ≤ n ∧ m = n - j ∧ S' = S ∧ sumW 0 l = sumW x (l.drop j)) ?_ n _ _ ⟨0, 0, rfl, by omega, by omega, rfl, by simp⟩
  rintro st S' m ⟨j, x, rfl, hj, rfl, rfl, hg⟩
  simp only [wps]
  refine ⟨fun h3 => ⟨h3, ?_⟩, fun h3 => ?_⟩
  · obtain ⟨a, rfl, c1⟩ := h.getI (i := j) (by omega)
    rw [List.drop_eq_getElem_cons (by omega), sumW] at hg
    simp only [wps, c1]
    exact ⟨n - (j + 1), by omega, j + 1, _, by rw [wI_ (n := (j : Int) + 1) (by omega) (by omega)]; simp, by omega, rfl, hg⟩
  · rw [List.drop_eq_nil_of_le (by omega), sumW] at hg
    rw [hg]
theorem cst_w {n t : Int} {S : St} : Sp (g_cost_Step [vI n, vI t]) S fun v S' => v = vT [vI (stV n t).1, vI (stV n t).2] := by
  unfold Sp
  rw [g_cost_Step_eq]
  unfold stV
  simp only [wps]
  refine ⟨fun h => ⟨List.prefix_rfl, by rw [if_pos (by omega)]⟩, fun h1 => ⟨fun h => ⟨List.prefix_rfl, by rw [if_pos (by omega)]⟩, fun h2 => ⟨fun h => ⟨List.prefix_rfl, by rw [if_pos (by omega)]⟩, fun h3 => ⟨fun h => ⟨List.prefix_rfl, by rw [if_pos (by omega)]⟩, fun h4 => ?_⟩⟩⟩⟩
  rw [if_neg (by omega), wI_ (n := n + 6) (by omega) (by omega), wI_ (n := 3 * n) (by omega) (by omega), wI_ (n := 3 * n + 6) (by omega) (by omega)]
  have ha : Ar (S ++ [.cells [vI (n + 6), vI t, vI (3 * n + 6), vI n, vI t, vI n] 3 none]) (some (ad S.length 0)) 6 1 eI [n + 6, t, 3 * n + 6, n, t, n] := Ar.blk (l := [n + 6, t, 3 * n + 6, n, t, n]) get_new (fun _ _ => rfl) rfl
  simp only [wps, (sum_w ha (by omega)).wp]
  refine ⟨List.prefix_append _ _, ?_⟩
  rw [sumW_val 20000 (by omega) _ 0 (by intro x hx; simp at hx; omega) (by omega) (by simp)]
  have : (0 : Int) + [n + 6, t, 3 * n + 6, n, t, n].sum = 6 * n + 12 + 2 * t := by simp; omega
  rw [this]
theorem make_w {p : Int} {S : St} {axes : Option Addr} {n c : Nat} {l : List Ax} (h : Ar S axes n 2 eAx l) (hl : n ≤ 8796093022208) (inv : Bool) :
    Sp (g_plan_Make [vU p, .slice axes n c, vB inv]) S fun v S' => ∃ a, v = vT [vA [vI (makeV p l inv).1.N, vI (makeV p l inv).1.T, vI (makeV p l inv).1.W, .slice a (makeV p l inv).1.st.length (makeV p l inv).1.st.length], vI (makeV p l inv).2] ∧
      Ar S' a (makeV p l inv).1.st.length 5 eStp (makeV p l inv).1.st := by
  unfold Sp
  have hn := h.1
  rw [g_plan_Make_eq]
  simp only [wps]
  refine (steps_w (h.mono (List.prefix_append _ _)) hl inv).mono ?_
  rintro _ S1 ⟨a, rfl, hap⟩
  have h1 := hap.pre
  have h0 := pre_of_add h1
  have hb := pre_get h1 get_new
  have har := hap.ar (fun _ => rfl) (by decide)
  unfold makeV
  unfold stepsV at hap har ⊢
  by_cases h2 : gridV p l = 0
  · simp only [if_pos h2] at hap har ⊢
    obtain ⟨hk, hal, hall⟩ := grid_ok h2
    have h4 : n ≤ 4 := by have := (allV_len hal).2.1; simp [dimsOf] at this; omega
    obtain ⟨hst, hsl⟩ := steps_are inv l (fun a ha => (hall a ha).1) l 0 rfl
    simp only [wps]
    refine (dims_w (h.mono h0) hl).use ?_
    rintro _ S2 h5 ⟨a2, k2, rfl, hd⟩
    simp only [wps, (all_w hd).wp, hal]
    have hN : (allV (dimsOf l)).1 = nV l := rfl
    rw [hN]
    generalize hG : stepsGo inv 0 l = G at hap har ⊢
    have hst : ∀ s ∈ G, IsStep l s := by rw [← hG]; exact hst
    have hsl : G.length ≤ l.length * 4098 := by rw [← hG]; exact hsl
    refine wp_loop (fun st S' m => ∃ (j : Nat) (t : Int), st = [vI j] ∧ j ≤ G.length ∧ m = G.length - j ∧ S2 ++ [.cells [vI (nV l), vI t, vI 0, .slice a G.length G.length] 63 none] <+: S' ∧ 0 ≤ t ∧ t ≤ 4096 ∧
      mkGo p l inv 0 G = mkGo p l inv t (G.drop j)) ?_ G.length _ _ ⟨0, 0, rfl, by omega, by omega, List.prefix_rfl, by omega, by omega, by simp⟩
    rintro st S' m ⟨j, t, rfl, hj, rfl, hp, ht0, ht1, hg⟩
    have h6 := (h5.trans (pre_of_add hp))
    have hbl := pre_get hp get_new
    simp only [wps]
    refine ⟨fun h3 => ⟨h3, ?_⟩, fun h3 => ?_⟩
    · have hj' : j < G.length := by omega
      obtain ⟨x, rfl, c1, c2, c3, c4, c5⟩ := (har.mono h6).getStp hj'
      have hs := hst _ (List.getElem_mem hj')
      have hs0 := stepV_ok p l _ h2 hs
      have htl := tab_len inv h2 hs
      simp only [wps, c1, c2, c3, c4, c5]
      refine (table_w (h.mono ((h0.trans h6).trans (List.prefix_append _ _))) hl inv G[j]).use ?_
      rintro _ S3 h7 ⟨b, k, rfl, _⟩
      have hb2 := pre_get (pre_of_add h7) hbl
      unfold tableV
      simp only [hs0, if_true]
      simp only [wps, cell_blk hb2, hb2]
      refine ⟨by simp, G.length - (j + 1), by omega, j + 1, _, by rw [wI_ (n := (j : Int) + 1) (by omega) (by omega)]; simp, by omega, rfl, pre_top (hp.trans (pre_of_add h7)), ?_, ?_, ?_⟩
      · split <;> omega
      · split <;> omega
      · rw [List.drop_eq_getElem_cons hj', mkGo] at hg
        exact hg
    · rw [List.drop_eq_nil_of_le (by omega), mkGo] at hg
      have hn1 := nV_range h2
      have hb3 := pre_get (h6) hb
      have hlt1 := pre_lt hbl
      have hlt2 := pre_lt hb3
      have hne : S.length < S2.length := pre_lt (pre_get h5 hb)
      rw [wI_ (n := nV l + 6) (by omega) (by omega), wI_ (n := 2 * (nV l + 6)) (by omega) (by omega)]
      have g1 : ∀ o, (S'.set S2.length o)[S2.length]? = some o := fun o => by rw [List.getElem?_set_self hlt1]
      have g2 : ∀ o, (S'.set S2.length o)[S.length]? = some _ := fun o => by rw [List.getElem?_set_ne (by omega)]; exact hb3
      have g3 : ∀ o o', ((S'.set S2.length o).set S.length o')[S.length]? = some o' := fun o o' => by rw [List.getElem?_set_self (by simpa using hlt2)]
      simp only [wps, cell_blk hbl, hbl, g2, fun o c t g => cell_blk (g1 (AObj.cells c t g)) o]
      have g4 : ∀ c t g o, St.cell (S'.set S2.length (AObj.cells c t g)) ⟨S2.length, o, none⟩ = c[o]? := fun c t g o => cell_blk (g1 _) o
      have g5 : ∀ o' c t g o, St.cell ((S'.set S2.length o').set S.length (AObj.cells c t g)) ⟨S.length, o, none⟩ = c[o]? := fun o' c t g o => cell_blk (g3 _ _) o
      simp only [wps, g4, g2, g5]
      rw [wI_ (n := 2 * (nV l + 6) + t) (by omega) (by omega)]
      refine ⟨by omega, pre_set' (pre_set' (h0.trans h6) (by omega)) (Nat.le_refl _), a, ?_, ?_⟩
      · rw [hg]
      · refine ((har.mono h6).set (fun x hx => ?_)).set fun x hx => ?_
        · have := hap.below hx
          have := h5.length_le
          omega
        · have := hap.new hx
          simp at this; omega
  · simp only [if_neg h2] at hap har ⊢
    have hlt := pre_lt hb
    have g5 : ∀ c t g o, St.cell (S1.set S.length (AObj.cells c t g)) ⟨S.length, o, none⟩ = c[o]? := fun c t g o => cell_blk (List.getElem?_set_self hlt) o
    simp only [wps, hb, g5]
    refine ⟨fun _ => ⟨pre_set' h0 (Nat.le_refl _), none, rfl, .nil⟩, fun h => absurd h h2⟩
end Go.AM
set_option linter.unusedVariables false
set_option linter.unusedSimpArgs false
namespace Go.AM
open Go Go.Proofs.YtcilfgedcnehfaaGreatDoor
theorem stages_zero {l : List Ax} (hall : ∀ a ∈ l, (radV a.N).2 = 0) (inv : Bool) : (∀ s ∈ stepsGo inv 0 l, IsStep l s) ∧ (stepsGo inv 0 l).length ≤ l.length * 4098 := steps_are inv l hall l 0 rfl
theorem csteps_w {p : Int} {S : St} {axes : Option Addr} {n c : Nat} {l : List Ax} (h : Ar S axes n 2 eAx l) (hl : n ≤ 8796093022208) (inv : Bool) :
    Sp (g_cost_steps [vU p, .slice axes n c, vB inv]) S fun v S' => ∃ a k, v = (if gridV p l = 0 then vT [vI (nV l), .slice a (stepsGo inv 0 l).length k, vI 0] else vT [vI 0, .slice a 0 k, vI (gridV p l)]) ∧
      (gridV p l = 0 → Ar S' a (stepsGo inv 0 l).length 1 eI (costL p l inv (stepsGo inv 0 l))) := by
  unfold Sp
  have hn := h.1
  rw [g_cost_steps_eq]
  simp only [wps]
  refine (make_w h hl inv).use ?_
  rintro _ S1 h1 ⟨a, rfl, har⟩
  unfold makeV at har ⊢
  by_cases h2 : gridV p l = 0
  · simp only [if_pos h2] at har ⊢
    obtain ⟨hk, hal, hall⟩ := grid_ok h2
    have h4 : n ≤ 4 := by have := (allV_len hal).2.1; simp [dimsOf] at this; omega
    obtain ⟨hst, hsl⟩ := stages_zero (fun a ha => (hall a ha).1) inv
    have hn1 := nV_range h2
    generalize hG : stepsGo inv 0 l = G at har hst hsl ⊢
    simp only [wps, zeroC_one]
    have hbm : ∀ o, (S1 ++ [AObj.cells [vI (nV l), vI (mkGo p l inv 0 G), vI (2 * (nV l + 6) + mkGo p l inv 0 G), Value.slice a G.length G.length] 63 none] ++ [o])[S1.length]? = _ := fun o => get_add get_new
    simp only [wps, fun o => cell_blk (hbm o)]
    refine ⟨⟨by omega, by omega, by omega, rfl⟩, ?_⟩
    generalize hB : S1 ++ [AObj.cells [vI (nV l), vI (mkGo p l inv 0 G), vI (2 * (nV l + 6) + mkGo p l inv 0 G), Value.slice a G.length G.length] 63 none] = B at hbm ⊢
    have h3 : S1 <+: B := by rw [← hB]; exact List.prefix_append _ _
    have hlenC : (costL p l inv G).length = G.length := by simp [costL]
    refine wp_loop (fun st S' m => ∃ j : Nat, st = [vI j] ∧ j ≤ G.length ∧ m = G.length - j ∧ B ++ [.cells (((costL p l inv G).take j).map (.int .i64) ++ List.replicate (G.length - j) (.int .i64 0)) 3 none] <+: S') ?_ G.length _ _
      ⟨0, rfl, by omega, by omega, by simp⟩
    rintro st S' m ⟨j, rfl, hj, rfl, hp⟩
    have h5 := h3.trans (pre_of_add hp)
    have hbl := pre_get hp get_new
    have hb0 := pre_get hp (hbm _)
    simp only [wps]
    refine ⟨fun h6 => ⟨h6, ?_⟩, fun h6 => ?_⟩
    · have hj' : j < G.length := by omega
      obtain ⟨x, rfl, c1, c2, c3, c4, c5⟩ := (har.mono h5).getStp hj'
      have hs := hst _ (List.getElem_mem hj')
      have hs0 := stepV_ok p l _ h2 hs
      have htl := tab_len inv h2 hs
      simp only [wps, c1, c2, c3, c4, c5]
      refine (table_w (h.mono ((h1.trans h5).trans (List.prefix_append _ _))) hl inv G[j]).use ?_
      rintro _ S3 h7 ⟨b, k, rfl, _⟩
      have h8 := pre_of_add h7
      unfold tableV
      simp only [hs0, if_true]
      simp only [wps, cell_blk (pre_get h8 hb0)]
      refine cst_w.use ?_
      rintro _ S4 h9 rfl
      have hst2 : stV (nV l) ((tabV p l inv G[j]).length : Int) = (6 * nV l + 12 + 2 * ((tabV p l inv G[j]).length : Int), 0) := by unfold stV; rw [if_neg (by omega)]
      rw [hst2]
      have hb9 := pre_get (h8.trans h9) hbl
      simp only [wps, hb9]
      refine ⟨h6, by simp [hlenC]; omega, G.length - (j + 1), by omega, j + 1, by rw [wI_ (n := (j : Int) + 1) (by omega) (by omega)]; simp, by omega, rfl, ?_⟩
      rw [fill_set (l := costL p l inv G) (n := G.length) (j := j) (z := 0) (x := 6 * nV l + 12 + 2 * ((tabV p l inv G[j]).length : Int)) rfl hlenC hj' (by simp [costL, hj'])]
      exact pre_top ((hp.trans h8).trans h9)
    · simp only [wps, cell_blk hb0]
      refine ⟨h1.trans h5, some ⟨B.length, 0, none⟩, G.length, rfl, fun _ => ?_⟩
      rw [List.take_of_length_le (by omega), show G.length - j = 0 by omega, List.replicate_zero, List.append_nil] at hbl
      have := arI_blk hbl
      rwa [hlenC] at this
  · simp only [if_neg h2] at har ⊢
    simp only [wps]
    refine ⟨fun _ => ⟨h1.trans (List.prefix_append _ _), none, 0, rfl, fun h => absurd h h2⟩, fun h => absurd h h2⟩
end Go.AM
set_option linter.unusedVariables false
set_option linter.unusedSimpArgs false
namespace Go.AM
open Go Go.Proofs.YtcilfgedcnehfaaGreatDoor
theorem in_w {p : Int} {S : St} {a : Option Addr} {n c : Nat} {l : List Int} (h : Ar S a n 1 eU l) (hn : n ≤ 140737488355328) : Gv (g_field_In [vU p, .slice a n c]) S (vB (inV p l)) := by
  refine .of ?_
  have hl := h.1
  rw [g_field_In_eq]
  simp only [wps, known_w]
  refine wp_loop (fun st S' m => ∃ j : Nat, st = [vI j] ∧ j ≤ n ∧ m = n - j ∧ S' = S ∧ (l.take j).all (fun a => decide (a < p)) = true) ?_ n _ _ ⟨0, rfl, by omega, by omega, rfl, by simp⟩
  rintro st S' m ⟨j, rfl, hj, rfl, rfl, hg⟩
  simp only [wps]
  unfold inV
  refine ⟨fun h3 => ⟨h3, ?_⟩, fun h3 => ?_⟩
  · have hj' : j < l.length := by omega
    obtain ⟨x, rfl, c1⟩ := h.getU hj'
    simp only [wps, c1]
    refine ⟨fun h4 => ?_, fun h4 => ⟨n - (j + 1), by omega, j + 1, by rw [wI_ (n := (j : Int) + 1) (by omega) (by omega)]; simp, by omega, rfl, ?_⟩⟩
    · have : l.all (fun a => decide (a < p)) = false := by
        rw [List.all_eq_false]
        exact ⟨l[j], List.getElem_mem hj', by simp; omega⟩
      rw [this]; simp
    · rw [List.take_add_one, List.getElem?_eq_getElem hj', List.all_append, hg]
      simp; omega
  · rw [List.take_of_length_le (by omega)] at hg
    rw [hg]; simp
theorem between_w {n a b : Int} : g_plan_between [vI n, vI a, vI b] = M.ret (vB (decide (a ≤ n ∧ n ≤ b))) := by
  refine wp_eq fun S => ?_
  rw [g_plan_between_eq]
  simp only [wps]
  refine ⟨fun h => ?_, fun h => ?_⟩
  · by_cases h2 : n ≤ b <;> simp [h, h2]
  · simp [h]
theorem pc1_w {S : St} {q : Req} {a1 a4 a5 : Option Addr} {c1 c4 c5 b : Nat} {n : Int} {t : TypeId} (hb : S[b]? = some (.cells [vI n] t none)) :
    Sp (g_plan_Check_1 [qv q a1 c1 a4 c4 a5 c5, .pointer (some (ad b 0))]) S fun v S' => v = vB ((q.X.length : Int) != wI (n * q.batch)) := by
  unfold Sp
  rw [g_plan_Check_1_eq]
  have hb2 : ∀ o, (S ++ [o])[b]? = _ := fun o => get_add hb
  simp only [wps, fun o => cell_blk (hb2 o)]
  exact List.prefix_append _ _
theorem pc2_w {S : St} {q : Req} {a1 a4 a5 : Option Addr} {c1 c4 c5 : Nat} (h : QA S q a1 a4 a5) :
    Sp (g_plan_Check_2 [qv q a1 c1 a4 c4 a5 c5]) S fun v S' => v = vB (!inV q.P q.X) := by
  unfold Sp
  rw [g_plan_Check_2_eq]
  simp only [wps, (in_w (h.x.mono (List.prefix_append S [AObj.cells (qc q a1 c1 a4 c4 a5 c5) 26 none])) h.b2).wp]
  exact List.prefix_append _ _
theorem pc3_w {S : St} {q : Req} {a1 a4 a5 : Option Addr} {c1 c4 c5 : Nat} :
    Sp (g_plan_Check_3 [qv q a1 c1 a4 c4 a5 c5]) S fun v S' => v = vB (!decide (1 ≤ q.seeds.length ∧ q.seeds.length ≤ 4)) := by
  unfold Sp
  rw [g_plan_Check_3_eq]
  simp only [wps, between_w]
  refine ⟨List.prefix_append _ _, ?_⟩
  have e : (1 ≤ (q.seeds.length : Int) ∧ (q.seeds.length : Int) ≤ 4) = (1 ≤ q.seeds.length ∧ q.seeds.length ≤ 4) := propext (by omega)
  simp only [e]
theorem check_w {C : FuncId → List Value → M Value} {S : St} {q : Req} {a1 a4 a5 : Option Addr} {c1 c4 c5 : Nat} (h : QA S q a1 a4 a5) :
    Sp (g_plan_Check C [qv q a1 c1 a4 c4 a5 c5]) S fun v S' => v = vI (checkV q) := by
  unfold Sp
  rw [g_plan_Check_eq]
  have hk1 : ∀ S1 Q, Q (vI 1) S1 → WP (k_plan_Check_1 C S.length (1, [vI 1])) S1 fun a S' => WP (oneV a) S' Q := by
    intro S1 Q hq
    unfold k_plan_Check_1
    simp only [wps]; exact hq
  have hp : S <+: S ++ [AObj.cells (qc q a1 c1 a4 c4 a5 c5) 26 none] := List.prefix_append _ _
  have key : (1 ≤ q.batch ∧ q.batch ≤ 16 ∧ 0 ≤ q.retry ∧ q.retry ≤ 8 ∧ 0 ≤ q.again ∧ q.again ≤ 8) → WP (k_plan_Check_1 C S.length (0, [])) (S ++ [AObj.cells (qc q a1 c1 a4 c4 a5 c5) 26 none]) fun a S' => WP (oneV a) S' fun v S' => S <+: S' ∧ v = vI (checkV q) := by
    intro hc
    have hb : ∀ k, St.cell (S ++ [AObj.cells (qc q a1 c1 a4 c4 a5 c5) 26 none]) ⟨S.length, k, none⟩ = (qc q a1 c1 a4 c4 a5 c5)[k]? := fun k => cell_blk get_new k
    unfold checkV k_plan_Check_1
    rw [if_pos hc]
    simp only [wps]
    refine (grid_w (h.ax.mono hp) h.b1).use ?_
    rintro _ S1 h1 rfl
    have hb1 := pre_get h1 get_new
    simp only [wps, cell_blk hb1]
    refine ⟨fun h2 => ⟨hp.trans h1, by rw [if_neg h2]⟩, fun h2 => ?_⟩
    rw [if_pos h2]
    obtain ⟨hk, hal, hall⟩ := grid_ok h2
    have hn1 := nV_range h2
    refine (dims_w (h.ax.mono (hp.trans h1)) h.b1).use ?_
    rintro _ S2 h3 ⟨b, k, rfl, hd⟩
    have hN : (allV (dimsOf q.axes)).1 = nV q.axes := rfl
    have hb2 := get_add (t := [AObj.cells [vI (nV q.axes)] 3 none]) (pre_get h3 hb1)
    simp only [wps, (all_w hd).wp, hal, hN]
    have hS2 := hp.trans (h1.trans h3)
    have hqa := h.mono (hS2.trans (List.prefix_append S2 [AObj.cells [vI (nV q.axes)] 3 none]))
    have hnb : nV q.axes * q.batch ≤ 4096 * 16 := Int.mul_le_mul hn1.2 (by omega) (by omega) (by omega)
    have hnb0 : 0 ≤ nV q.axes * q.batch := Int.mul_nonneg (by omega) (by omega)
    -- the first look
    have hql : S[S.length]? = none := by simp
    have hbq := get_add (t := [AObj.cells [vI (nV q.axes)] 3 none]) (pre_get (h1.trans h3) get_new)
    refine wp_round ?_
    have hx2 : ∀ o o' k, St.cell (S2 ++ [o] ++ [o']) ⟨S.length, k, none⟩ = (qc q a1 c1 a4 c4 a5 c5)[k]? := fun o o' k => cell_blk (get_add (get_add (pre_get (h1.trans h3) get_new))) k
    simp only [wps, Nat.reduceMul, Int.reduceLT, Int.reduceLE, Nat.reduceBEq, hx2]
    refine (pc1_w (get_add get_new)).use ?_
    rintro _ S3 h4 rfl
    simp only [wps, cell_blk (pre_get h4 get_new)]
    rw [wI_ (n := nV q.axes * q.batch) (by omega) (by omega)]
    refine ⟨fun h5 => ⟨(hS2.trans (pre_of_add (pre_of_add h4))), by rw [if_neg h5]⟩, fun h5 => ?_⟩
    rw [if_pos h5, show wI (0 + 1) = 1 from rfl]
    have hq3 := h.mono (hS2.trans (pre_of_add (pre_of_add h4)))
    have hb3 := pre_get h4 (get_add (get_add (pre_get (h1.trans h3) get_new)))
    have hx3 : ∀ o k, St.cell (S3 ++ [o]) ⟨S.length, k, none⟩ = (qc q a1 c1 a4 c4 a5 c5)[k]? := fun o k => cell_blk (get_add hb3) k
    have hS3 := hS2.trans (pre_of_add (pre_of_add h4))
    -- the second look
    refine wp_round ?_
    simp only [wps, Nat.reduceMul, Int.reduceLT, Int.reduceLE, Nat.reduceBEq, hx3]
    refine (pc2_w (hq3.mono (List.prefix_append _ _))).use ?_
    rintro _ S4 h6 rfl
    simp only [wps, cell_blk (pre_get h6 get_new)]
    have hS4 := hS3.trans (pre_of_add h6)
    refine ⟨fun h7 => ⟨hS4, by rw [if_neg (by simp [h7])]⟩, fun h7 => ?_⟩
    rw [if_pos h7, show wI (1 + 1) = 2 from rfl]
    have hb4 := pre_get h6 (get_add (t := [AObj.cells [Value.func (Fn.func 77) (ar ([])) (ar ([])), vI 7] 115 none]) hb3)
    have hx4 : ∀ o k, St.cell (S4 ++ [o]) ⟨S.length, k, none⟩ = (qc q a1 c1 a4 c4 a5 c5)[k]? := fun o k => cell_blk (get_add hb4) k
    -- the third look
    refine wp_round ?_
    simp only [wps, Nat.reduceMul, Int.reduceLT, Int.reduceLE, Nat.reduceBEq, hx4]
    refine pc3_w.use ?_
    rintro _ S5 h8 rfl
    simp only [wps, cell_blk (pre_get h8 get_new)]
    have hS5 := hS4.trans (pre_of_add h8)
    refine ⟨fun h9 => ⟨hS5, by rw [if_neg h9]⟩, fun h9 => ?_⟩
    rw [if_pos h9, show wI (2 + 1) = 3 from rfl]
    refine wp_round ?_
    simp only [wps, Int.reduceLT]
    exact hS5
  simp only [wps, between_w]
  have one : ¬ (1 ≤ q.batch ∧ q.batch ≤ 16 ∧ 0 ≤ q.retry ∧ q.retry ≤ 8 ∧ 0 ≤ q.again ∧ q.again ≤ 8) → checkV q = 1 := fun h => by unfold checkV; rw [if_neg h]
  refine ⟨fun h1 => hk1 _ _ ⟨hp, by rw [one (by omega)]⟩, fun h1 => ⟨fun h2 => hk1 _ _ ⟨hp, by rw [one (by omega)]⟩, fun h2 => ⟨fun h3 => hk1 _ _ ⟨hp, by rw [one (by omega)]⟩, fun h3 => key (by omega)⟩⟩⟩
end Go.AM
set_option linter.unusedVariables false
set_option linter.unusedSimpArgs false
namespace Go.AM
open Go Go.Proofs.YtcilfgedcnehfaaGreatDoor
theorem r07dims_w {S : St} {axes : Option Addr} {n c : Nat} {l : List Ax} (h : Ar S axes n 2 eAx l) (hl : n ≤ 8796093022208) :
    WP (g_r07_Dims [.slice axes n c]) S fun v S' => ∃ a, v = .slice a n n ∧ Ap S none S' a n 3 1 ((dimsOf l).flatMap eI) := by
  have hn := h.1
  rw [g_r07_Dims_eq]
  simp only [wps]
  refine wp_loop (fun st S' m => ∃ (j : Nat) (a : Option Addr), st = [.slice a j j, vI j] ∧ j ≤ n ∧ m = n - j ∧ Ap S none S' a j 3 1 (((dimsOf l).take j).flatMap eI)) ?_ n _ _ ⟨0, none, rfl, by omega, by omega, .nil⟩
  rintro st S' m ⟨j, a, rfl, hj, rfl, ha⟩
  simp only [wps]
  refine ⟨fun h3 => ⟨h3, ?_⟩, fun h3 => ?_⟩
  · have hj' : j < l.length := by omega
    obtain ⟨x, rfl, c1, c2⟩ := (h.mono ha.pre).getAx hj'
    simp only [wps, c1, c2]
    refine wp_push (bt := 8) (ha.more (List.prefix_append _ _)) rfl (by omega) (by omega) rfl ?_
    intro b S2 h4
    simp only [wps]
    refine ⟨n - (j + 1), by omega, j + 1, _, by rw [wI_ (n := (j : Int) + 1) (by omega) (by omega)]; rfl, by omega, rfl, ?_⟩
    rw [List.take_add_one, List.flatMap_append]
    simpa [dimsOf, hj', eI] using h4
  · obtain rfl : j = n := by omega
    rw [List.take_of_length_le (by simp [dimsOf]; omega)] at ha
    exact ⟨a, rfl, ha⟩
theorem r05all_w {S : St} {dims : Option Addr} {n c : Nat} {l : List Int} (h : Ar S dims n 1 eI l) : Gv (g_r05_All [.slice dims n c]) S (vT [vI (allV l).1, vI (allV l).2]) := by
  refine .of ?_
  rw [g_r05_All_eq]
  have hn := h.1
  simp only [wps]
  refine ⟨fun h1 => by simp [allV, show l.length < 1 by omega], fun h1 => ⟨fun h2 => by simp [allV, show 4 < l.length by omega], fun h2 => ?_⟩⟩
  have e : allV l = rallGo 1 l := by unfold allV; rw [if_neg (by omega), rall_all _ _ (by omega)]
  rw [e]
  refine wp_loop (fun st S' m => ∃ (i : Nat) (x : Int), st = [.int .i64 x, .int .i64 i] ∧ S' = S ∧ i ≤ n ∧ m = n - i ∧ 1 ≤ x ∧ x ≤ 4096 ^ i ∧ rallGo 1 l = rallGo x (l.drop i)) ?_ n _ _ ⟨0, 1, rfl, rfl, by omega, by omega, by omega, by decide, by simp⟩
  rintro st S' m ⟨i, x, rfl, rfl, hi, rfl, h3, h4, hg⟩
  simp only [wps]
  refine ⟨fun h5 => ⟨h5, ?_⟩, fun h5 => ?_⟩
  · obtain ⟨a, rfl, hc⟩ := h.getI (i := i) (by omega)
    rw [List.drop_eq_getElem_cons (by omega), rallGo] at hg
    simp only [wps, hc]
    refine ⟨fun h6 => ?_, fun h6 => ⟨fun h7 => ?_, fun h7 => ?_⟩⟩
    · rw [if_pos (.inl h6)] at hg; simp [hg, wps]
    · rw [if_pos (.inr h7)] at hg; simp [hg, wps]
    · rw [if_neg (by omega)] at hg
      have hb1 : 1 ≤ x * l[i] := by
        have := Int.mul_le_mul h3 (show 1 ≤ l[i] by omega) (by omega) (by omega)
        simpa using this
      have hb2 : x * l[i] ≤ 4096 ^ i * 4096 := Int.mul_le_mul h4 (by omega) (by omega) (Int.pow_nonneg (by omega))
      have hb3 : (4096 : Int) ^ i * 4096 ≤ 4096 ^ 3 * 4096 := Int.mul_le_mul_of_nonneg_right (by
        have : i ≤ 3 := by omega
        have h9 : i = 0 ∨ i = 1 ∨ i = 2 ∨ i = 3 := by omega
        rcases h9 with rfl | rfl | rfl | rfl <;> decide) (by omega)
      rw [wI_ (n := x * l[i]) (by omega) (by omega), wI_ (n := (i : Int) + 1) (by omega) (by omega)]
      exact ⟨n - (i + 1), by omega, i + 1, _, rfl, by omega, rfl, hb1, by rw [Int.pow_succ]; exact hb2, hg⟩
  · rw [List.drop_eq_nil_iff.2 (by omega), rallGo] at hg
    refine ⟨fun h6 => ?_, fun h6 => ?_⟩
    · rw [if_pos h6] at hg; rw [hg]
    · rw [if_neg h6] at hg; rw [hg]
theorem r07few_w {S : St} {axes : Option Addr} {n c : Nat} {l : List Ax} {m : Int} (h : Ar S axes n 2 eAx l) (hl : n ≤ 8796093022208) :
    Sp (g_r07_Few [.slice axes n c, vI m]) S fun v S' => v = vB (fewV l m) := by
  unfold Sp
  have hn := h.1
  rw [g_r07_Few_eq]
  simp only [wps]
  refine (r07dims_w h hl).mono ?_
  rintro _ S1 ⟨a, rfl, ha⟩
  simp only [wps, (r05all_w (ha.ar (fun _ => rfl) (by decide))).wp]
  unfold fewV
  refine ⟨fun h1 => ⟨fun h2 => ⟨ha.pre, ?_⟩, fun h2 => ⟨ha.pre, ?_⟩⟩, fun h1 => ⟨ha.pre, ?_⟩⟩
  · have : l.length ≤ 10 := by omega
    simp [h2, this]
  · have : l.length ≤ 10 := by omega
    simp [h2, this]
  · have : ¬ l.length ≤ 10 := by omega
    simp [this]
theorem r17few_w {S : St} {q : Req} {a1 a4 a5 : Option Addr} {c1 c4 c5 : Nat} {m : Int} (h : QA S q a1 a4 a5) (hm : 0 ≤ m ∧ m ≤ 1000) :
    Sp (g_r17_Few [qv q a1 c1 a4 c4 a5 c5, vI m]) S fun v S' => v = vB (few17 q m) := by
  unfold Sp
  rw [g_r17_Few_eq]
  simp only [wps]
  have hp : S <+: S ++ [AObj.cells (qc q a1 c1 a4 c4 a5 c5) 26 none] := List.prefix_append _ _
  refine (r07few_w (h.ax.mono hp) h.b1).use ?_
  rintro _ S1 h1 rfl
  simp only [wps, cell_blk (pre_get h1 get_new)]
  rw [wI_ (n := 4 * m) (by omega) (by omega)]
  have h2 := hp.trans h1
  unfold few17
  refine ⟨fun h3 => ⟨fun h4 => ⟨h2, ?_⟩, fun h4 => ⟨h2, ?_⟩⟩, fun h3 => ⟨h2, ?_⟩⟩
  · simp only [h3, h4, decide_true, Bool.true_and]
    congr 1
    exact decide_eq_decide.2 (by omega)
  · simp [h4]
  · simp [h3]
end Go.AM
set_option linter.unusedVariables false
set_option linter.unusedSimpArgs false
namespace Go.AM
open Go Go.Proofs.YtcilfgedcnehfaaGreatDoor
theorem mul_bnd {a b A B : Int} (h1 : 0 ≤ a) (h2 : a ≤ A) (h3 : 0 ≤ b) (h4 : b ≤ B) : 0 ≤ a * b ∧ a * b ≤ A * B := ⟨Int.mul_nonneg h1 h3, Int.mul_le_mul h2 h4 h3 (by omega)⟩
theorem cmost_w {S : St} {q : Req} {a1 a4 a5 : Option Addr} {c1 c4 c5 : Nat} (h : QA S q a1 a4 a5) :
    Sp (g_cost_Most [qv q a1 c1 a4 c4 a5 c5]) S fun v S' => v = vT [vI (mostV q).1, vI (mostV q).2] := by
  unfold Sp
  rw [g_cost_Most_eq]
  simp only [wps]
  have hp : S <+: S ++ [AObj.cells (qc q a1 c1 a4 c4 a5 c5) 26 none] := List.prefix_append _ _
  refine (check_w (h.mono hp)).use ?_
  rintro _ S1 h1 rfl
  have hb1 := pre_get h1 get_new
  simp only [wps, cell_blk hb1]
  unfold mostV
  refine ⟨fun h2 => ⟨hp.trans h1, by rw [if_neg h2]⟩, fun h2 => ?_⟩
  rw [if_pos h2]
  obtain ⟨q1, q2, q3, q4, q5⟩ := check_ok h2
  obtain ⟨f1, f2, f3, f4⟩ := cost_facts q2
  have hn := nV_range q2
  refine (csteps_w (h.ax.mono (hp.trans h1)) h.b1 q.inv).use ?_
  rintro _ S2 h3 ⟨a, k, rfl, har⟩
  have har := har q2
  have hb2 := pre_get h3 hb1
  rw [if_pos q2]
  simp only [wps, (sum_w har (by omega)).wp]
  have hcl : (costL q.P q.axes q.inv (stepsGo q.inv 0 q.axes)).length ≤ 16392 := by simp [costL]; omega
  obtain ⟨hk, hal, hall⟩ := grid_ok q2
  obtain ⟨hst, hsl⟩ := steps_zero (fun a ha => (hall a ha).1) q.inv
  have hcr := costL_range q.inv q2 hst
  rw [sumW_val 100000 (by omega) _ 0 (fun x hx => by have := hcr x hx; omega) (by omega) (by omega), Int.zero_add]
  rw [wI_ (n := nV q.axes + 6) (by omega) (by omega)]
  have ha1 : Ar (S2 ++ [AObj.cells [vI (nV q.axes + 6), vI (nV q.axes), vI 3] 3 none]) (some (ad S2.length 0)) 3 1 eI [nV q.axes + 6, nV q.axes, 3] := Ar.blk (l := [nV q.axes + 6, nV q.axes, 3]) get_new (fun _ _ => rfl) rfl
  have hb3 := get_add (t := [AObj.cells [vI (nV q.axes + 6), vI (nV q.axes), vI 3] 3 none]) hb2
  simp only [wps, (sum_w ha1 (by omega)).wp, cell_blk hb3]
  rw [sumW_val 20000 (by omega) [nV q.axes + 6, nV q.axes, 3] 0 (by intro x hx; simp at hx; omega) (by omega) (by simp)]
  have e1 : (0 : Int) + [nV q.axes + 6, nV q.axes, 3].sum = 2 * nV q.axes + 9 := by simp; omega
  rw [e1, wI_ (n := q.retry + 1) (by omega) (by omega)]
  generalize hC : (costL q.P q.axes q.inv (stepsGo q.inv 0 q.axes)).sum = C at f1 f2 ⊢
  have hW : winV q = C + 3 * (stepsGo q.inv 0 q.axes).length + (2 * nV q.axes + 9) := by unfold winV; rw [hC]
  rw [wI_ (n := 3 * ((stepsGo q.inv 0 q.axes).length : Int)) (by omega) (by omega), wI_ (n := C + 3 * ((stepsGo q.inv 0 q.axes).length : Int)) (by omega) (by omega), wI_ (n := C + 3 * ((stepsGo q.inv 0 q.axes).length : Int) + (2 * nV q.axes + 9)) (by omega) (by omega), ← hW]
  have hw : 0 ≤ winV q ∧ winV q ≤ 2000000000 := by omega
  obtain ⟨m1, m2⟩ := mul_bnd (a := q.retry + 1) (A := 9) (by omega) (by omega) hw.1 hw.2
  rw [wI_ (n := (q.retry + 1) * winV q) (by omega) (by omega)]
  have ha2 : Ar (S2 ++ [AObj.cells [vI (nV q.axes + 6), vI (nV q.axes), vI 3] 3 none] ++ [AObj.cells [vI (nV q.axes + 6), vI ((q.retry + 1) * winV q)] 3 none]) (some (ad (S2 ++ [AObj.cells [vI (nV q.axes + 6), vI (nV q.axes), vI 3] 3 none]).length 0)) 2 1 eI [nV q.axes + 6, (q.retry + 1) * winV q] :=
    Ar.blk (l := [nV q.axes + 6, (q.retry + 1) * winV q]) get_new (fun _ _ => rfl) rfl
  have hb4 := get_add (t := [AObj.cells [vI (nV q.axes + 6), vI ((q.retry + 1) * winV q)] 3 none]) hb3
  simp only [wps, (sum_w ha2 (by omega)).wp, cell_blk hb4]
  rw [sumW_val 20000000000 (by omega) [nV q.axes + 6, (q.retry + 1) * winV q] 0 (by intro x hx; simp at hx; omega) (by omega) (by simp)]
  have e2 : (0 : Int) + [nV q.axes + 6, (q.retry + 1) * winV q].sum = nV q.axes + 6 + (q.retry + 1) * winV q := by simp
  rw [e2, wI_ (n := q.again + 1) (by omega) (by omega)]
  obtain ⟨m3, m4⟩ := mul_bnd (a := q.batch) (A := 16) (b := q.again + 1) (B := 9) (by omega) (by omega) (by omega) (by omega)
  obtain ⟨m5, m6⟩ := mul_bnd (b := nV q.axes + 6 + (q.retry + 1) * winV q) (B := 20000000000) m3 m4 (by omega) (by omega)
  rw [wI_ (n := q.batch * (q.again + 1)) (by omega) (by omega), wI_ (by omega) (by omega)]
  exact ⟨pre_add (pre_add (hp.trans (h1.trans h3)) _) _, rfl⟩
end Go.AM
set_option linter.unusedVariables false
set_option linter.unusedSimpArgs false
namespace Go.AM
open Go Go.Proofs.YtcilfgedcnehfaaGreatDoor
end Go.AM
set_option linter.unusedVariables false
set_option linter.unusedSimpArgs false
namespace Go.AM
open Go Go.Proofs.YtcilfgedcnehfaaGreatDoor
theorem rknown_w {p : Int} : g_r01_Known [vU p] = M.ret (vB (known p)) := by
  rw [g_r01_Known_eq]
  unfold known P0 P1 P2
  cases p == 18446744069414584321 <;> cases p == 998244353 <;> cases p == 2013265921 <;> rfl
theorem rred_w {p a : Int} (h : 0 ≤ a ∧ a < 18446744073709551616) : g_r01_Reduce [vU p, vU a] = M.ret (vU (red p a)) := by
  refine wp_eq fun S => ?_
  rw [g_r01_Reduce_eq, rknown_w]
  unfold red
  cases hk : known p with
  | false => simp [wps]
  | true =>
    have hp := known_pos hk
    simp only [wps]
    rw [Int.tmod_eq_emod_of_nonneg h.1]
    simp; omega
theorem plus_w {p a b : Int} (hp : 1 ≤ p ∧ p < 18446744073709551616) (ha : 0 ≤ a ∧ a < p) (hb : 0 ≤ b ∧ b < p) : g_r01_plus [vU p, vU a, vU b] = M.ret (vU ((a + b) % p)) := by
  refine wp_eq fun S => ?_
  rw [g_r01_plus_eq, wU_ (n := p - b) (by omega) (by omega)]
  simp only [wps]
  refine ⟨fun h => ?_, fun h => ?_⟩
  · rw [wU_ (by omega) (by omega)]
    have : (a + b) % p = a - (p - b) := by
      rw [show a + b = (a - (p - b)) + p by omega, Int.add_emod_right, Int.emod_eq_of_lt (by omega) (by omega)]
    simp [this]
  · rw [wU_ (by omega) (by omega), Int.emod_eq_of_lt (by omega) (by omega)]
theorem dbl (A p : Int) (q : Nat) : (A * (q : Int) % p + A * (q : Int) % p) % p = A * ((2 * q : Nat) : Int) % p := by
  rw [← Int.add_emod, ← Int.mul_add, show (q : Int) + (q : Int) = ((2 * q : Nat) : Int) by omega]
theorem rmul_w {p a b : Int} (h : 0 ≤ a ∧ a < 18446744073709551616) (g : 0 ≤ b ∧ b < 18446744073709551616) : g_r01_Mul [vU p, vU a, vU b] = M.ret (vU (mulF p a b)) := by
  refine wp_eq fun S => ?_
  rw [g_r01_Mul_eq, rknown_w]
  unfold mulF
  cases hk : known p with
  | false => simp [wps]
  | true =>
    have hp := known_pos hk
    simp only [wps]
    rw [Int.tmod_eq_emod_of_nonneg h.1, Int.tmod_eq_emod_of_nonneg g.1, if_pos trivial, Int.mul_emod]
    have ha0 := Int.emod_nonneg a (show p ≠ 0 by omega)
    have ha1 := Int.emod_lt_of_pos a (show 0 < p by omega)
    have hb0 := Int.emod_nonneg b (show p ≠ 0 by omega)
    have hb1 := Int.emod_lt_of_pos b (show 0 < p by omega)
    generalize a % p = A at ha0 ha1 ⊢
    generalize b % p = B at hb0 hb1 ⊢
    refine ⟨by omega, by omega, fun h1 => ⟨by omega, ?_⟩, fun h1 => ?_⟩
    · have hAB : 0 ≤ A * B := Int.mul_nonneg ha0 hb0
      have hAB2 : A * B ≤ 4294967296 * 4294967296 := Int.mul_le_mul (by omega) (by omega) hb0 (by omega)
      have hAB3 : A * B < 18446744073709551616 := by
        have : A * B ≤ 4294967295 * 4294967295 := Int.mul_le_mul (by omega) (by omega) hb0 (by omega)
        omega
      rw [wU_ hAB hAB3, Int.tmod_eq_emod_of_nonneg hAB]
    · obtain ⟨N, rfl⟩ := Int.eq_ofNat_of_zero_le hb0
      have hN : N < 2 ^ 64 := by omega
      refine wp_loop (fun st S' m => ∃ d : Nat, st = [vU ((N % 2 ^ d : Nat) : Int), vU (A * ((N / 2 ^ d : Nat) : Int) % p), vU ((2 ^ d / 2 : Nat) : Int), vI (64 - d)] ∧ d ≤ 64 ∧ d = m ∧ S' = S) ?_ 64 _ _
        ⟨64, by rw [Nat.mod_eq_of_lt hN, Nat.div_eq_of_lt hN]; simp, by omega, rfl, rfl⟩
      rintro st S' m ⟨d, rfl, hd, rfl, rfl⟩
      simp only [wps]
      cases d with
      | zero =>
        refine ⟨fun h2 => by omega, fun h2 => ?_⟩
        simp
      | succ d =>
        refine ⟨fun h2 => ?_, fun h2 => by omega⟩
        have hx : 0 ≤ A * ((N / 2 ^ (d + 1) : Nat) : Int) % p ∧ A * ((N / 2 ^ (d + 1) : Nat) : Int) % p < p := ⟨Int.emod_nonneg _ (by omega), Int.emod_lt_of_pos _ (by omega)⟩
        have hy : 0 ≤ A * ((2 * (N / 2 ^ (d + 1)) : Nat) : Int) % p ∧ A * ((2 * (N / 2 ^ (d + 1)) : Nat) : Int) % p < p := ⟨Int.emod_nonneg _ (by omega), Int.emod_lt_of_pos _ (by omega)⟩
        have e1 : 2 ^ (d + 1) / 2 = 2 ^ d := by rw [Nat.pow_succ]; omega
        have e2 : N / 2 ^ (d + 1) = N / 2 ^ d / 2 := by rw [Nat.pow_succ, Nat.div_div_eq_div_mul]
        have e3 : N % 2 ^ (d + 1) = N % 2 ^ d + 2 ^ d * (N / 2 ^ d % 2) := Nat.mod_pow_succ
        have e4 : N % 2 ^ d < 2 ^ d := Nat.mod_lt _ (Nat.pos_of_ne_zero (by simp))
        have e5 : 2 ^ d ≤ 2 ^ 63 := Nat.pow_le_pow_right (by omega) (by omega)
        have e6 : ((2 ^ d : Nat) : Int).tdiv 2 = ((2 ^ d / 2 : Nat) : Int) := by rw [Int.tdiv_eq_ediv_of_nonneg (by omega)]; omega
        have e7 : wU (((2 ^ d / 2 : Nat) : Int)) = ((2 ^ d / 2 : Nat) : Int) := wU_ (by omega) (by omega)
        have e8 : wI (64 - ((d + 1 : Nat) : Int) + 1) = 64 - d := by rw [wI_ (by omega) (by omega)]; omega
        simp only [wps, plus_w hp hx hx, dbl, e1, e6, e7, e8]
        have hbit : N / 2 ^ d % 2 = 0 ∨ N / 2 ^ d % 2 = 1 := by omega
        generalize hP : 2 ^ d = P at *
        generalize hq : N / P = q at *
        generalize hr : N % P = r at *
        refine ⟨fun h3 => ?_, fun h3 => ?_⟩
        · have hb : q % 2 = 1 := by
            rcases hbit with hb | hb
            · rw [hb] at e3; omega
            · exact hb
          rw [hb, Nat.mul_one] at e3
          simp only [wps, plus_w hp hy ⟨ha0, ha1⟩]
          refine ⟨d, by omega, d, ?_, by omega, rfl⟩
          have e9 : wU (((N % 2 ^ (d + 1) : Nat) : Int) - (P : Int)) = (r : Int) := by rw [e3, wU_ (by omega) (by omega)]; omega
          have e10 : (A * ((2 * (N / 2 ^ (d + 1)) : Nat) : Int) % p + A) % p = A * (q : Int) % p := by
            rw [Int.emod_add_emod, e2, show q = 2 * (q / 2) + 1 by omega]
            congr 1
            rw [show ((2 * ((2 * (q / 2) + 1) / 2) : Nat) : Int) = ((2 * (q / 2) : Nat) : Int) by omega, Int.natCast_add, Int.mul_add]; simp
          rw [e9, e10, hP, hq, hr]
        · have hb : q % 2 = 0 := by
            rcases hbit with hb | hb
            · exact hb
            · rw [hb] at e3; omega
          rw [hb, Nat.mul_zero] at e3
          refine ⟨d, by omega, d, ?_, by omega, rfl⟩
          rw [e3, e2, show 2 * (q / 2) = q by omega, Nat.add_zero, hP, hq, hr]
theorem rpowR_w (p a : Int) (ha : 0 ≤ a ∧ a < 18446744073709551616) (e : Nat) : ∀ (f n : Nat), n < 2 ^ f → n < 18446744073709551616 → r_r02_Pow (e + f + 1) [vU p, vU a, vU n] = M.ret (vU (powM p a n)) := by
  intro f
  induction f with
  | zero =>
    intro n h h2
    obtain rfl : n = 0 := by omega
    show s_r02_Pow (r_r02_Pow (e + 0)) _ = _
    refine wp_eq fun S => ?_
    rw [g_r02_Pow_eq, rred_w (by omega)]
    simp only [wps]
    refine ⟨fun _ => ?_, fun h => by simp at h⟩
    unfold red powM; simp
  | succ f ih =>
    intro n h h2
    show s_r02_Pow (r_r02_Pow (e + f + 1)) _ = _
    refine wp_eq fun S => ?_
    have e1 : wU ((n : Int).tdiv 2) = ((n / 2 : Nat) : Int) := by
      rw [Int.tdiv_eq_ediv_of_nonneg (by omega), wU_ (by omega) (by omega)]; omega
    have hm2 := rmul_w (p := p) (powM_range p a (n / 2 + n / 2)) ha
    rw [mulF_powM1] at hm2
    rw [g_r02_Pow_eq, rred_w (by omega), e1, ih (n / 2) (by rw [Nat.pow_succ] at h; omega) (by omega)]
    simp only [wps, rmul_w (p := p) (powM_range p a (n / 2)) (powM_range p a (n / 2)), mulF_powM, hm2]
    refine ⟨fun h3 => ?_, fun h3 => ⟨fun h4 => ?_, fun h4 => ?_⟩⟩
    · obtain rfl : n = 0 := by omega
      unfold red powM; simp
    · rw [Int.tmod_eq_emod_of_nonneg (by omega)] at h4
      rw [show n / 2 + n / 2 + 1 = n by omega]
    · rw [Int.tmod_eq_emod_of_nonneg (by omega)] at h4
      rw [show n / 2 + n / 2 = n by omega]
theorem rpow_w {p a n : Int} (ha : 0 ≤ a ∧ a < 18446744073709551616) (hn : 0 ≤ n ∧ n < 18446744073709551616) : g_r02_Pow [vU p, vU a, vU n] = M.ret (vU (powM p a n.toNat)) := by
  obtain ⟨N, rfl⟩ := Int.eq_ofNat_of_zero_le hn.1
  have h64 : N < 2 ^ 64 := by omega
  exact rpowR_w p a ha 935 64 N h64 (by omega)
theorem rinv_w {p a : Int} (ha : 0 ≤ a ∧ a < 18446744073709551616) : g_r02_Inv [vU p, vU a] = M.ret (vT [vU (invV p a).1, vI (invV p a).2]) := by
  refine wp_eq fun S => ?_
  rw [g_r02_Inv_eq, rknown_w, rred_w ha]
  unfold invV
  cases hk : known p with
  | false => simp [wps]
  | true =>
    have hp : 2 ≤ p ∧ p < 18446744073709551616 := by rcases known_cases hk with rfl | rfl | rfl <;> decide
    rw [wU_ (n := p - 2) (by omega) (by omega), rpow_w (p := p) ha ⟨by omega, by omega⟩]
    simp only [wps]
    exact ⟨fun h => by simp [h], fun h => by simp [h]⟩
theorem may_w {p n : Int} : g_r03_may [vU p, vI n] = M.ret (vI (readyV p n)) := by
  refine wp_eq fun S => ?_
  rw [g_r03_may_eq, rknown_w]
  unfold readyV
  cases known p with
  | false => simp only [wps]; simp
  | true =>
    simp only [wps]
    by_cases h1 : n < 1
    · simp [h1]
    · by_cases h2 : 8192 < n <;> simp [h1, h2]
theorem rgen_w {p : Int} : g_r03_Gen [vU p] = M.ret (vU (genF p)) := by
  refine wp_eq fun S => ?_
  rw [g_r03_Gen_eq]
  unfold genF P0 P1 P2
  simp only [wps]
  by_cases h0 : p = 18446744069414584321
  · simp [h0]
  · by_cases h1 : p = 998244353
    · simp [h1]
    · by_cases h2 : p = 2013265921 <;> simp [h0, h1, h2]
theorem rroot_w {p n : Int} : g_r03_Root [vU p, vI n] = M.ret (vT [vU (rootV p n).1, vI (rootV p n).2]) := by
  refine wp_eq fun S => ?_
  rw [g_r03_Root_eq, may_w]
  unfold rootV
  simp only [wps]
  refine ⟨fun h => by simp [h], fun h => ?_⟩
  rw [if_pos h]
  have hk : known p = true ∧ 1 ≤ n ∧ n ≤ 8192 := ready_ok h
  have hp := known_pos hk.1
  have hq0 : 0 ≤ (p - 1) / n := Int.ediv_nonneg (by omega) (by omega)
  have hq1 : (p - 1) / n ≤ p - 1 := Int.ediv_le_self _ (by omega)
  have hm0 : 0 ≤ (p - 1) % n := Int.emod_nonneg _ (by omega)
  have e1 : wU n = n := wU_ (by omega) (by omega)
  have e2 : wU (p - 1) = p - 1 := wU_ (by omega) (by omega)
  have e3 : (p - 1).tmod n = (p - 1) % n := Int.tmod_eq_emod_of_nonneg (by omega)
  have e4 : (p - 1).tdiv n = (p - 1) / n := Int.tdiv_eq_ediv_of_nonneg (by omega)
  have e5 : wU ((p - 1) / n) = (p - 1) / n := wU_ hq0 (by omega)
  rw [e1, e2, e3, e4, e5]
  simp only [wps, rgen_w, rpow_w (p := p) (genF_range p) ⟨hq0, show (p - 1) / n < 18446744073709551616 by omega⟩]
  exact ⟨by omega, fun h2 => by rw [if_pos (by omega)], fun h2 => ⟨by omega, by rw [if_neg (by omega)]⟩⟩
end Go.AM
set_option linter.unusedVariables false
set_option linter.unusedSimpArgs false
namespace Go.AM
open Go Go.Proofs.YtcilfgedcnehfaaGreatDoor
abbrev toI (l : List Nat) : List Int := l.map fun x : Nat => (x : Int)
theorem outR_w (r : Nat) (hr : 2 ≤ r ∧ r ≤ 5) (e : Nat) : ∀ (f n : Nat), 1 ≤ n → n < 2 ^ f → n ≤ 4096 → f ≤ 13 → ∀ S : St, Sp (r_r04_out (e + f + 1) [vI n, vI r]) S fun v S' => ∃ a k, v = vT [.slice a (pull r f n).1.length k, vI (pull r f n).2] ∧ Ar S' a (pull r f n).1.length 1 eI (toI (pull r f n).1) := by
  intro f
  induction f with
  | zero => intro n h1 h2; omega
  | succ f ih =>
    intro n h1 h2 h3 h4 S
    show Sp (s_r04_out (r_r04_out (e + f + 1)) _) S _
    unfold Sp
    have e1 : (n : Int).tmod r = ((n % r : Nat) : Int) := by rw [Int.tmod_eq_emod_of_nonneg (by omega)]; rfl
    have e2 : wI ((n : Int).tdiv r) = ((n / r : Nat) : Int) := by
      have := Nat.div_le_self n r
      rw [Int.tdiv_eq_ediv_of_nonneg (by omega), ← Int.natCast_ediv]
      generalize n / r = q at this ⊢
      rw [wI_ (by omega) (by omega)]
    rw [g_r04_out_eq, e1, e2]
    unfold pull
    simp only [wps]
    refine ⟨by omega, fun h5 => ?_, fun h5 => ⟨by omega, ?_⟩⟩
    · rw [if_neg (by omega)]
      exact ⟨List.prefix_rfl, none, 0, rfl, .nil⟩
    · have hm : n % r = 0 := by omega
      have hp : 0 < n / r := Nat.div_pos (Nat.le_of_dvd h1 (Nat.dvd_of_mod_eq_zero hm)) (by omega)
      have hd : n / r * 2 ≤ n := by
        have h6 := Nat.div_mul_le_self n r
        have h7 : n / r * 2 ≤ n / r * r := Nat.mul_le_mul_left _ hr.1
        omega
      rw [if_pos hm]
      obtain ⟨f1, f2, f3⟩ := pull_facts r hr.1 f (n / r) hp
      refine (ih (n / r) hp (by rw [Nat.pow_succ] at h2; omega) (by omega) (by omega) S).use ?_
      generalize pull r f (n / r) = q at f1 f2 f3 ⊢
      rintro _ S1 h6 ⟨a, k, rfl, h7⟩
      have h7 := h7.mono (pre_add List.prefix_rfl [.cells [vI r] 3 none])
      simp only [wps]
      have hrd := wp_rdA (Q := fun xs S' => WP (appM 3 1 8 (some (ad S1.length 0)) 1 1 q.1.length xs) S' fun a S' => S <+: S' ∧ ∃ a_1 k, vT [Value.slice a.a a.n a.c, vI q.2] = vT [Value.slice a_1 ((r :: q.1).length) k, vI q.2] ∧ Ar S' a_1 ((r :: q.1).length) 1 eI (toI (r :: q.1))) h7 (fun _ => rfl) ?_
      · simpa using hrd
      · refine wp_lit (w := 1) (f := eI) (l := [(r : Int)]) (r := toI q.1) (fun _ => rfl) (by decide) get_new ?_ (by decide) rfl (by simp) rfl ?_
        · simp; omega
        · intro a' S' h8 h9
          refine ⟨(pre_add h6 _).trans h8, a', _, by simp [Nat.add_comm]; rfl, ?_⟩
          simpa [Nat.add_comm] using h9
def r4Go : List Nat → List Nat → Nat → List Nat × Nat
  | [], dn, m => (dn, m)
  | r :: l, dn, m => r4Go l (dn ++ (pull r 13 m).1) (pull r 13 m).2
theorem r4Go_eq (n : Nat) : r4Go [4, 2, 3, 5] [] n = r4N n := by
  simp only [r4Go, r4N, List.nil_append]
theorem leaf_I : ∀ l : List Int, (l.flatMap eI).all leafV = true
  | [] => rfl
  | x :: l => by
    have := leaf_I l
    simp only [List.flatMap_cons, eI, List.singleton_append, List.all_cons, this, Bool.and_true]; rfl
theorem rrad_w {n : Int} {S : St} : Sp (g_r04_Radices [vI n]) S fun v S' => ∃ a k, v = vT [.slice a (radV n).1.length k, vI (radV n).2] ∧ Ar S' a (radV n).1.length 1 eI (radV n).1 ∧ (radV n).1.length ≤ k := by
  unfold Sp
  rw [g_r04_Radices_eq]
  have bad : ¬ (1 ≤ n ∧ n ≤ 4096) → radV n = ([], 4) := fun h => by unfold radV; rw [if_neg h]
  simp only [wps]
  refine ⟨fun h1 => ?_, fun h1 => ⟨fun h2 => ?_, fun h2 => ?_⟩⟩
  · rw [bad (by omega)]; exact ⟨List.prefix_rfl, none, 0, rfl, .nil, by simp⟩
  · rw [bad (by omega)]; exact ⟨List.prefix_rfl, none, 0, rfl, .nil, by simp⟩
  · obtain ⟨N, rfl⟩ := Int.eq_ofNat_of_zero_le (show 0 ≤ n by omega)
    rw [r4_eq N (by omega) (by omega), ← r4Go_eq]
    refine wp_loop (fun st S' k => ∃ (i m : Nat) (dn : List Nat) (sa : Option Addr), st = [vI m, .slice sa dn.length dn.length, vI i] ∧ i ≤ 4 ∧ k = 4 - i ∧
      Ap (S ++ [.cells [vI 4, vI 2, vI 3, vI 5] 3 none]) none S' sa dn.length 3 1 ((toI dn).flatMap eI) ∧ r4Go ([4, 2, 3, 5].drop i) dn m = r4Go [4, 2, 3, 5] [] N ∧ 1 ≤ m ∧ m ≤ 4096 ∧ dn.length ≤ 13 * i) ?_ 4 _ _
      ⟨0, N, [], none, rfl, by omega, by omega, .nil, rfl, by omega, by omega, by simp⟩
    rintro st S' k ⟨i, m, dn, sa, rfl, hi, rfl, hap, hgo, hm1, hm2, hdn⟩
    have hp := hap.pre
    simp only [wps]
    refine ⟨fun h3 => ⟨by omega, ?_⟩, fun h3 => ?_⟩
    · have hi' : i < [4, 2, 3, 5].length := by simp; omega
      have hr : ∀ j, (hj : j < [4, 2, 3, 5].length) → 2 ≤ ([4, 2, 3, 5] : List Nat)[j] ∧ ([4, 2, 3, 5] : List Nat)[j] ≤ 5 := by decide
      have hr' := hr i hi'
      have hcell : S'.cell ⟨S.length, i, none⟩ = some (vI (([4, 2, 3, 5] : List Nat)[i] : Nat)) := by
        rw [cell_blk (pre_get hp get_new)]
        show (([4, 2, 3, 5] : List Nat).map fun x : Nat => vI (x : Int))[i]? = _
        rw [List.getElem?_map, List.getElem?_eq_getElem hi']; rfl
      rw [List.drop_eq_getElem_cons hi', r4Go] at hgo
      generalize ([4, 2, 3, 5] : List Nat)[i] = r at hr' hcell hgo
      obtain ⟨f1, f2, f3⟩ := pull_facts r hr'.1 13 m hm1
      simp only [wps, hcell]
      refine (outR_w r hr' 986 13 m hm1 (by omega) hm2 (by omega) S').use ?_
      rintro _ S1 h4 ⟨a, k, rfl, h5⟩
      simp only [wps]
      refine Eq.mp (congrArg (fun x => WP (rdN a x) S1 _) (Nat.mul_one _)) (wp_rdA h5 (fun _ => rfl) ?_)
      have hl : (dn ++ (pull r 13 m).1).length = dn.length + (pull r 13 m).1.length := List.length_append
      refine wp_apps (hap.more h4) (by rw [flat_len (w := 1) (fun _ => rfl)]; simp) (by decide) (by omega) (by decide) (leaf_I _) ?_
      intro a' S2 h6
      rw [← List.flatMap_append, ← List.map_append, ← hl] at h6
      simp only [wps]
      rw [← hl]
      exact ⟨4 - (i + 1), by omega, i + 1, _, _, a', by rw [wI_ (by omega) (by omega)]; rfl, by omega, rfl, h6, hgo, f1, by omega, by rw [hl]; omega⟩
    · obtain rfl : i = 4 := by omega
      have e : r4Go ([4, 2, 3, 5].drop 4) dn m = (dn, m) := rfl
      rw [e] at hgo
      rw [← hgo]
      refine ⟨fun h5 => ?_, fun h5 => ?_⟩
      · rw [if_neg (by omega)]; exact ⟨pre_of_add hp, none, 0, rfl, .nil, by simp⟩
      · rw [if_pos (by omega)]
        simp only [List.length_map]
        exact ⟨pre_of_add hp, sa, dn.length, rfl, by simpa using hap.ar (fun _ => rfl) (by decide), by simp⟩
theorem rsmooth_w {n : Int} {S : St} : Sp (g_r04_Smooth [vI n]) S fun v _ => v = vB (smoothV n) := by
  unfold Sp
  rw [g_r04_Smooth_eq]
  simp only [wps]
  refine rrad_w.use ?_
  rintro _ S' h ⟨a, k, rfl, _, _⟩
  simp only [wps]
  exact ⟨h, rfl⟩
end Go.AM
set_option linter.unusedVariables false
set_option linter.unusedSimpArgs false
namespace Go.AM
open Go Go.Proofs.YtcilfgedcnehfaaGreatDoor
abbrev prodL (l : List Int) : Int := l.foldr (· * ·) 1
theorem prod_app : ∀ a b : List Int, prodL (a ++ b) = prodL a * prodL b
  | [], b => by simp
  | x :: a, b => by
    have := prod_app a b
    simp only [prodL, List.cons_append, List.foldr_cons] at this ⊢
    rw [this, Int.mul_assoc]
theorem prod_le {a b : Int} (ha : 1 ≤ a) (hb : 1 ≤ b) : a ≤ a * b ∧ b ≤ a * b := by
  constructor
  · have := Int.mul_le_mul_of_nonneg_left hb (show 0 ≤ a by omega); omega
  · have := Int.mul_le_mul_of_nonneg_right ha (show 0 ≤ b by omega); omega
theorem product_w {S : St} {p : Option Addr} {n c : Nat} {l : List Int} (h : Ar S p n 1 eI l) (hl : n ≤ 4096) (h1 : ∀ r ∈ l, 1 ≤ r) (h2 : prodL l ≤ 4096) : Gv (g_r04_product [.slice p n c]) S (vI (prodL l)) := by
  refine .of ?_
  have hn := h.1
  rw [g_r04_product_eq]
  simp only [wps]
  refine wp_loop (fun st S' m => ∃ (j : Nat) (x : Int), st = [vI x, vI j] ∧ j ≤ n ∧ m = n - j ∧ S' = S ∧ 1 ≤ x ∧ x * prodL (l.drop j) = prodL l) ?_ n _ _ ⟨0, 1, rfl, by omega, by omega, rfl, by omega, by simp⟩
  rintro st S' m ⟨j, x, rfl, hj, rfl, rfl, hx, hd⟩
  simp only [wps]
  refine ⟨fun h3 => ⟨by omega, ?_⟩, fun h3 => ?_⟩
  · have hj' : j < l.length := by omega
    obtain ⟨a, rfl, c1⟩ := h.getI hj'
    rw [List.drop_eq_getElem_cons hj'] at hd
    have e : prodL (l[j] :: l.drop (j + 1)) = l[j] * prodL (l.drop (j + 1)) := rfl
    rw [e, ← Int.mul_assoc] at hd
    have p1 : 1 ≤ prodL (l.drop (j + 1)) := foldr_pos (l.drop (j + 1)) (fun r hr => h1 r (List.mem_of_mem_drop hr))
    have p2 := h1 _ (List.getElem_mem hj')
    have p3 := (prod_le hx p2).1
    have p4 := (prod_le (show 1 ≤ x * l[j] by omega) p1).1
    simp only [wps, c1]
    refine ⟨n - (j + 1), by omega, j + 1, x * l[j], ?_, by omega, rfl, by omega, hd⟩
    rw [wI_ (n := x * l[j]) (by omega) (by omega), wI_ (n := (j : Int) + 1) (by omega) (by omega)]; rfl
  · rw [List.drop_eq_nil_of_le (by omega)] at hd
    have e : prodL [] = 1 := rfl
    rw [e, Int.mul_one] at hd
    simp [hd]
theorem rstagesA_w {n : Int} {S : St} : WP (g_r04_Stages [vI n]) S fun v S' => ∃ a, v = vT [.slice a (stagesV n).1.length (stagesV n).1.length, vI (stagesV n).2] ∧ Ap S none S' a (stagesV n).1.length 94 3 ((stagesV n).1.flatMap eSg) := by
  rw [g_r04_Stages_eq]
  simp only [wps]
  refine rrad_w.use ?_
  rintro _ S1 hS ⟨a, c, rfl, hr, hc⟩
  simp only [wps]
  unfold stagesV
  refine ⟨fun h => by rw [if_neg h]; exact ⟨none, rfl, Ap.nil.more hS⟩, fun h => ?_⟩
  rw [if_pos h]
  obtain ⟨n1, n2, f1, f2, f3⟩ := radV_facts h
  generalize (radV n).1 = rs at hr f1 f2 f3 hc ⊢
  have pos : ∀ l : List Int, (∀ x ∈ l, x ∈ rs) → (∀ x ∈ l, 1 ≤ x) ∧ 1 ≤ prodL l := fun l hl => by
    have : ∀ x ∈ l, 1 ≤ x := fun x hx => by have := (f1 x (hl x hx)).1; omega
    exact ⟨this, foldr_pos l this⟩
  refine wp_loop (fun st S' m => ∃ (j : Nat) (sa : Option Addr) (dn : List Sg), st = [.slice sa j j, vI j] ∧ j ≤ rs.length ∧ m = rs.length - j ∧ Ap S1 none S' sa j 94 3 (dn.flatMap eSg) ∧
      dn ++ stGo n (prodL (rs.take j)) (rs.drop j) = stGo n 1 rs) ?_ rs.length _ _ ⟨0, none, [], rfl, by omega, by omega, .nil, by simp⟩
  rintro st S' m ⟨j, sa, dn, rfl, hj, rfl, ho, hd⟩
  simp only [wps]
  refine ⟨fun h3 => ⟨h3, ?_⟩, fun h3 => ?_⟩
  · have hj' : j < rs.length := by omega
    have hr' := hr.mono ho.pre
    obtain ⟨b, rfl, hcell⟩ := hr'.getI hj'
    rw [List.drop_eq_getElem_cons hj', stGo] at hd
    have hr1 := f1 _ (List.getElem_mem hj')
    have e1 : prodL (rs.take j) * (rs[j] * prodL (rs.drop (j + 1))) = n := by
      have e2 : rs.take j ++ rs[j] :: rs.drop (j + 1) = rs := by rw [← List.drop_eq_getElem_cons hj', List.take_append_drop]
      rw [← f2]
      conv => rhs; rw [← e2]
      exact (prod_app (rs.take j) (rs[j] :: rs.drop (j + 1))).symm
    obtain ⟨p1, p2⟩ := pos (rs.take j) (fun x hx => List.mem_of_mem_take hx)
    obtain ⟨p3, p4⟩ := pos (rs.drop (j + 1)) (fun x hx => List.mem_of_mem_drop hx)
    have e3 : prodL (rs.take (j + 1)) = prodL (rs.take j) * rs[j] := by
      rw [List.take_add_one, List.getElem?_eq_getElem hj', prod_app]; simp [prodL]
    have e4 : n / prodL (rs.take j) / rs[j] = prodL (rs.drop (j + 1)) := by
      conv => lhs; rw [← e1]
      rw [Int.mul_ediv_cancel_left _ (by omega), Int.mul_ediv_cancel_left _ (by omega)]
    have q1 := prod_le (show 1 ≤ rs[j] by omega) p4
    have q2 := prod_le p2 (show 1 ≤ rs[j] * prodL (rs.drop (j + 1)) by omega)
    simp only [wps, hcell]
    have hj1 : wI ((j : Int) + 1) = ((j + 1 : Nat) : Int) := by rw [wI_ (by omega) (by omega)]; rfl
    rw [hj1]
    refine cut_ar hr' (fun _ => rfl) (by decide) (by omega) (by omega) (by omega) hc ?_
    intro a1 k1 hk1 ha1
    refine cut_ar hr' (fun _ => rfl) (by decide) (by omega) (by omega) (by omega) hc ?_
    intro a2 k2 hk2 ha2
    simp only [Int.toNat_natCast, Int.toNat_zero, List.drop_zero, Nat.sub_zero, Int.natCast_zero] at ha1 ha2 ⊢
    rw [List.take_of_length_le (by rw [List.length_drop]; omega)] at ha2
    simp only [(product_w ha1 (by omega) p1 (by omega)).wp, (product_w ha2 (by omega) p3 (by omega)).wp, wps]
    refine wp_push ho rfl (by omega) (by omega) rfl ?_
    intro b' S2 h6
    simp only [wps]
    refine ⟨rs.length - (j + 1), by omega, j + 1, _, dn ++ [⟨rs[j], prodL (rs.take j), prodL (rs.drop (j + 1))⟩], rfl, by omega, rfl, by simpa [eSg] using h6, ?_⟩
    rw [← hd, e3, e4]; simp
  · rw [List.drop_eq_nil_of_le (by omega), stGo, List.append_nil] at hd
    have e := ho.cnt (fun _ => rfl) (by decide)
    subst hd
    rw [← e]
    exact ⟨sa, rfl, (Ap.nil.more hS).trans ho⟩
theorem rstages_w {n : Int} {S : St} : Sp (g_r04_Stages [vI n]) S fun v S' => ∃ a k, v = vT [.slice a (stagesV n).1.length k, vI (stagesV n).2] ∧ Ar S' a (stagesV n).1.length 3 eSg (stagesV n).1 := by
  refine rstagesA_w.mono ?_
  rintro _ S' ⟨a, rfl, h⟩
  exact ⟨h.pre, a, _, rfl, h.ar (fun _ => rfl) (by decide)⟩
end Go.AM
set_option linter.unusedVariables false
set_option linter.unusedSimpArgs false
namespace Go.AM
open Go Go.Proofs.YtcilfgedcnehfaaGreatDoor
theorem gGo_eq (p : Int) : ∀ l : List Ax, (∀ e, gGo p e l = if ∀ a ∈ l, smoothV a.N = true then (if ∀ a ∈ l, (rootV p (ordW a)).2 = 0 then e else 5) else 4)
  | [], e => by simp [gGo]
  | x :: r, e => by
    unfold gGo
    rw [gGo_eq p r]
    simp only [List.forall_mem_cons]
    by_cases h1 : smoothV x.N = true <;> by_cases h3 : (rootV p (ordW x)).2 = 0 <;> simp [h1, h3]
theorem rgrid_w {p : Int} {S : St} {axes : Option Addr} {n c : Nat} {l : List Ax} (h : Ar S axes n 2 eAx l) (hl : n ≤ 8796093022208) :
    Sp (g_r07_Check [vU p, .slice axes n c]) S fun v S' => v = vI (gridV p l) := by
  unfold Sp
  have hn := h.1
  rw [g_r07_Check_eq, rknown_w]
  unfold gridV
  simp only [wps]
  refine ⟨fun hk => ⟨List.prefix_rfl, by simp [hk]⟩, fun hk => ?_⟩
  refine (r07dims_w h hl).mono ?_
  rintro _ S1 ⟨a, rfl, hd⟩
  have h1 := hd.pre
  have hd := hd.ar (fun _ => rfl) (by decide)
  simp only [wps, (r05all_w hd).wp]
  refine ⟨fun h2 => ⟨h1, by simp [hk, h2]⟩, fun h2 => ?_⟩
  rw [if_pos hk, if_pos h2]
  refine wp_loop (fun st S' m => ∃ j : Nat, st = [vI j] ∧ j ≤ n ∧ m = n - j ∧ S <+: S' ∧ ∀ i, (hi : i < l.length) → i < j → smoothV l[i].N = true) ?_ n _ _ ⟨0, rfl, by omega, by omega, h1, fun i hi h => by omega⟩
  rintro st S' m ⟨j, rfl, hj, rfl, hp, hg⟩
  simp only [wps]
  refine ⟨fun h3 => ⟨h3, ?_⟩, fun h3 => ?_⟩
  · have hj' : j < l.length := by omega
    obtain ⟨a, rfl, c1, c2⟩ := (h.mono hp).getAx hj'
    simp only [wps, c1, c2]
    have hq := pre_add hp
    refine rsmooth_w.use ?_
    rintro _ S2 h5 rfl
    simp only [wps]
    refine ⟨fun h6 => ?_, fun h6 => ?_⟩
    · refine ⟨(hq _).trans h5, ?_⟩
      rw [gGo_eq, if_neg (fun h => by have := h _ (List.getElem_mem hj'); rw [h6] at this; cases this)]
    · refine ⟨n - (j + 1), by omega, j + 1, by rw [wI_ (by omega) (by omega)]; simp, by omega, rfl, (hq _).trans h5, fun i hi hij => ?_⟩
      rcases Nat.lt_or_ge i j with h7 | h7
      · exact hg i hi h7
      · obtain rfl : i = j := by omega
        exact h6
  · have hall : ∀ a ∈ l, smoothV a.N = true := fun a ha => by
      obtain ⟨i, hi, rfl⟩ := List.getElem_of_mem ha
      exact hg i hi (by omega)
    rw [gGo_eq, if_pos hall]
    refine wp_loop (fun st S' m => ∃ j : Nat, st = [vI j] ∧ j ≤ n ∧ m = n - j ∧ S <+: S' ∧ ∀ i, (hi : i < l.length) → i < j → (rootV p (ordW l[i])).2 = 0) ?_ n _ _ ⟨0, rfl, by omega, by omega, hp, fun i hi h => by omega⟩
    clear hg
    rintro st S2 m ⟨j, rfl, hj, rfl, hp, hg⟩
    simp only [wps]
    refine ⟨fun h3 => ⟨h3, ?_⟩, fun h3 => ?_⟩
    · have hj' : j < l.length := by omega
      obtain ⟨a, rfl, c1, c2⟩ := (h.mono hp).getAx hj'
      simp only [wps, c1, c2]
      have hq := pre_add hp
      have step : ∀ (x : Int), x = ordW l[j] → (((¬(rootV p x).2 = 0 → S <+: S2 ++ [AObj.cells [vI l[j].N, vB l[j].neg] 111 none] ∧ vI 5 = vI (if ∀ a ∈ l, (rootV p (ordW a)).2 = 0 then 0 else 5)) ∧
          ((rootV p x).2 = 0 → ∃ n', n' < n - j ∧ ∃ j_1 : Nat, [vI (wI ((j : Int) + 1))] = [vI (j_1 : Int)] ∧ j_1 ≤ n ∧ n' = n - j_1 ∧ S <+: S2 ++ [AObj.cells [vI l[j].N, vB l[j].neg] 111 none] ∧ ∀ (i : Nat) (hi : i < l.length), i < j_1 → (rootV p (ordW l[i])).2 = 0))) := by
        rintro x rfl
        refine ⟨fun h6 => ⟨hq _, by rw [if_neg (fun h => h6 (h _ (List.getElem_mem hj')))]⟩, fun h6 => ?_⟩
        refine ⟨n - (j + 1), by omega, j + 1, by rw [wI_ (by omega) (by omega)]; simp, by omega, rfl, hq _, fun i hi hij => ?_⟩
        rcases Nat.lt_or_ge i j with h7 | h7
        · exact hg i hi h7
        · obtain rfl : i = j := by omega
          exact h6
      simp only [rroot_w, wps]
      refine ⟨fun h4 => step _ ?_, fun h4 => step _ ?_⟩
      · unfold ordW; rw [if_pos h4, Int.mul_comm]
      · unfold ordW; rw [if_neg (by simp [h4])]
    · have hall : ∀ a ∈ l, (rootV p (ordW a)).2 = 0 := fun a ha => by
        obtain ⟨i, hi, rfl⟩ := List.getElem_of_mem ha
        exact hg i hi (by omega)
      rw [if_pos hall]
      exact ⟨hp, rfl⟩
end Go.AM
set_option linter.unusedVariables false
set_option linter.unusedSimpArgs false
namespace Go.AM
open Go Go.Proofs.YtcilfgedcnehfaaGreatDoor
theorem eqSg (s t : Sg) : eqL [vI s.R, vI s.L, vI s.M] [vI t.R, vI t.L, vI t.M] = decide (s = t) := by
  obtain ⟨a1, a2, a3⟩ := s
  obtain ⟨b1, b2, b3⟩ := t
  simp [eqL, Bool.and_assoc, Bool.decide_and, Sg.mk.injEq]; rfl
theorem rstepc_w {p : Int} {S : St} {axes : Option Addr} {n c : Nat} {l : List Ax} (h : Ar S axes n 2 eAx l) (hl : n ≤ 8796093022208) (s : Stp) :
    Sp (g_r16_Check [vU p, .slice axes n c, vA [vI s.ax, vB s.tw, vI s.st.R, vI s.st.L, vI s.st.M]]) S fun v S' => v = vI (stepV p l s) := by
  unfold Sp
  have hn := h.1
  rw [g_r16_Check_eq]
  simp only [wps]
  refine (rgrid_w (h.mono (List.prefix_append _ _)) hl).use ?_
  rintro _ S1 h1 rfl
  have hb := pre_get h1 get_new
  have hb2 : ∀ o, (S1 ++ [o])[S.length]? = _ := fun o => get_add hb
  have hc := cell_blk hb
  have h0 := pre_of_add h1
  simp only [wps, hc]
  unfold stepV
  refine ⟨fun h2 => ⟨h0, by rw [if_neg h2]⟩, fun h2 => ?_⟩
  rw [if_pos h2]
  refine ⟨fun h3 => ⟨h0, by rw [if_neg (by omega)]⟩, fun h3 => ⟨fun h4 => ⟨h0, by rw [if_neg (by omega)]⟩, fun h4 => ?_⟩⟩
  rw [if_pos (by omega)]
  obtain ⟨k, hk⟩ := Int.eq_ofNat_of_zero_le (show 0 ≤ s.ax by omega)
  have hkl : k < l.length := by omega
  have hst0 := (stages_facts ((grid_ok h2).2.2 _ (List.getElem_mem hkl)).1).1
  refine ⟨fun h5 => ?_, fun h5 => ?_⟩
  · rw [if_pos h5]
    have e := eqSg s.st ⟨0, 0, 0⟩
    have e2 : ∀ x : Bool, eqL (ar [vI s.st.R, vI s.st.L, vI s.st.M]).toList (ar (({ size := 3, bytes := 24, zero := vA [vI 0, vI 0, vI 0], ag := true, d := TD.struct [(0, 1, false), (1, 1, false), (2, 1, false)] : TI }).zero.cells.toList)).toList = decide (s.st = ⟨0, 0, 0⟩) := fun _ => e
    rw [e2 true]
    refine ⟨fun h6 => ⟨h0, ?_⟩, fun h6 => ⟨h0, ?_⟩⟩
    · rw [if_neg (by simpa using h6)]
    · rw [if_pos (by simpa using h6)]
  · obtain ⟨a, rfl, c1, c2⟩ := (h.mono h0).getAx hkl
    rw [if_neg (by rw [h5]; simp), hk, axAt_nat l k hkl, if_pos hst0]
    simp only [wps, c1]
    refine ⟨by omega, ?_⟩
    refine rstages_w.use ?_
    rintro _ S2 h6 ⟨b, k2, rfl, hst⟩
    have hln := stages_len l[k].N
    generalize (stagesV l[k].N).1 = sts at hst hln ⊢
    simp only [wps]
    refine wp_loop (fun st S' m => ∃ j : Nat, st = [vI j] ∧ j ≤ sts.length ∧ m = sts.length - j ∧ S2 <+: S' ∧ (s.st ∈ sts ↔ s.st ∈ sts.drop j)) ?_ sts.length _ _ ⟨0, rfl, by omega, by omega, List.prefix_rfl, by simp⟩
    rintro st S' m ⟨j, rfl, hj, rfl, hp, hm⟩
    simp only [wps]
    have hS := (h0.trans h6).trans hp
    refine ⟨fun h7 => ⟨h7, ?_⟩, fun h7 => ?_⟩
    · have hj' : j < sts.length := by omega
      obtain ⟨x, rfl, d1, d2, d3⟩ := (hst.mono hp).getSg hj'
      rw [List.drop_eq_getElem_cons hj', List.mem_cons] at hm
      have hb3 := fun o => cell_blk (get_add (t := [o]) (pre_get hp (pre_get h6 hb)))
      simp only [wps, d1, d2, d3, hb3]
      rw [show ∀ x y z a b c : Value, (eqL (ar [x, y, z]).toList (ar [a, b, c]).toList) = eqL [x, y, z] [a, b, c] from fun _ _ _ _ _ _ => rfl, eqSg]
      refine ⟨fun h8 => ⟨pre_add hS _, ?_⟩, fun h8 => ?_⟩
      · rw [if_pos (hm.2 (.inl (by simpa using (of_decide_eq_true (by simpa using h8) : sts[j] = s.st).symm)))]
      · have h9 : ¬ sts[j] = s.st := by simpa using h8
        exact ⟨sts.length - (j + 1), by omega, j + 1, by rw [wI_ (by omega) (by omega)]; rfl, by omega, rfl, pre_add hp _, by rw [hm]; exact ⟨fun h => h.resolve_left (fun h => h9 h.symm), .inr⟩⟩
    · rw [List.drop_eq_nil_of_le (by omega)] at hm
      refine ⟨hS, ?_⟩
      rw [if_neg (fun h => by have := hm.1 h; simp at this)]
end Go.AM
set_option linter.unusedVariables false
set_option linter.unusedSimpArgs false
namespace Go.AM
open Go Go.Proofs.YtcilfgedcnehfaaGreatDoor
theorem tw1_range (p : Int) (a : Ax) (inv : Bool) (i : Nat) : 0 ≤ (if a.neg = true then powM p (rootV p (IntKind.i64.wrap (2 * a.N))).1 i else 1) ∧ (if a.neg = true then powM p (rootV p (IntKind.i64.wrap (2 * a.N))).1 i else 1) < 18446744073709551616 := by
  split
  · exact powM_range _ _ _
  · omega
theorem rtable_w {p : Int} {S : St} {axes : Option Addr} {n c : Nat} {l : List Ax} (h : Ar S axes n 2 eAx l) (hl : n ≤ 8796093022208) (inv : Bool) (s : Stp) :
    Sp (g_r16_Table [vU p, .slice axes n c, vB inv, vA [vI s.ax, vB s.tw, vI s.st.R, vI s.st.L, vI s.st.M]]) S fun v S' => ∃ b k, v = vT [.slice b (tableV p l inv s (tabV p l inv s)).length k, vI (stepV p l s)] ∧
      Ar S' b (tableV p l inv s (tabV p l inv s)).length 1 eU (tableV p l inv s (tabV p l inv s)) := by
  unfold Sp
  have hn := h.1
  rw [g_r16_Table_eq]
  simp only [wps]
  refine (rstepc_w (h.mono (List.prefix_append _ _)) hl s).use ?_
  rintro _ S1 h1 rfl
  have h0 := pre_of_add h1
  have hb := pre_get h1 get_new
  simp only [wps, cell_blk hb]
  unfold tableV
  refine ⟨fun h2 => by rw [if_neg h2]; exact ⟨h0, none, 0, rfl, .nil⟩, fun h2 => ?_⟩
  rw [if_pos h2, h2]
  obtain ⟨hk, k, hkl, e0, n1, n2, h3⟩ := tab_facts inv h2
  have hp := known_pos hk
  rcases h3 with ⟨h3, hroot, etab⟩ | ⟨h3, r1, r2, m1, m2, p1, p2, hro, etab⟩
  · obtain ⟨a, rfl, c1, c2⟩ := (h.mono h0).getAx hkl
    rw [etab, e0]
    refine ⟨fun _ => ?_, fun h4 => by rw [h3] at h4; cases h4⟩
    simp only [wps, c1, c2]
    refine ⟨by omega, ?_⟩
    obtain ⟨N, hN⟩ := Int.eq_ofNat_of_zero_le (show 0 ≤ l[k].N by omega)
    have eN : l[k].N.toNat = N := by rw [hN]; rfl
    rw [eN]
    have hSB1 := get_new (S := S1) (o := AObj.cells [vI l[k].N, vB l[k].neg] 111 none)
    have hSB2 := pre_add h0 [AObj.cells [vI l[k].N, vB l[k].neg] 111 none]
    generalize S1 ++ [AObj.cells [vI l[k].N, vB l[k].neg] 111 none] = SB at hSB1 hSB2 ⊢
    have fin : ∀ (sa : Option Addr) (j : Nat) (S' : St), j < N → SB <+: S' → ∀ w, w = tw1 p l[k] inv j →
        Ap SB none S' sa j 22 1 (((List.range j).map (tw1 p l[k] inv)).flatMap eU) →
        WP (rdN (some ⟨S'.length, 0, none⟩) 1) (S' ++ [.cells [vU w] 22 none]) fun xs S2 => WP (appM 22 1 8 sa j j 1 xs) S2 fun q S3 => ∃ n', n' < N - j ∧ ∃ (j' : Nat) (sa' : Option Addr), [Value.slice q.a q.n q.c, vI (wI ((j : Int) + 1))] = [Value.slice sa' j' j', vI (j' : Int)] ∧ j' ≤ N ∧ n' = N - j' ∧ Ap SB none S3 sa' j' 22 1 (((List.range j').map (tw1 p l[k] inv)).flatMap eU) := by
      rintro sa j S' hj hpre w rfl hap
      refine wp_push hap rfl (by omega) (by omega) rfl ?_
      intro b' S2 h6
      refine ⟨N - (j + 1), by omega, j + 1, _, by rw [wI_ (by omega) (by omega)]; rfl, by omega, rfl, ?_⟩
      rw [List.range_succ, List.map_append, List.flatMap_append]
      exact h6
    refine wp_loop (fun st S' m => ∃ (j : Nat) (sa : Option Addr), st = [.slice sa j j, vI j] ∧ j ≤ N ∧ m = N - j ∧ Ap SB none S' sa j 22 1 (((List.range j).map (tw1 p l[k] inv)).flatMap eU)) ?_ N _ _
      ⟨0, none, rfl, by omega, by omega, .nil⟩
    rintro st S' m ⟨j, sa, rfl, hj, rfl, hap⟩
    have hpre := hap.pre
    have hb5 := pre_get hpre hSB1
    simp only [wps, cell_blk hb5, hN]
    refine ⟨fun h4 => ?_, fun h4 => ?_⟩
    · have hj' : j < N := by omega
      have hfin := fin sa j S' hj' hpre
      have hu : wU (j : Int) = j := wU_ (by omega) (by omega)
      have hu2 : wU (N : Int) = N := wU_ (by omega) (by omega)
      have hrng := tw1_range p l[k] inv j
      have htw : tw1 p l[k] inv j = if inv = true then (invV p (mulF p (if l[k].neg = true then powM p (rootV p (wI (2 * l[k].N))).1 j else 1) l[k].N)).1 else (if l[k].neg = true then powM p (rootV p (wI (2 * l[k].N))).1 j else 1) := rfl
      rw [hN] at htw hrng
      refine ⟨fun h5 => ?_, fun h5 => ?_⟩
      · simp only [h5, if_true] at htw hrng
        have hpw := rpow_w (p := p) (a := (rootV p (wI (2 * (N : Int)))).1) (n := (j : Int)) (rootV_range _ _) ⟨by omega, by omega⟩
        rw [Int.toNat_natCast] at hpw
        simp only [rroot_w, wps, hu, hpw]
        generalize powM p (rootV p (wI (2 * (N : Int)))).1 j = x at htw hrng ⊢
        refine ⟨fun h6 => ?_, fun h6 => ?_⟩
        · rw [if_pos h6] at htw
          simp only [wps, cell_blk hb5, hN, hu2, rmul_w (p := p) hrng (show 0 ≤ (N : Int) ∧ (N : Int) < 18446744073709551616 by omega), rinv_w (p := p) (mulF_range p x N)]
          exact hfin _ htw.symm hap
        · rw [if_neg (by simp [h6])] at htw
          exact hfin _ htw.symm hap
      · simp only [h5, Bool.false_eq_true, if_false] at htw hrng
        refine ⟨fun h6 => ?_, fun h6 => ?_⟩
        · rw [if_pos h6] at htw
          simp only [wps, cell_blk hb5, hN, hu2, rmul_w (p := p) hrng (show 0 ≤ (N : Int) ∧ (N : Int) < 18446744073709551616 by omega), rinv_w (p := p) (mulF_range p 1 N)]
          exact hfin _ htw.symm hap
        · rw [if_neg (by simp [h6])] at htw
          exact hfin _ htw.symm hap
    · obtain rfl : j = N := by omega
      refine ⟨hSB2.trans hpre, sa, j, by simp, ?_⟩
      have := hap.ar (f := eU) (fun _ => rfl) (by decide)
      simpa using this
  · rw [etab]
    refine ⟨fun h4 => by (rw [h3] at h4; cases h4), fun _ => ?_⟩
    rw [wI_ (n := s.st.R * s.st.M) (by omega) (by omega)]
    simp only [rroot_w, wps, cell_blk hb]
    obtain ⟨R, hR⟩ := Int.eq_ofNat_of_zero_le (show 0 ≤ s.st.R by omega)
    obtain ⟨M', hM'⟩ := Int.eq_ofNat_of_zero_le (show 0 ≤ s.st.M by omega)
    generalize hO : s.st.R * s.st.M = o at hro p1 p2 ⊢
    have hRM : M' * R ≤ 4096 := by
      rw [hR, hM', ← Int.natCast_mul] at hO
      rw [Nat.mul_comm]; omega
    rw [hR, hM', Int.toNat_natCast, Int.toNat_natCast]
    refine wp_loop (fun st S' m => ∃ (j : Nat) (sa : Option Addr), st = [.slice sa (j * R) (j * R), vI j] ∧ j ≤ M' ∧ m = M' - j ∧ Ap S1 none S' sa (j * R) 22 1 ((rowsS p o inv R j).flatMap eU)) ?_ M' _ _
      ⟨0, none, by simp, by omega, by omega, by simpa [rowsS] using Ap.nil⟩
    rintro st S' m ⟨j, sa, rfl, hj, rfl, hap⟩
    have hbj := pre_get hap.pre hb
    simp only [wps, cell_blk hbj, hR]
    refine ⟨fun h4 => ?_, fun h4 => ?_⟩
    · have hj' : j < M' := by omega
      have hjr : j * R + R ≤ M' * R := by rw [← Nat.succ_mul]; exact Nat.mul_le_mul_right _ hj'
      refine wp_loop (fun st S3 m => ∃ (i : Nat) (sa : Option Addr), st = [.slice sa (j * R + i) (j * R + i), vI i] ∧ i ≤ R ∧ m = R - i ∧ Ap S1 none S3 sa (j * R + i) 22 1 ((rowsS p o inv R j ++ (List.range i).map fun r => st1 p o inv (j * r)).flatMap eU)) ?_ R _ _
        ⟨0, sa, by simp, by omega, by omega, by simpa using hap⟩
      rintro st S3 m ⟨i, sa', rfl, hi, rfl, hap3⟩
      simp only [wps]
      refine ⟨fun h5 => ?_, fun h5 => ?_⟩
      · have hi' : i < R := by omega
        have hji : j * i ≤ M' * R := Nat.mul_le_mul hj hi
        have hw : wU (wI ((j : Int) * (i : Int))) = ((j * i : Nat) : Int) := by
          rw [← Int.natCast_mul, wI_ (by omega) (by omega), wU_ (by omega) (by omega)]
        have hpw := rpow_w (p := p) (a := (rootV p o).1) (n := ((j * i : Nat) : Int)) (rootV_range _ _) ⟨by omega, by omega⟩
        rw [Int.toNat_natCast] at hpw
        simp only [hw, hpw, wps]
        have fin : ∀ w, w = st1 p o inv (j * i) → WP (rdN (some ⟨S3.length, 0, none⟩) 1) (S3 ++ [.cells [vU w] 22 none]) fun xs S2 => WP (appM 22 1 8 sa' (j * R + i) (j * R + i) 1 xs) S2 fun q S4 => ∃ n', n' < R - i ∧ ∃ (i' : Nat) (sa' : Option Addr), [Value.slice q.a q.n q.c, vI (wI ((i : Int) + 1))] = [Value.slice sa' (j * R + i') (j * R + i'), vI (i' : Int)] ∧ i' ≤ R ∧ n' = R - i' ∧ Ap S1 none S4 sa' (j * R + i') 22 1 ((rowsS p o inv R j ++ (List.range i').map fun r => st1 p o inv (j * r)).flatMap eU) := by
          rintro w rfl
          refine wp_push hap3 rfl (by omega) (by omega) rfl ?_
          intro b' S2 h6
          refine ⟨R - (i + 1), by omega, i + 1, _, by rw [wI_ (by omega) (by omega)]; rfl, by omega, rfl, ?_⟩
          rw [List.range_succ, List.map_append, ← List.append_assoc, List.flatMap_append]
          exact h6
        have hst : st1 p o inv (j * i) = if inv = true then (invV p (powM p (rootV p o).1 (j * i))).1 else powM p (rootV p o).1 (j * i) := rfl
        refine ⟨fun h6 => ?_, fun h6 => ?_⟩
        · rw [if_pos h6] at hst
          simp only [rinv_w (p := p) (powM_range p (rootV p o).1 (j * i)), wps]
          exact fin _ hst.symm
        · rw [if_neg (by simp [h6])] at hst
          exact fin _ hst.symm
      · obtain rfl : i = R := by omega
        refine ⟨M' - (j + 1), by omega, j + 1, sa', by rw [wI_ (by omega) (by omega), Nat.succ_mul]; rfl, by omega, rfl, ?_⟩
        rw [Nat.succ_mul]; exact hap3
    · obtain rfl : j = M' := by omega
      refine ⟨h0.trans hap.pre, sa, j * R, by rw [rowsS_len], ?_⟩
      have := hap.ar (f := eU) (fun _ => rfl) (by decide)
      rw [rowsS_len]; exact this
end Go.AM
set_option linter.unusedVariables false
set_option linter.unusedSimpArgs false
namespace Go.AM
open Go Go.Proofs.YtcilfgedcnehfaaGreatDoor
theorem rsteps_tail {inv : Bool} {k : Int} {sa : Option Addr} {N : Int} {neg : Bool} {q n1 : Nat} {S0 S : St} {dn : List Stp} {Q : Nat × List Value → St → Prop}
    (h : Ap S0 none S sa q 96 5 (dn.flatMap eStp)) (hn : S[n1]? = some (.cells [vI N, vB neg] 111 none)) (hk : 0 ≤ k ∧ k < 1000) (hsz : dn.length + (stagesV N).1.length + 1 ≤ 100000)
    (hq : ∀ sa' q' S', Ap S0 none S' sa' q' 96 5 ((dn ++ (stagesV N).1.map (stg k) ++ (if inv = true then [tw k] else [])).flatMap eStp) → Q (0, [.slice sa' q' q', vI (k + 1)]) S') :
    WP (k_r17_Steps_1 inv k n1 (0, [.slice sa q q])) S Q := by
  unfold k_r17_Steps_1
  simp only [wps, cell_blk hn]
  refine rstagesA_w.mono ?_
  rintro _ S1 ⟨b, rfl, hst⟩
  have h1 := hst.pre
  have hr := hst.ar (f := eSg) (fun _ => rfl) (by decide)
  have hne : ∀ x, b = some x → sa ≠ some ⟨x.block, 0, none⟩ := fun x hx e => by
    have := hst.new hx
    have h9 := h.lt e
    omega
  have h2 := h.more h1
  have hcode := (stagesV N).2
  generalize (stagesV N).1 = sts at hr hsz hq ⊢
  simp only [wps]
  refine wp_loop (fun st S' m => ∃ (j : Nat) (sa' : Option Addr) (q' : Nat), st = [.slice sa' q' q', vI j] ∧ j ≤ sts.length ∧ m = sts.length - j ∧ Ap S1 sa S' sa' q' 96 5 ((dn ++ (sts.take j).map (stg k)).flatMap eStp)) ?_ sts.length _ _
    ⟨0, sa, q, rfl, by omega, by omega, by simpa using h2.start⟩
  rintro st S' m ⟨j, sa', q', rfl, hj, rfl, ha⟩
  have hcnt := ha.cnt (fun _ => rfl) (by decide)
  simp only [List.length_append, List.length_map, List.length_take] at hcnt
  simp only [wps]
  refine ⟨fun h3 => ⟨h3, ?_⟩, fun h3 => ?_⟩
  · have hj' : j < sts.length := by omega
    obtain ⟨a, rfl, c1, c2, c3⟩ := (ha.kAr hr hne).getSg hj'
    simp only [wps, c1, c2, c3]
    refine wp_push (ha.more (List.prefix_append _ _)) rfl (by omega) (by omega) rfl ?_
    intro b' S2 h6
    simp only [wps]
    rw [wI_ (n := (j : Int) + 1) (by omega) (by omega)]
    refine ⟨sts.length - (j + 1), by omega, j + 1, _, _, rfl, by omega, rfl, ?_⟩
    have e : (dn ++ (sts.take (j + 1)).map (stg k)).flatMap eStp = (dn ++ (sts.take j).map (stg k)).flatMap eStp ++ [vI k, vB false, vI sts[j].R, vI sts[j].L, vI sts[j].M] := by
      have e0 : (sts.take (j + 1)).map (stg k) = (sts.take j).map (stg k) ++ [stg k sts[j]] := by
        rw [List.take_add_one, List.getElem?_eq_getElem hj', List.map_append]; rfl
      rw [e0, ← List.append_assoc, List.flatMap_append]; rfl
    rw [e]; exact h6
  · rw [List.take_of_length_le (by omega)] at ha
    rw [wI_ (n := k + 1) (by omega) (by omega)]
    refine ⟨fun hi => ?_, fun hi => ?_⟩
    · refine wp_push ha rfl (by omega) (by omega) rfl ?_
      intro b' S2 h6
      simp only [wps]
      refine hq _ _ _ ?_
      rw [hi, if_pos rfl]
      simpa [eStp, tw] using h2.trans h6
    · refine hq _ _ _ ?_
      rw [hi, if_neg (by simp), List.append_nil]
      exact h2.trans ha
theorem rsteps_w {p : Int} {S : St} {axes : Option Addr} {n c : Nat} {l : List Ax} (h : Ar S axes n 2 eAx l) (hl : n ≤ 8796093022208) (inv : Bool) :
    WP (g_r17_Steps [vU p, .slice axes n c, vB inv]) S fun v S' => ∃ a, v = vT [.slice a (stepsV p l inv).1.length (stepsV p l inv).1.length, vI (stepsV p l inv).2] ∧ Ap S none S' a (stepsV p l inv).1.length 96 5 ((stepsV p l inv).1.flatMap eStp) := by
  have hn := h.1
  rw [g_r17_Steps_eq]
  simp only [wps]
  refine (rgrid_w h hl).use ?_
  rintro _ S1 h1 rfl
  simp only [wps]
  unfold stepsV
  refine ⟨fun h2 => by rw [if_neg h2]; exact ⟨none, rfl, Ap.nil.more h1⟩, fun h2 => ?_⟩
  rw [if_pos h2]
  obtain ⟨hk, hal, hall⟩ := grid_ok h2
  have h4 : n ≤ 4 := by have := (allV_len hal).2.1; simp [dimsOf] at this; omega
  have hbig := (steps_are inv l (fun a ha => (hall a ha).1) l 0 rfl).2
  generalize hG : stepsGo inv 0 l = G
  have hG' : stepsGo inv ((0 : Nat) : Int) l = G := hG
  rw [hG'] at hbig
  refine wp_loop (fun st S' m => ∃ (j : Nat) (sa : Option Addr) (q : Nat) (dn : List Stp), st = [.slice sa q q, vI j] ∧ j ≤ n ∧ m = n - j ∧ Ap S1 none S' sa q 96 5 (dn.flatMap eStp) ∧
    dn ++ stepsGo inv j (l.drop j) = G) ?_ n _ _ ⟨0, none, 0, [], rfl, by omega, by omega, .nil, by simpa using hG'⟩
  rintro st S' m ⟨j, sa, q, dn, rfl, hj, rfl, ho, hd⟩
  have hq := ho.cnt (fun _ => rfl) (by decide)
  simp only [wps]
  refine ⟨fun h3 => ⟨h3, ?_⟩, fun h3 => ?_⟩
  · have hj' : j < l.length := by omega
    obtain ⟨a, rfl, c1, c2⟩ := (h.mono (h1.trans ho.pre)).getAx hj'
    rw [List.drop_eq_getElem_cons hj', stepsGo] at hd
    have hbd : dn.length + (stagesV l[j].N).1.length + 2 ≤ 100000 := by
      have : (dn ++ _).length = _ := congrArg List.length hd
      simp only [List.length_append, List.length_map] at this
      omega
    simp only [wps, c1, c2]
    have fin : ∀ (sa' : Option Addr) (q' : Nat) (S' : St), Ap S1 none S' sa' q' 96 5 ((dn ++ (if l[j].neg = true ∧ inv = false then [tw j] else []) ++ (stagesV l[j].N).1.map (stg j) ++ (if inv = true then [tw j] else [])).flatMap eStp) →
        ∃ n', n' < n - j ∧ ∃ (j_1 : Nat) (sa : Option Addr) (q : Nat) (dn : List Stp), [Value.slice sa' q' q', vI (j + 1)] = [Value.slice sa q q, vI ↑j_1] ∧ j_1 ≤ n ∧ n' = n - j_1 ∧ Ap S1 none S' sa q 96 5 (List.flatMap eStp dn) ∧ dn ++ stepsGo inv ↑j_1 (List.drop j_1 l) = G := by
      intro sa' q' S' hap
      refine ⟨n - (j + 1), by omega, j + 1, sa', q', _, by simp, by omega, rfl, hap, ?_⟩
      rw [← hd, show ((j : Int) + 1) = ((j + 1 : Nat) : Int) by omega]
      simp only [List.append_assoc]
    have hm := ho.more (List.prefix_append S' [.cells [vI l[j].N, vB l[j].neg] 111 none])
    refine ⟨fun h6 => ⟨fun h7 => ?_, fun h7 => ?_⟩, fun h6 => ?_⟩
    · refine wp_push (bt := 40) hm.start rfl (by omega) (by omega) rfl ?_
      intro b' S3 h8
      have h9 := hm.trans h8
      have e9 : dn.flatMap eStp ++ [vI (j : Int), vB true, vI 0, vI 0, vI 0] = (dn ++ [tw j]).flatMap eStp := by simp [eStp, tw]
      rw [e9] at h9
      refine rsteps_tail h9 (h8.cells get_new) ⟨by omega, by omega⟩ (by simp; omega) ?_
      intro sa' q' S' hap
      exact fin sa' q' S' (by rw [if_pos ⟨h7, h6⟩]; exact hap)
    · refine rsteps_tail hm get_new ⟨by omega, by omega⟩ (by omega) ?_
      intro sa' q' S' hap
      exact fin sa' q' S' (by rw [if_neg (by simp [h7]), List.append_nil]; exact hap)
    · refine rsteps_tail hm get_new ⟨by omega, by omega⟩ (by omega) ?_
      intro sa' q' S' hap
      exact fin sa' q' S' (by rw [if_neg (by simp [h6]), List.append_nil]; exact hap)
  · rw [List.drop_eq_nil_of_le (by omega), stepsGo, List.append_nil] at hd
    subst hd
    rw [← hq]
    exact ⟨sa, rfl, (Ap.nil.more h1).trans ho⟩
end Go.AM
set_option linter.unusedVariables false
set_option linter.unusedSimpArgs false
namespace Go.AM
open Go Go.Proofs.YtcilfgedcnehfaaGreatDoor
theorem rmake_w {p : Int} {S : St} {axes : Option Addr} {n c : Nat} {l : List Ax} (h : Ar S axes n 2 eAx l) (hl : n ≤ 8796093022208) (inv : Bool) :
    Sp (g_r17_Make [vU p, .slice axes n c, vB inv]) S fun v S' => ∃ a, v = vT [vA [vI (makeV p l inv).1.N, vI (makeV p l inv).1.T, vI (makeV p l inv).1.W, .slice a (makeV p l inv).1.st.length (makeV p l inv).1.st.length], vI (makeV p l inv).2] ∧
      Ar S' a (makeV p l inv).1.st.length 5 eStp (makeV p l inv).1.st := by
  unfold Sp
  have hn := h.1
  rw [g_r17_Make_eq]
  simp only [wps]
  refine (rsteps_w (h.mono (List.prefix_append _ _)) hl inv).mono ?_
  rintro _ S1 ⟨a, rfl, hap⟩
  have h1 := hap.pre
  have h0 := pre_of_add h1
  have hb := pre_get h1 get_new
  have har := hap.ar (f := eStp) (fun _ => rfl) (by decide)
  unfold makeV
  unfold stepsV at hap har ⊢
  by_cases h2 : gridV p l = 0
  · simp only [if_pos h2] at hap har ⊢
    obtain ⟨hk, hal, hall⟩ := grid_ok h2
    have h4 : n ≤ 4 := by have := (allV_len hal).2.1; simp [dimsOf] at this; omega
    obtain ⟨hst, hsl⟩ := steps_are inv l (fun a ha => (hall a ha).1) l 0 rfl
    simp only [wps]
    refine (r07dims_w (h.mono h0) hl).mono ?_
    rintro _ S2 ⟨a2, rfl, hd⟩
    have h5 := hd.pre
    have hd := hd.ar (f := eI) (fun _ => rfl) (by decide)
    simp only [wps, (r05all_w hd).wp, hal]
    have hN : (allV (dimsOf l)).1 = nV l := rfl
    rw [hN]
    generalize hG : stepsGo inv 0 l = G at hap har ⊢
    have hst : ∀ s ∈ G, IsStep l s := by rw [← hG]; exact hst
    have hsl : G.length ≤ l.length * 4098 := by rw [← hG]; exact hsl
    refine wp_loop (fun st S' m => ∃ (j : Nat) (t : Int), st = [vI t, vI j] ∧ j ≤ G.length ∧ m = G.length - j ∧ S2 <+: S' ∧ 0 ≤ t ∧ t ≤ 4096 ∧
      mkGo p l inv 0 G = mkGo p l inv t (G.drop j)) ?_ G.length _ _ ⟨0, 0, rfl, by omega, by omega, List.prefix_rfl, by omega, by omega, by simp⟩
    rintro st S' m ⟨j, t, rfl, hj, rfl, hp, ht0, ht1, hg⟩
    have h6 := h5.trans hp
    simp only [wps]
    refine ⟨fun h3 => ⟨h3, ?_⟩, fun h3 => ?_⟩
    · have hj' : j < G.length := by omega
      obtain ⟨x, rfl, c1, c2, c3, c4, c5⟩ := (har.mono h6).getStp hj'
      have hs := hst _ (List.getElem_mem hj')
      have hs0 := stepV_ok p l _ h2 hs
      have htl := tab_len inv h2 hs
      simp only [wps, c1, c2, c3, c4, c5]
      refine (rtable_w (h.mono ((h0.trans h6).trans (List.prefix_append _ _))) hl inv G[j]).use ?_
      rintro _ S3 h7 ⟨b, k, rfl, _⟩
      unfold tableV
      simp only [hs0, if_true]
      simp only [wps]
      refine ⟨G.length - (j + 1), by omega, j + 1, _, by rw [wI_ (n := (j : Int) + 1) (by omega) (by omega)]; rfl, by omega, rfl, hp.trans (pre_of_add h7), ?_, ?_, ?_⟩
      · split <;> omega
      · split <;> omega
      · rw [List.drop_eq_getElem_cons hj', mkGo] at hg
        exact hg
    · rw [List.drop_eq_nil_of_le (by omega), mkGo] at hg
      have hn1 := nV_range h2
      have hb3 := pre_get h6 hb
      have hlt2 := pre_lt hb3
      rw [wI_ (n := nV l + 6) (by omega) (by omega), wI_ (n := 2 * (nV l + 6)) (by omega) (by omega), wI_ (n := 2 * (nV l + 6) + t) (by omega) (by omega)]
      have g5 : ∀ c t g o, St.cell (S'.set S.length (AObj.cells c t g)) ⟨S.length, o, none⟩ = c[o]? := fun c t g o => cell_blk (List.getElem?_set_self hlt2) o
      simp only [wps, hb3, g5]
      refine ⟨pre_set' (h0.trans h6) (Nat.le_refl _), a, by rw [hg], (har.mono h6).set fun x hx => ?_⟩
      have := hap.new hx
      simp at this; omega
  · simp only [if_neg h2] at hap har ⊢
    have hlt := pre_lt hb
    have g5 : ∀ c t g o, St.cell (S1.set S.length (AObj.cells c t g)) ⟨S.length, o, none⟩ = c[o]? := fun c t g o => cell_blk (List.getElem?_set_self hlt) o
    simp only [wps, hb, g5]
    refine ⟨fun _ => ⟨pre_set' h0 (Nat.le_refl _), none, rfl, .nil⟩, fun h => absurd h h2⟩
theorem rst_w {n t : Int} {S : St} : Gv (g_r22_Step [vI n, vI t]) S (vT [vI (stV n t).1, vI (stV n t).2]) := by
  refine .of ?_
  rw [g_r22_Step_eq]
  unfold stV
  simp only [wps]
  refine ⟨fun h => by rw [if_pos (by omega)], fun h1 => ⟨fun h => by rw [if_pos (by omega)], fun h2 => ⟨fun h => by rw [if_pos (by omega)], fun h3 => ⟨fun h => by rw [if_pos (by omega)], fun h4 => ?_⟩⟩⟩⟩
  rw [if_neg (by omega), wI_ (n := 6 * n) (by omega) (by omega), wI_ (n := 6 * n + 12) (by omega) (by omega), wI_ (n := 2 * t) (by omega) (by omega), wI_ (by omega) (by omega)]
def lensV (p : Int) (l : List Ax) (inv : Bool) (st : List Stp) : List Int := st.map fun s => ((tabV p l inv s).length : Int)
theorem rtables_w {p : Int} {S : St} {axes b : Option Addr} {n c k : Nat} {l : List Ax} {G : List Stp} (h : Ar S axes n 2 eAx l) (hl : n ≤ 8796093022208) (inv : Bool) (hg : gridV p l = 0) (har : Ar S b G.length 5 eStp G) (hst : ∀ s ∈ G, IsStep l s) (hG : G.length ≤ 100000) :
    Sp (g_r22_tables [vU p, .slice axes n c, vB inv, .slice b G.length k]) S fun v S' => ∃ a, v = .slice a G.length G.length ∧ Ar S' a G.length 1 eI (lensV p l inv G) := by
  unfold Sp
  rw [g_r22_tables_eq]
  simp only [wps]
  refine wp_loop (fun st S' m => ∃ (j : Nat) (sa : Option Addr), st = [.slice sa j j, vI j] ∧ j ≤ G.length ∧ m = G.length - j ∧ Ap S none S' sa j 3 1 ((lensV p l inv (G.take j)).flatMap eI)) ?_ G.length _ _
    ⟨0, none, rfl, by omega, by omega, .nil⟩
  rintro st S' m ⟨j, sa, rfl, hj, rfl, hap⟩
  have hp := hap.pre
  simp only [wps]
  refine ⟨fun h3 => ⟨h3, ?_⟩, fun h3 => ?_⟩
  · have hj' : j < G.length := by omega
    obtain ⟨x, rfl, c1, c2, c3, c4, c5⟩ := (har.mono hp).getStp hj'
    have hs := hst _ (List.getElem_mem hj')
    have hs0 := stepV_ok p l _ hg hs
    simp only [wps, c1, c2, c3, c4, c5]
    refine (rtable_w (h.mono (hp.trans (List.prefix_append _ _))) hl inv G[j]).use ?_
    rintro _ S3 h7 ⟨b', k', rfl, _⟩
    unfold tableV
    simp only [hs0, if_true]
    simp only [wps]
    refine wp_push (hap.more (pre_of_add h7)) rfl (by omega) (by omega) rfl ?_
    intro b2 S4 h8
    refine ⟨G.length - (j + 1), by omega, j + 1, _, by rw [wI_ (n := (j : Int) + 1) (by omega) (by omega)]; rfl, by omega, rfl, ?_⟩
    have e : lensV p l inv (G.take (j + 1)) = lensV p l inv (G.take j) ++ [((tabV p l inv G[j]).length : Int)] := by
      unfold lensV; rw [List.take_add_one, List.getElem?_eq_getElem hj', List.map_append]; rfl
    rw [e, List.flatMap_append]
    exact h8
  · obtain rfl : j = G.length := by omega
    rw [List.take_length] at hap
    exact ⟨hp, sa, rfl, hap.ar (fun _ => rfl) (by decide)⟩
end Go.AM
set_option linter.unusedVariables false
set_option linter.unusedSimpArgs false
namespace Go.AM
open Go Go.Proofs.YtcilfgedcnehfaaGreatDoor
theorem take_sum {l : List Int} {j : Nat} (h : j < l.length) : (l.take (j + 1)).sum = (l.take j).sum + l[j] := by
  rw [List.take_add_one, List.getElem?_eq_getElem h, List.sum_append]; simp
theorem rin_w {p : Int} {S : St} {a : Option Addr} {n c : Nat} {l : List Int} (h : Ar S a n 1 eU l) (hl : n ≤ 140737488355328) :
    Gv (g_r01_In [vU p, .slice a n c]) S (vB (inV p l)) := by
  refine .of ?_
  have hn := h.1
  rw [g_r01_In_eq, rknown_w]
  unfold inV
  simp only [wps]
  refine wp_loop (fun st S' m => ∃ j : Nat, st = [vI j] ∧ j ≤ n ∧ m = n - j ∧ S' = S ∧ l.all (fun a => decide (a < p)) = (l.drop j).all (fun a => decide (a < p))) ?_ n _ _ ⟨0, rfl, by omega, by omega, rfl, by simp⟩
  rintro st S' m ⟨j, rfl, hj, rfl, rfl, hall⟩
  simp only [wps]
  refine ⟨fun h3 => ⟨h3, ?_⟩, fun h3 => ?_⟩
  · have hj' : j < l.length := by omega
    obtain ⟨x, rfl, c1⟩ := h.getU hj'
    rw [List.drop_eq_getElem_cons hj', List.all_cons] at hall
    simp only [wps, c1]
    refine ⟨fun h4 => ?_, fun h4 => ?_⟩
    · rw [hall, show decide (l[j] < p) = false by simp; omega]; simp
    · rw [show decide (l[j] < p) = true by simp; omega, Bool.true_and] at hall
      exact ⟨n - (j + 1), by omega, j + 1, by rw [wI_ (by omega) (by omega)]; rfl, by omega, rfl, hall⟩
  · rw [List.drop_eq_nil_of_le (by omega), List.all_nil] at hall
    rw [hall]; simp
theorem rcheck_w {S : St} {q : Req} {a1 a4 a5 : Option Addr} {c1 c4 c5 : Nat} (h : QA S q a1 a4 a5) :
    Sp (g_r17_Check [qv q a1 c1 a4 c4 a5 c5]) S fun v S' => v = vI (checkV q) := by
  unfold Sp
  rw [g_r17_Check_eq]
  simp only [wps]
  have hp : S <+: S ++ [AObj.cells (qc q a1 c1 a4 c4 a5 c5) 26 none] := List.prefix_append _ _
  have hb := get_new (S := S) (o := AObj.cells (qc q a1 c1 a4 c4 a5 c5) 26 none)
  have one : ¬ (1 ≤ q.batch ∧ q.batch ≤ 16 ∧ 0 ≤ q.retry ∧ q.retry ≤ 8 ∧ 0 ≤ q.again ∧ q.again ≤ 8) → checkV q = 1 := fun h => by unfold checkV; rw [if_neg h]
  have bad : ¬ (1 ≤ q.batch ∧ q.batch ≤ 16 ∧ 0 ≤ q.retry ∧ q.retry ≤ 8 ∧ 0 ≤ q.again ∧ q.again ≤ 8) → WP (k_r17_Check_1 S.length (1, [vI 1])) (S ++ [AObj.cells (qc q a1 c1 a4 c4 a5 c5) 26 none]) fun a S' => WP (oneV a) S' fun a S' => S <+: S' ∧ a = vI (checkV q) := fun hx => by
    unfold k_r17_Check_1
    simp only [wps]
    exact ⟨hp, by rw [one hx]⟩
  refine ⟨fun h1 => bad (by omega), fun h1 => ⟨fun h2 => bad (by omega), fun h2 => ⟨fun h3 => bad (by omega), fun h3 => ⟨fun h4 => bad (by omega), fun h4 => ⟨fun h5 => bad (by omega), fun h5 => ⟨fun h6 => bad (by omega), fun h6 => ?_⟩⟩⟩⟩⟩⟩
  unfold k_r17_Check_1
  simp only [wps, cell_blk hb]
  unfold checkV
  rw [if_pos (by omega)]
  refine (rgrid_w (h.ax.mono hp) h.b1).use ?_
  rintro _ S1 g1 rfl
  have hb1 := pre_get g1 hb
  have hq1 := hp.trans g1
  simp only [wps, cell_blk hb1]
  refine ⟨fun h2 => ⟨hq1, by rw [if_neg h2]⟩, fun h2 => ?_⟩
  rw [if_pos h2]
  obtain ⟨hk, hal, hall⟩ := grid_ok h2
  have hn1 := nV_range h2
  refine (r07dims_w (h.ax.mono hq1) h.b1).mono ?_
  rintro _ S2 ⟨b, rfl, hd⟩
  have hq2 := hq1.trans hd.pre
  have hb2 := pre_get hd.pre hb1
  have hd := hd.ar (f := eI) (fun _ => rfl) (by decide)
  have hN : (allV (dimsOf q.axes)).1 = nV q.axes := rfl
  have hnb : nV q.axes * q.batch ≤ 4096 * 16 := Int.mul_le_mul hn1.2 (by omega) (by omega) (by omega)
  have hnb0 : 0 ≤ nV q.axes * q.batch := Int.mul_nonneg (by omega) (by omega)
  simp only [wps, (r05all_w hd).wp, hal, hN, cell_blk hb2, (rin_w (p := q.P) (c := c4) (h.x.mono hq2) h.b2).wp]
  rw [wI_ (n := nV q.axes * q.batch) (by omega) (by omega)]
  refine ⟨fun h5 => ⟨hq2, by rw [if_neg (fun h => h5 h.symm)]⟩, fun h5 => ?_⟩
  rw [if_pos h5.symm]
  refine ⟨fun h7 => ⟨hq2, by rw [if_neg (by simp [h7])]⟩, fun h7 => ?_⟩
  rw [if_pos h7]
  refine ⟨fun h8 => ⟨hq2, by rw [if_neg (by omega)]⟩, fun h8 => ⟨fun h9 => ⟨hq2, by rw [if_neg (by omega)]⟩, fun h9 => ⟨hq2, by rw [if_pos (by omega)]⟩⟩⟩
end Go.AM
set_option linter.unusedVariables false
set_option linter.unusedSimpArgs false
namespace Go.AM
open Go Go.Proofs.YtcilfgedcnehfaaGreatDoor
theorem rmost_w {S : St} {q : Req} {a1 a4 a5 : Option Addr} {c1 c4 c5 : Nat} (h : QA S q a1 a4 a5) :
    Sp (g_r22_Most [qv q a1 c1 a4 c4 a5 c5]) S fun v S' => v = vT [vI (mostV q).1, vI (mostV q).2] := by
  unfold Sp
  rw [g_r22_Most_eq]
  simp only [wps]
  have hp : S <+: S ++ [AObj.cells (qc q a1 c1 a4 c4 a5 c5) 26 none] := List.prefix_append _ _
  refine (rcheck_w (h.mono hp)).use ?_
  rintro _ S1 h1 rfl
  have hb1 := pre_get h1 get_new
  simp only [wps, cell_blk hb1]
  unfold mostV
  refine ⟨fun h2 => ⟨hp.trans h1, by rw [if_neg h2]⟩, fun h2 => ?_⟩
  rw [if_pos h2]
  obtain ⟨q1, q2, q3, q4, q5⟩ := check_ok h2
  obtain ⟨f1, f2, f3, f4⟩ := cost_facts q2
  have hn := nV_range q2
  obtain ⟨hk, hal, hall⟩ := grid_ok q2
  obtain ⟨hst, hsl⟩ := steps_zero (fun a ha => (hall a ha).1) q.inv
  have hcr := costL_range q.inv q2 hst
  refine (rmake_w (h.ax.mono (hp.trans h1)) h.b1 q.inv).use ?_
  rintro _ S2 h3 ⟨a, rfl, har⟩
  have hb2 := pre_get h3 hb1
  have hc : (q.axes.length : Int) = q.axes.length := rfl
  unfold makeV at har ⊢
  simp only [if_pos q2] at har ⊢
  unfold winV
  generalize mkGo q.P q.axes q.inv 0 (stepsGo q.inv 0 q.axes) = T at *
  generalize stepsGo q.inv 0 q.axes = G at *
  have hcl0 : (costL q.P q.axes q.inv G).length = G.length := by simp [costL]
  have elen : ∀ j (hj : j < G.length), (lensV q.P q.axes q.inv G)[j]'(by simp [lensV]; omega) = ((tabV q.P q.axes q.inv G[j]).length : Int) := fun j hj => by simp [lensV]
  have ecost : ∀ j (hj : j < G.length), (costL q.P q.axes q.inv G)[j]'(by omega) = 6 * nV q.axes + 12 + 2 * ((tabV q.P q.axes q.inv G[j]).length : Int) := fun j hj => by simp [costL]
  simp only [wps]
  have hp3 := List.prefix_append S2 [AObj.cells [vI (nV q.axes), vI T, vI (2 * (nV q.axes + 6) + T), Value.slice a G.length G.length] 63 none]
  have hb3 := get_new (S := S2) (o := AObj.cells [vI (nV q.axes), vI T, vI (2 * (nV q.axes + 6) + T), Value.slice a G.length G.length] 63 none)
  have hb4 := get_add (t := [AObj.cells [vI (nV q.axes), vI T, vI (2 * (nV q.axes + 6) + T), Value.slice a G.length G.length] 63 none]) hb2
  generalize S2 ++ [AObj.cells [vI (nV q.axes), vI T, vI (2 * (nV q.axes + 6) + T), Value.slice a G.length G.length] 63 none] = S3 at *
  have hS3 := (hp.trans (h1.trans h3)).trans hp3
  simp only [wps, cell_blk hb4, cell_blk hb3]
  refine (rtables_w (c := c1) (k := G.length) (h.ax.mono hS3) h.b1 q.inv q2 (har.mono hp3) hst (by omega)).use ?_
  rintro _ S4 h5 ⟨b, rfl, hlen⟩
  have hb5 := pre_get h5 hb3
  have hb6 := pre_get h5 hb4
  have hct : ∀ x ∈ costL q.P q.axes q.inv G, 0 ≤ x ∧ x ≤ 100000 := fun x hx => by have := hcr x hx; omega
  have htk : ∀ j, 0 ≤ ((costL q.P q.axes q.inv G).take j).sum ∧ ((costL q.P q.axes q.inv G).take j).sum ≤ 1640000000 := fun j => by
    have h6 := sum_range 100000 ((costL q.P q.axes q.inv G).take j) (fun x hx => hct x (List.mem_of_mem_take hx))
    have h7 : ((costL q.P q.axes q.inv G).take j).length ≤ 16392 := by rw [List.length_take]; omega
    omega
  simp only [wps]
  rw [wI_ (n := 2 * nV q.axes) (by omega) (by omega), wI_ (n := 2 * nV q.axes + 9) (by omega) (by omega)]
  refine wp_loop (fun st S' m => ∃ j : Nat, st = [vI (2 * nV q.axes + 9 + ((costL q.P q.axes q.inv G).take j).sum + 3 * j), vI j] ∧ j ≤ G.length ∧ m = G.length - j ∧ S' = S4) ?_ G.length _ _
    ⟨0, by simp, by omega, by omega, rfl⟩
  rintro st S' m ⟨j, rfl, hj, rfl, rfl⟩
  simp only [wps]
  refine ⟨fun h6 => ⟨h6, ?_⟩, fun h6 => ?_⟩
  · have hj' : j < G.length := by omega
    obtain ⟨x, rfl, d1⟩ := hlen.getI (i := j) (by simp [lensV]; omega)
    have htl := tab_len q.inv q2 (hst _ (List.getElem_mem hj'))
    have hst2 : stV (nV q.axes) ((tabV q.P q.axes q.inv G[j]).length : Int) = (6 * nV q.axes + 12 + 2 * ((tabV q.P q.axes q.inv G[j]).length : Int), 0) := by unfold stV; rw [if_neg (by omega)]
    rw [elen j hj'] at d1
    have hS1 := take_sum (l := costL q.P q.axes q.inv G) (j := j) (by omega)
    have hS2 := htk (j + 1)
    have hS0 := htk j
    rw [ecost j hj'] at hS1
    simp only [wps, d1, cell_blk hb5, rst_w.wp, hst2]
    refine ⟨G.length - (j + 1), by omega, j + 1, ?_, by omega, rfl⟩
    rw [wI_ (n := (j : Int) + 1) (by omega) (by omega), wI_ (n := 6 * nV q.axes + 12 + 2 * ((tabV q.P q.axes q.inv G[j]).length : Int) + 3) (by omega) (by omega), wI_ (by omega) (by omega), hS1]
    have e9 : 2 * nV q.axes + 9 + ((costL q.P q.axes q.inv G).take j).sum + 3 * (j : Int) + (6 * nV q.axes + 12 + 2 * ((tabV q.P q.axes q.inv G[j]).length : Int) + 3) = 2 * nV q.axes + 9 + (((costL q.P q.axes q.inv G).take j).sum + (6 * nV q.axes + 12 + 2 * ((tabV q.P q.axes q.inv G[j]).length : Int))) + 3 * ((j + 1 : Nat) : Int) := by omega
    rw [e9]; rfl
  · obtain rfl : j = G.length := by omega
    rw [List.take_of_length_le (by omega)]
    simp only [wps, cell_blk hb5, cell_blk hb6]
    have eW : 2 * nV q.axes + 9 + (costL q.P q.axes q.inv G).sum + 3 * (G.length : Int) = (costL q.P q.axes q.inv G).sum + 3 * (G.length : Int) + (2 * nV q.axes + 9) := by omega
    rw [eW]
    have hW : 0 ≤ (costL q.P q.axes q.inv G).sum + 3 * (G.length : Int) + (2 * nV q.axes + 9) ∧ (costL q.P q.axes q.inv G).sum + 3 * (G.length : Int) + (2 * nV q.axes + 9) ≤ 2000000000 := by omega
    generalize (costL q.P q.axes q.inv G).sum + 3 * (G.length : Int) + (2 * nV q.axes + 9) = W at hW ⊢
    obtain ⟨m1, m2⟩ := mul_bnd (a := q.retry + 1) (A := 9) (b := W) (B := 2000000000) (by omega) (by omega) hW.1 hW.2
    obtain ⟨m3, m4⟩ := mul_bnd (a := q.batch) (A := 16) (b := q.again + 1) (B := 9) (by omega) (by omega) (by omega) (by omega)
    obtain ⟨m5, m6⟩ := mul_bnd (b := nV q.axes + 6 + (q.retry + 1) * W) (B := 20000000000) m3 m4 (by omega) (by omega)
    rw [wI_ (n := q.again + 1) (by omega) (by omega), wI_ (n := q.retry + 1) (by omega) (by omega), wI_ (n := nV q.axes + 6) (by omega) (by omega), wI_ (n := (q.retry + 1) * W) (by omega) (by omega), wI_ (n := nV q.axes + 6 + (q.retry + 1) * W) (by omega) (by omega), wI_ (n := q.batch * (q.again + 1)) (by omega) (by omega), wI_ (by omega) (by omega)]
    exact ⟨hS3.trans h5, rfl⟩
end Go.AM
set_option linter.unusedVariables false
set_option linter.unusedSimpArgs false
namespace Go.AM
open Go Go.Proofs.YtcilfgedcnehfaaGreatDoor
def winsV (q : Req) : Int × Int := if checkV q = 0 then (1 + (q.retry + 1) * (((stepsGo q.inv 0 q.axes).length : Int) + 1), 0) else (0, checkV q)
theorem wins_w {S : St} {q : Req} {a1 a4 a5 : Option Addr} {c1 c4 c5 : Nat} (h : QA S q a1 a4 a5) :
    Sp (g_trial_Windows [qv q a1 c1 a4 c4 a5 c5]) S fun v S' => v = vT [vI (winsV q).1, vI (winsV q).2] := by
  unfold Sp
  rw [g_trial_Windows_eq]
  simp only [wps]
  have hp : S <+: S ++ [AObj.cells (qc q a1 c1 a4 c4 a5 c5) 26 none] := List.prefix_append _ _
  refine (check_w (c1 := c1) (c4 := c4) (c5 := c5) (h.mono hp)).use ?_
  rintro _ S1 h1 rfl
  have hb1 := pre_get h1 get_new
  simp only [wps, cell_blk hb1]
  unfold winsV
  refine ⟨fun hc => by rw [if_neg hc]; exact ⟨hp.trans h1, rfl⟩, fun hc => ?_⟩
  rw [if_pos hc]
  obtain ⟨q1, q2, _⟩ := check_ok hc
  obtain ⟨f1, f2, f3, f4⟩ := cost_facts q2
  refine (steps_w (h.ax.mono (hp.trans h1)) h.b1 q.inv).mono ?_
  rintro _ S2 ⟨a, rfl, hap⟩
  have hb2 := pre_get hap.pre hb1
  have hs : stepsV q.P q.axes q.inv = (stepsGo q.inv 0 q.axes, 0) := by unfold stepsV; rw [if_pos q2]
  rw [hs]
  simp only [wps, cell_blk hb2]
  refine ⟨hp.trans (h1.trans hap.pre), ?_⟩
  obtain ⟨m1, m2⟩ := mul_bnd (a := q.retry + 1) (A := 9) (b := ((stepsGo q.inv 0 q.axes).length : Int) + 1) (B := 16393) (by omega) (by omega) (by omega) (by omega)
  rw [wI_ (n := q.retry + 1) (by omega) (by omega), wI_ (n := ((stepsGo q.inv 0 q.axes).length : Int) + 1) (by omega) (by omega), wI_ (n := (q.retry + 1) * (((stepsGo q.inv 0 q.axes).length : Int) + 1)) (by omega) (by omega), wI_ (by omega) (by omega)]
end Go.AM
set_option linter.unusedVariables false
set_option linter.unusedSimpArgs false
namespace Go.AM
open Go Go.Proofs.YtcilfgedcnehfaaGreatDoor
end Go.AM
set_option linter.unusedVariables false
set_option linter.unusedSimpArgs false
namespace Go.AM
open Go Go.Proofs.YtcilfgedcnehfaaGreatDoor
theorem rwins_w {S : St} {q : Req} {a1 a4 a5 : Option Addr} {c1 c4 c5 : Nat} (h : QA S q a1 a4 a5) :
    Sp (g_r20_Windows [qv q a1 c1 a4 c4 a5 c5]) S fun v S' => v = vT [vI (winsV q).1, vI (winsV q).2] := by
  unfold Sp
  rw [g_r20_Windows_eq]
  simp only [wps]
  have hp : S <+: S ++ [AObj.cells (qc q a1 c1 a4 c4 a5 c5) 26 none] := List.prefix_append _ _
  refine (rcheck_w (c1 := c1) (c4 := c4) (c5 := c5) (h.mono hp)).use ?_
  rintro _ S1 h1 rfl
  have hb1 := pre_get h1 get_new
  simp only [wps, cell_blk hb1]
  unfold winsV
  refine ⟨fun hc => by rw [if_neg hc]; exact ⟨hp.trans h1, rfl⟩, fun hc => ?_⟩
  rw [if_pos hc]
  obtain ⟨q1, q2, _⟩ := check_ok hc
  obtain ⟨f1, f2, f3, f4⟩ := cost_facts q2
  refine (rsteps_w (h.ax.mono (hp.trans h1)) h.b1 q.inv).mono ?_
  rintro _ S2 ⟨a, rfl, hap⟩
  have hb2 := pre_get hap.pre hb1
  have hs : stepsV q.P q.axes q.inv = (stepsGo q.inv 0 q.axes, 0) := by unfold stepsV; rw [if_pos q2]
  rw [hs]
  simp only [wps, cell_blk hb2]
  refine ⟨hp.trans (h1.trans hap.pre), ?_⟩
  obtain ⟨m1, m2⟩ := mul_bnd (a := q.retry + 1) (A := 9) (b := ((stepsGo q.inv 0 q.axes).length : Int) + 1) (B := 16393) (by omega) (by omega) (by omega) (by omega)
  rw [wI_ (n := q.retry + 1) (by omega) (by omega), wI_ (n := ((stepsGo q.inv 0 q.axes).length : Int) + 1) (by omega) (by omega), wI_ (n := (q.retry + 1) * (((stepsGo q.inv 0 q.axes).length : Int) + 1)) (by omega) (by omega), wI_ (by omega) (by omega)]
end Go.AM
set_option linter.unusedVariables false
set_option linter.unusedSimpArgs false
namespace Go.AM
open Go Go.Proofs.YtcilfgedcnehfaaGreatDoor
theorem Ar.getRc {S : St} {p : Option Addr} {n : Nat} {l : List Rc} (h : Ar S p n 6 Rc.cells l) {i : Nat} (hi : i < l.length) :
    ∃ a, p = some a ∧ S.cell (a.add (i * 6)) = some (vI l[i].it) ∧ S.cell ((a.add (i * 6)).add 1) = some (vI l[i].tr) ∧ S.cell ((a.add (i * 6)).add 2) = some (vI l[i].wi) ∧
      S.cell ((a.add (i * 6)).add 3) = some (vI l[i].ad) ∧ S.cell ((a.add (i * 6)).add 4) = some (vU l[i].ba) ∧ S.cell ((a.add (i * 6)).add 5) = some (vU l[i].go) := by
  obtain ⟨a, h1, h2⟩ := h.2 i hi
  exact ⟨a, h1, by have := h2 0 _ rfl; rwa [add_zero_] at this, h2 1 _ rfl, h2 2 _ rfl, h2 3 _ rfl, h2 4 _ rfl, h2 5 _ rfl⟩
def didP (r : Rc) (x : Ev) : Bool := decide (x.wi = r.wi ∨ x.wi + 1 = r.wi) && decide (x.it = r.it) && decide (x.tr = r.tr) && decide (x.ad = r.ad) && decide (x.ma = bits .xor .u64 r.ba r.go)
theorem match11_w {S : St} {x : Ev} {r : Rc} {b : Nat} {t : TypeId} (hb : S[b]? = some (.cells r.cells t none)) (hx : i64r x.wi) (hr : i64r r.wi) :
    Sp (g_audit_Match_1_1 [x.val, .pointer (some ⟨b, 0, none⟩)]) S fun v _ => v = vB (didP r x) := by
  unfold Sp
  rw [g_audit_Match_1_1_eq]
  have hp : S <+: S ++ [AObj.cells [vI x.it, vI x.tr, vI x.wi, vI x.ti, vI x.ad, vU x.ma] 46 none] := List.prefix_append _ _
  have g0 := pre_get hp hb
  have key : ∀ late : Bool, late = decide (x.wi = r.wi ∨ x.wi + 1 = r.wi) → WP (k_audit_Match_1_1_1 (some ⟨b, 0, none⟩) S.length (0, [vB late])) (S ++ [AObj.cells [vI x.it, vI x.tr, vI x.wi, vI x.ti, vI x.ad, vU x.ma] 46 none]) fun q S' => WP (oneV q) S' fun v S' => S <+: S' ∧ v = vB (didP r x) := by
    intro late hl
    unfold k_audit_Match_1_1_1 didP
    rw [← hl]
    simp only [wps, cell_blk g0, Rc.cells, xor_term, Nat.reduceAdd]
    refine ⟨fun h0 => ⟨fun h1 => ⟨fun h2 => ⟨fun h3 => ⟨hp, ?_⟩, fun h3 => ⟨hp, ?_⟩⟩, fun h2 => ⟨hp, ?_⟩⟩, fun h1 => ⟨hp, ?_⟩⟩, fun h0 => ⟨hp, ?_⟩⟩
    · simp only [h0, h1, h2, h3, decide_true, Bool.true_and]
      have e : (x.ma == bits .xor .u64 r.ba r.go) = decide (x.ma = bits .xor .u64 r.ba r.go) := by rw [Bool.eq_iff_iff]; simp
      rw [e]
    · simp [h3]
    · simp [h2]
    · simp [h1]
    · simp [h0]
  simp only [wps, cell_blk g0, Rc.cells]
  refine ⟨fun h1 => key true (by simp [h1]), fun h1 => ⟨fun h2 => ?_, fun h2 => key false ?_⟩⟩
  · refine key _ ?_
    unfold i64r at hx hr
    rw [wI_ (by omega) (by omega)]
    simp only [h1, false_or]
    by_cases h : x.wi + 1 = r.wi <;> simp [h]
  · symm
    rw [decide_eq_false_iff_not]
    omega
theorem any_idx {α : Type} {l : List α} {f : α → Bool} {j : Nat} (hj : j < l.length) (h : f l[j] = true) : l.any f = true := List.any_eq_true.2 ⟨l[j], List.getElem_mem hj, h⟩
theorem any_false {α : Type} {l : List α} {f : α → Bool} (h : ∀ j (hj : j < l.length), f l[j] = false) : l.any f = false := by
  rw [List.any_eq_false]
  intro x hx
  obtain ⟨j, hj, rfl⟩ := List.mem_iff_getElem.1 hx
  simp [h j hj]
theorem containsE_w {S : St} {C : FuncId → List Value → M Value} {fv : Value} {f : Ev → Bool} {p : Option Addr} {n c : Nat} {l : List Ev} (h : Ar S p n 6 Ev.cells l) (hn : n ≤ 2000)
    (hC : ∀ S1 (x : Ev), x ∈ l → S <+: S1 → Sp (callV C fv [x.val]) S1 fun v _ => v = vB (f x)) :
    Sp (g_slices_ContainsFunc_api_Event_api_Event C [.slice p n c, fv]) S fun v _ => v = vB (l.any f) := by
  have hl := h.1
  unfold Sp
  rw [g_slices_ContainsFunc_api_Event_api_Event_eq, g_slices_IndexFunc_api_Event_api_Event_eq]
  simp only [wps]
  refine wp_loop (fun st S' m => ∃ j : Nat, st = [vI j] ∧ j ≤ n ∧ m = n - j ∧ S <+: S' ∧ ∀ i (hi : i < l.length), i < j → f l[i] = false) ?_ n _ _ ⟨0, rfl, by omega, rfl, List.prefix_rfl, fun i hi h => by omega⟩
  rintro st S1 m ⟨j, rfl, hj, rfl, h1, hf⟩
  simp only [wps]
  refine ⟨fun h3 => ⟨h3, ?_⟩, fun h3 => ?_⟩
  · have hj' : j < l.length := by omega
    obtain ⟨a, rfl, d0, d1, d2, d3, d4, d5⟩ := (h.mono h1).getEv hj'
    simp only [wps, d0, d1, d2, d3, d4, d5]
    refine (hC S1 l[j] (List.getElem_mem hj') h1).use ?_
    rintro _ S2 h2 rfl
    simp only [wps]
    rw [wI_ (n := (j : Int) + 1) (by omega) (by omega)]
    refine ⟨fun hq => ⟨h1.trans h2, ?_⟩, fun hq => ⟨n - (j + 1), by omega, j + 1, rfl, by omega, rfl, h1.trans h2, fun i hi hij => ?_⟩⟩
    · rw [any_idx hj' hq]; simp
    · rcases Nat.lt_or_ge i j with h' | h'
      · exact hf i hi h'
      · have : i = j := by omega
        subst this; exact hq
  · rw [any_false fun i hi => hf i hi (by omega)]
    exact ⟨h1, by simp⟩
theorem containsR_w {S : St} {C : FuncId → List Value → M Value} {fv : Value} {f : Rc → Bool} {p : Option Addr} {n c : Nat} {l : List Rc} (h : Ar S p n 6 Rc.cells l) (hn : n ≤ 100000)
    (hC : ∀ S1 (x : Rc), x ∈ l → S <+: S1 → Sp (callV C fv [x.val]) S1 fun v _ => v = vB (f x)) :
    Sp (g_slices_ContainsFunc_api_Record_api_Record C [.slice p n c, fv]) S fun v _ => v = vB (l.any f) := by
  have hl := h.1
  unfold Sp
  rw [g_slices_ContainsFunc_api_Record_api_Record_eq, g_slices_IndexFunc_api_Record_api_Record_eq]
  simp only [wps]
  refine wp_loop (fun st S' m => ∃ j : Nat, st = [vI j] ∧ j ≤ n ∧ m = n - j ∧ S <+: S' ∧ ∀ i (hi : i < l.length), i < j → f l[i] = false) ?_ n _ _ ⟨0, rfl, by omega, rfl, List.prefix_rfl, fun i hi h => by omega⟩
  rintro st S1 m ⟨j, rfl, hj, rfl, h1, hf⟩
  simp only [wps]
  refine ⟨fun h3 => ⟨h3, ?_⟩, fun h3 => ?_⟩
  · have hj' : j < l.length := by omega
    obtain ⟨a, rfl, d0, d1, d2, d3, d4, d5⟩ := (h.mono h1).getRc hj'
    simp only [wps, d0, d1, d2, d3, d4, d5]
    refine (hC S1 l[j] (List.getElem_mem hj') h1).use ?_
    rintro _ S2 h2 rfl
    simp only [wps]
    rw [wI_ (n := (j : Int) + 1) (by omega) (by omega)]
    refine ⟨fun hq => ⟨h1.trans h2, ?_⟩, fun hq => ⟨n - (j + 1), by omega, j + 1, rfl, by omega, rfl, h1.trans h2, fun i hi hij => ?_⟩⟩
    · rw [any_idx hj' hq]; simp
    · rcases Nat.lt_or_ge i j with h' | h'
      · exact hf i hi h'
      · have : i = j := by omega
        subst this; exact hq
  · rw [any_false fun i hi => hf i hi (by omega)]
    exact ⟨h1, by simp⟩
theorem not_any_not {α : Type} (l : List α) (f : α → Bool) : (!l.any fun x => !f x) = l.all f := by
  induction l with
  | nil => rfl
  | cons a l ih => rw [List.any_cons, List.all_cons, ← ih]; cases f a <;> simp
theorem allR_w {S : St} {C : FuncId → List Value → M Value} {k : Nat} {fs cs : List Value} {f : Rc → Bool} {p : Option Addr} {n c : Nat} {l : List Rc} (h : Ar S p n 6 Rc.cells l) (hn : n ≤ 100000) (hk : ((53 : Nat) == k) = false)
    (hC : ∀ S1 (x : Rc), x ∈ l → S <+: S1 → Sp (callV C (.func (.func k) ⟨fs⟩ ⟨cs⟩) [x.val]) S1 fun v _ => v = vB (f x)) :
    Sp (g_audit_all_api_Record C [.slice p n c, .func (.func k) ⟨fs⟩ ⟨cs⟩]) S fun v _ => v = vB (l.all f) := by
  unfold Sp
  rw [g_audit_all_api_Record_eq]
  have e0 : cellsA (aevP [(1, Value.func (.func k) ⟨fs⟩ ⟨cs⟩)] (Operand.tmp 1)) = some [Value.func (.func k) ⟨fs⟩ ⟨cs⟩] := rfl
  rw [e0]
  have hp := List.prefix_append S [AObj.cells [Value.func (.func k) ⟨fs⟩ ⟨cs⟩] 57 none]
  simp only [wps]
  refine (containsR_w (c := c) (f := fun x => !f x) (h.mono hp) hn ?_).use ?_
  · intro S1 x hx h1
    have hb := pre_get h1 get_new
    simp only [wps, beq_self_eq_true]
    unfold Sp
    rw [g_audit_all_api_Record_1_eq]
    have hp2 : S1 <+: S1 ++ [AObj.cells [vI x.it, vI x.tr, vI x.wi, vI x.ad, vU x.ba, vU x.go] 51 none] := List.prefix_append _ _
    have hb2 := pre_get hp2 hb
    simp only [wps, cell_blk hb2]
    refine (hC _ x hx (hp.trans (h1.trans hp2))).use ?_
    rintro _ S2 h2 rfl
    simp only [wps]
    exact hp2.trans h2
  · rintro _ S1 h1 rfl
    simp only [wps]
    refine ⟨hp.trans h1, ?_⟩
    congr 1
    exact not_any_not l f
def matchV (l : List Ev) (rs : List Rc) : Bool × Int := if 1024 < l.length ∨ 65536 < rs.length then (false, 1) else (rs.all (fun r => l.any (didP r)) && decide (rs.length ≤ l.length), 0)
theorem match_w {S : St} {p r : Option Addr} {n c m d : Nat} {l : List Ev} {rs : List Rc} (h : Ar S p n 6 Ev.cells l) (k : Ar S r m 6 Rc.cells rs) (hl : ∀ x ∈ l, i64r x.wi) (hr : ∀ x ∈ rs, i64r x.wi) :
    Sp (g_audit_Match [.slice p n c, .slice r m d]) S fun v _ => v = vT [vB (matchV l rs).1, vI (matchV l rs).2] := by
  have hln := h.1
  have hrm := k.1
  unfold Sp matchV
  rw [g_audit_Match_eq]
  have hp := List.prefix_append S [AObj.cells [Value.slice p n c] 27 none]
  have hb := get_new (S := S) (o := AObj.cells [Value.slice p n c] 27 none)
  simp only [wps, chk10_w.wp]
  refine And.intro (fun h1 => ?_) (fun h1 => And.intro (fun h2 => ?_) (fun h2 => ?_))
  · have : 1024 < n := by
      rcases Nat.lt_or_ge 1024 n with h' | h'
      · exact h'
      · rw [if_neg (by omega)] at h1; exact absurd rfl h1
    rw [if_pos (.inl (by omega))]
    exact ⟨hp, rfl⟩
  · rw [if_pos (.inr (by omega))]
    exact ⟨hp, rfl⟩
  · have : ¬ 1024 < n := fun h' => by rw [if_pos h'] at h1; exact absurd h1 (by decide)
    rw [if_neg (by omega)]
    refine (allR_w (c := d) (f := fun r => l.any (didP r)) (k.mono hp) (by omega) rfl ?_).use ?_
    · intro S1 x hx h3
      simp only [wps, beq_self_eq_true]
      unfold Sp
      rw [g_audit_Match_1_eq]
      have hp4 : S1 <+: S1 ++ [AObj.cells [vI x.it, vI x.tr, vI x.wi, vI x.ad, vU x.ba, vU x.go] 51 none] := List.prefix_append _ _
      have hb1 := pre_get (h3.trans hp4) hb
      have hb4 := get_new (S := S1) (o := AObj.cells x.cells 51 none)
      simp only [wps, cell_blk hb1]
      refine (containsE_w (c := c) (f := didP x) (h.mono (hp.trans (h3.trans hp4))) (by omega) ?_).use ?_
      · intro S5 y hy h5
        simp only [wps, beq_self_eq_true]
        exact match11_w (pre_get h5 hb4) (hl y hy) (hr x hx)
      · rintro _ S6 h6 rfl
        simp only [wps]
        exact hp4.trans h6
    · rintro _ S2 h4 rfl
      have hb2 := pre_get h4 hb
      simp only [wps, cell_blk hb2]
      refine ⟨fun h5 => ⟨hp.trans h4, ?_⟩, fun h5 => ⟨hp.trans h4, ?_⟩⟩
      · rw [h5, Bool.true_and, hln, hrm]; simp
      · rw [h5, Bool.false_and]
end Go.AM
set_option linter.unusedVariables false
set_option linter.unusedSimpArgs false
namespace Go.AM
open Go Go.Proofs.YtcilfgedcnehfaaGreatDoor
structure Fa where
  it : Int
  tr : Int
structure Sli where
  it : Int
  tr : Int
  wi : Int
  st : Int
abbrev Fa.cells (x : Fa) : List Value := [vI x.it, vI x.tr]
abbrev Sli.cells (x : Sli) : List Value := [vI x.it, vI x.tr, vI x.wi, vI x.st]
theorem Ar.getFa {S : St} {p : Option Addr} {n : Nat} {l : List Fa} (h : Ar S p n 2 Fa.cells l) {i : Nat} (hi : i < l.length) :
    ∃ a, p = some a ∧ S.cell (a.add (i * 2)) = some (vI l[i].it) ∧ S.cell ((a.add (i * 2)).add 1) = some (vI l[i].tr) := by
  obtain ⟨a, h1, h2⟩ := h.2 i hi
  exact ⟨a, h1, by have := h2 0 _ rfl; rwa [add_zero_] at this, h2 1 _ rfl⟩
theorem Ar.getSli {S : St} {p : Option Addr} {n : Nat} {l : List Sli} (h : Ar S p n 4 Sli.cells l) {i : Nat} (hi : i < l.length) :
    ∃ a, p = some a ∧ S.cell (a.add (i * 4)) = some (vI l[i].it) ∧ S.cell ((a.add (i * 4)).add 1) = some (vI l[i].tr) ∧ S.cell ((a.add (i * 4)).add 2) = some (vI l[i].wi) ∧ S.cell ((a.add (i * 4)).add 3) = some (vI l[i].st) := by
  obtain ⟨a, h1, h2⟩ := h.2 i hi
  exact ⟨a, h1, by have := h2 0 _ rfl; rwa [add_zero_] at this, h2 1 _ rfl, h2 2 _ rfl, h2 3 _ rfl⟩
theorem allS_drop {α : Type} {f : List α → α → Bool} {l : List α} {j : Nat} (hj : j < l.length) : allS f (l.take j) (l.drop j) = (f (l.take j) l[j] && allS f (l.take (j + 1)) (l.drop (j + 1))) := by
  rw [List.drop_eq_getElem_cons hj, allS, List.take_succ_eq_append_getElem hj]
theorem idxF_w {S : St} {Ms : List Nat} {I : List Fa → St → Prop} {C : FuncId → List Value → M Value} {fv : Value} {f : List Fa → Fa → Bool} {p : Option Addr} {n c : Nat} {l : List Fa} (h : Ar S p n 2 Fa.cells l) (hn : n ≤ 100000)
    (hne : l ≠ [] → ∀ x, p = some x → x.block ∉ Ms) (hI : I [] S)
    (hC : ∀ j (hj : j < l.length) S1, Kp Ms S S1 → I (l.take j) S1 → WP (callV C fv [.agg ⟨l[j].cells⟩]) S1 fun v S2 => Kp Ms S1 S2 ∧ v = vB (!f (l.take j) l[j]) ∧ (f (l.take j) l[j] = true → I (l.take (j + 1)) S2)) :
    WP (g_slices_ContainsFunc_api_Fall_api_Fall C [.slice p n c, fv]) S fun v S' => Kp Ms S S' ∧ v = vB (!allS f [] l) ∧ (allS f [] l = true → I l S') := by
  have hl := h.1
  rw [g_slices_ContainsFunc_api_Fall_api_Fall_eq, g_slices_IndexFunc_api_Fall_api_Fall_eq]
  simp only [wps]
  refine wp_loop (fun st S' m => ∃ j : Nat, st = [vI j] ∧ j ≤ n ∧ m = n - j ∧ Kp Ms S S' ∧ I (l.take j) S' ∧ allS f [] l = allS f (l.take j) (l.drop j)) ?_ n _ _ ⟨0, rfl, by omega, rfl, .refl, hI, rfl⟩
  rintro st S1 m ⟨j, rfl, hj, rfl, h1, hi, ha⟩
  simp only [wps]
  refine ⟨fun h3 => ⟨h3, ?_⟩, fun h3 => ?_⟩
  · have hj' : j < l.length := by omega
    obtain ⟨a, rfl, d0, d1⟩ := (h1.ar h hne).getFa hj'
    rw [allS_drop hj'] at ha
    simp only [wps, d0, d1]
    refine (hC j hj' S1 h1 hi).mono ?_
    rintro _ S2 ⟨h2, rfl, h4⟩
    simp only [wps]
    rw [wI_ (n := (j : Int) + 1) (by omega) (by omega)]
    refine ⟨fun hq => ⟨h1.trans h2, ?_, ?_⟩, fun hq => ⟨n - (j + 1), by omega, j + 1, rfl, by omega, rfl, h1.trans h2, h4 (by simpa using hq), ?_⟩⟩
    · have hq : f (l.take j) l[j] = false := by simpa using hq
      rw [ha, hq]; simp
    · have hq : f (l.take j) l[j] = false := by simpa using hq
      rw [ha, hq]; simp
    · have hq : f (l.take j) l[j] = true := by simpa using hq
      rw [ha, hq, Bool.true_and]
  · rw [List.drop_eq_nil_of_le (by omega), allS] at ha
    rw [List.take_of_length_le (by omega)] at hi
    exact ⟨h1, by rw [ha]; simp, fun _ => hi⟩
theorem allF_w {S : St} {Ms : List Nat} {I : List Fa → St → Prop} {C : FuncId → List Value → M Value} {k : Nat} {fs cs : List Value} {f : List Fa → Fa → Bool} {p : Option Addr} {n c : Nat} {l : List Fa} (h : Ar S p n 2 Fa.cells l) (hn : n ≤ 100000) (hk : ((63 : Nat) == k) = false)
    (hne : l ≠ [] → ∀ x, p = some x → x.block ∉ Ms) (hM : ∀ i ∈ Ms, i < S.length) (hI : I [] S) (hgrow : ∀ s S1 S2, S1 <+: S2 → I s S1 → I s S2)
    (hC : ∀ j (hj : j < l.length) S1, Kp Ms S S1 → I (l.take j) S1 → WP (callV C (.func (.func k) ⟨fs⟩ ⟨cs⟩) [.agg ⟨l[j].cells⟩]) S1 fun v S2 => Kp Ms S1 S2 ∧ v = vB (f (l.take j) l[j]) ∧ (f (l.take j) l[j] = true → I (l.take (j + 1)) S2)) :
    WP (g_audit_all_api_Fall C [.slice p n c, .func (.func k) ⟨fs⟩ ⟨cs⟩]) S fun v S' => Kp Ms S S' ∧ v = vB (allS f [] l) ∧ (allS f [] l = true → I l S') := by
  rw [g_audit_all_api_Fall_eq]
  have e0 : cellsA (aevP [(1, Value.func (.func k) ⟨fs⟩ ⟨cs⟩)] (Operand.tmp 1)) = some [Value.func (.func k) ⟨fs⟩ ⟨cs⟩] := rfl
  rw [e0]
  have hp := List.prefix_append S [AObj.cells [Value.func (.func k) ⟨fs⟩ ⟨cs⟩] 70 none]
  have hb0 := get_new (S := S) (o := AObj.cells [Value.func (.func k) ⟨fs⟩ ⟨cs⟩] 70 none)
  have hSM : S.length ∉ Ms := fun h' => by have := hM _ h'; omega
  simp only [wps]
  refine (idxF_w (Ms := Ms) (I := I) (c := c) (f := f) (h.mono hp) hn hne (hgrow _ _ _ hp hI) ?_).mono ?_
  · intro j hj S1 h1 hi
    have hb := h1.get hb0 hSM
    simp only [wps, beq_self_eq_true]
    rw [g_audit_all_api_Fall_1_eq]
    have hp2 : S1 <+: S1 ++ [AObj.cells [vI l[j].it, vI l[j].tr] 69 none] := List.prefix_append _ _
    have hb2 := pre_get hp2 hb
    simp only [wps, cell_blk hb2]
    refine (hC j hj _ ((Kp.of hp).trans (h1.more hp2)) (hgrow _ _ _ hp2 hi)).mono ?_
    rintro _ S2 ⟨h2, rfl, h4⟩
    simp only [wps]
    exact ⟨Kp.pre hp2 h2, h4⟩
  · rintro _ S1 ⟨h1, rfl, h2⟩
    simp only [wps]
    refine ⟨Kp.pre hp h1, ?_, h2⟩
    simp
theorem idxL_w {S : St} {Ms : List Nat} {I : List Sli → St → Prop} {C : FuncId → List Value → M Value} {fv : Value} {f : List Sli → Sli → Bool} {p : Option Addr} {n c : Nat} {l : List Sli} (h : Ar S p n 4 Sli.cells l) (hn : n ≤ 100000)
    (hne : l ≠ [] → ∀ x, p = some x → x.block ∉ Ms) (hI : I [] S)
    (hC : ∀ j (hj : j < l.length) S1, Kp Ms S S1 → I (l.take j) S1 → WP (callV C fv [.agg ⟨l[j].cells⟩]) S1 fun v S2 => Kp Ms S1 S2 ∧ v = vB (!f (l.take j) l[j]) ∧ (f (l.take j) l[j] = true → I (l.take (j + 1)) S2)) :
    WP (g_slices_ContainsFunc_api_Slip_api_Slip C [.slice p n c, fv]) S fun v S' => Kp Ms S S' ∧ v = vB (!allS f [] l) ∧ (allS f [] l = true → I l S') := by
  have hl := h.1
  rw [g_slices_ContainsFunc_api_Slip_api_Slip_eq, g_slices_IndexFunc_api_Slip_api_Slip_eq]
  simp only [wps]
  refine wp_loop (fun st S' m => ∃ j : Nat, st = [vI j] ∧ j ≤ n ∧ m = n - j ∧ Kp Ms S S' ∧ I (l.take j) S' ∧ allS f [] l = allS f (l.take j) (l.drop j)) ?_ n _ _ ⟨0, rfl, by omega, rfl, .refl, hI, rfl⟩
  rintro st S1 m ⟨j, rfl, hj, rfl, h1, hi, ha⟩
  simp only [wps]
  refine ⟨fun h3 => ⟨h3, ?_⟩, fun h3 => ?_⟩
  · have hj' : j < l.length := by omega
    obtain ⟨a, rfl, d0, d1, d2, d3⟩ := (h1.ar h hne).getSli hj'
    rw [allS_drop hj'] at ha
    simp only [wps, d0, d1, d2, d3]
    refine (hC j hj' S1 h1 hi).mono ?_
    rintro _ S2 ⟨h2, rfl, h4⟩
    simp only [wps]
    rw [wI_ (n := (j : Int) + 1) (by omega) (by omega)]
    refine ⟨fun hq => ⟨h1.trans h2, ?_, ?_⟩, fun hq => ⟨n - (j + 1), by omega, j + 1, rfl, by omega, rfl, h1.trans h2, h4 (by simpa using hq), ?_⟩⟩
    · have hq : f (l.take j) l[j] = false := by simpa using hq
      rw [ha, hq]; simp
    · have hq : f (l.take j) l[j] = false := by simpa using hq
      rw [ha, hq]; simp
    · have hq : f (l.take j) l[j] = true := by simpa using hq
      rw [ha, hq, Bool.true_and]
  · rw [List.drop_eq_nil_of_le (by omega), allS] at ha
    rw [List.take_of_length_le (by omega)] at hi
    exact ⟨h1, by rw [ha]; simp, fun _ => hi⟩
theorem allL_w {S : St} {Ms : List Nat} {I : List Sli → St → Prop} {C : FuncId → List Value → M Value} {k : Nat} {fs cs : List Value} {f : List Sli → Sli → Bool} {p : Option Addr} {n c : Nat} {l : List Sli} (h : Ar S p n 4 Sli.cells l) (hn : n ≤ 100000) (hk : ((65 : Nat) == k) = false)
    (hne : l ≠ [] → ∀ x, p = some x → x.block ∉ Ms) (hM : ∀ i ∈ Ms, i < S.length) (hI : I [] S) (hgrow : ∀ s S1 S2, S1 <+: S2 → I s S1 → I s S2)
    (hC : ∀ j (hj : j < l.length) S1, Kp Ms S S1 → I (l.take j) S1 → WP (callV C (.func (.func k) ⟨fs⟩ ⟨cs⟩) [.agg ⟨l[j].cells⟩]) S1 fun v S2 => Kp Ms S1 S2 ∧ v = vB (f (l.take j) l[j]) ∧ (f (l.take j) l[j] = true → I (l.take (j + 1)) S2)) :
    WP (g_audit_all_api_Slip C [.slice p n c, .func (.func k) ⟨fs⟩ ⟨cs⟩]) S fun v S' => Kp Ms S S' ∧ v = vB (allS f [] l) ∧ (allS f [] l = true → I l S') := by
  rw [g_audit_all_api_Slip_eq]
  have e0 : cellsA (aevP [(1, Value.func (.func k) ⟨fs⟩ ⟨cs⟩)] (Operand.tmp 1)) = some [Value.func (.func k) ⟨fs⟩ ⟨cs⟩] := rfl
  rw [e0]
  have hp := List.prefix_append S [AObj.cells [Value.func (.func k) ⟨fs⟩ ⟨cs⟩] 74 none]
  have hb0 := get_new (S := S) (o := AObj.cells [Value.func (.func k) ⟨fs⟩ ⟨cs⟩] 74 none)
  have hSM : S.length ∉ Ms := fun h' => by have := hM _ h'; omega
  simp only [wps]
  refine (idxL_w (Ms := Ms) (I := I) (c := c) (f := f) (h.mono hp) hn hne (hgrow _ _ _ hp hI) ?_).mono ?_
  · intro j hj S1 h1 hi
    have hb := h1.get hb0 hSM
    simp only [wps, beq_self_eq_true]
    rw [g_audit_all_api_Slip_1_eq]
    have hp2 : S1 <+: S1 ++ [AObj.cells [vI l[j].it, vI l[j].tr, vI l[j].wi, vI l[j].st] 73 none] := List.prefix_append _ _
    have hb2 := pre_get hp2 hb
    simp only [wps, cell_blk hb2]
    refine (hC j hj _ ((Kp.of hp).trans (h1.more hp2)) (hgrow _ _ _ hp2 hi)).mono ?_
    rintro _ S2 ⟨h2, rfl, h4⟩
    simp only [wps]
    exact ⟨Kp.pre hp2 h2, h4⟩
  · rintro _ S1 ⟨h1, rfl, h2⟩
    simp only [wps]
    refine ⟨Kp.pre hp h1, ?_, h2⟩
    simp
end Go.AM
set_option linter.unusedVariables false
set_option linter.unusedSimpArgs false
namespace Go.AM
open Go Go.Proofs.YtcilfgedcnehfaaGreatDoor
noncomputable def cnt {α : Type} (e : α → List Value) (s : List α) (k : List Value) : Int := by
  classical exact ((s.countP fun x => decide (e x = k) : Nat) : Int)
theorem cnt_nil {α : Type} (e : α → List Value) (k : List Value) : cnt e [] k = 0 := by unfold cnt; simp
theorem cnt_add {α : Type} (e : α → List Value) (s : List α) (x : α) : cnt e (s ++ [x]) (e x) = cnt e s (e x) + 1 := by unfold cnt; simp
theorem cnt_ne {α : Type} (e : α → List Value) (s : List α) (x : α) (k : List Value) (h : k ≠ e x) : cnt e (s ++ [x]) k = cnt e s k := by
  unfold cnt
  rw [List.countP_append]
  simp [Ne.symm h]
theorem cnt_val {α : Type} {e : α → List Value} {k : List Value} {p : α → Bool} (s : List α) (h : ∀ x, p x = true ↔ e x = k) : cnt e s k = s.countP p := by
  unfold cnt
  congr 1
  apply List.countP_congr
  intro x _
  simp [h x]
theorem cnt_range {α : Type} (e : α → List Value) (s : List α) (k : List Value) : 0 ≤ cnt e s k ∧ cnt e s k ≤ s.length := by
  unfold cnt
  exact ⟨by omega, by have := List.countP_le_length (p := fun x => by classical exact decide (e x = k)) (l := s); exact Int.ofNat_le.2 this⟩
def inB (q : Req) (it tr : Int) : Bool := decide (0 ≤ it ∧ it < q.batch) && decide (0 ≤ tr ∧ tr ≤ q.again)
def winB (wins w : Int) : Bool := decide (1 ≤ w ∧ w < wins)
def Fa.is (it tr : Int) (y : Fa) : Bool := decide (y.it = it ∧ y.tr = tr)
def fallB (q : Req) (s : List Fa) (x : Fa) : Bool := !s.any (Fa.is x.it x.tr) && inB q x.it x.tr
def fixB (q : Req) (wins W : Int) (x : Rc) : Bool := inB q x.it x.tr && winB wins x.wi && decide (0 ≤ x.ad ∧ x.ad < W) && decide (x.ba ≠ x.go)
def Sli.win (x y : Sli) : Bool := decide (y.it = x.it ∧ y.tr = x.tr ∧ y.wi = x.wi)
def Sli.step (x y : Sli) : Bool := decide (y.it = x.it ∧ y.tr = x.tr ∧ y.st = x.st)
def slipB (q : Req) (wins n : Int) (falls : List Fa) (s : List Sli) (x : Sli) : Bool :=
  inB q x.it x.tr && winB wins x.wi && decide (0 ≤ x.st ∧ x.st ≤ n) && !s.any x.win && decide ((s.countP x.step : Int) + 1 ≤ q.retry + if falls.any (Fa.is x.it x.tr) then 1 else 0)
theorem abetween_w {n a b : Int} : g_audit_between [vI n, vI a, vI b] = M.ret (vB (decide (a ≤ n ∧ n ≤ b))) := by
  refine wp_eq fun S => ?_
  rw [g_audit_between_eq]
  simp only [wps]
  refine ⟨fun h => ?_, fun h => ?_⟩
  · simp [h]
  · simp; omega
theorem ain_w {S : St} {q : Req} {a1 a4 a5 : Option Addr} {c1 c4 c5 b0 b1 : Nat} {t0 t1 : TypeId} {wins it tr w : Int} (h0 : S[b0]? = some (.cells (qc q a1 c1 a4 c4 a5 c5) t0 none))
    (h1 : S[b1]? = some (.cells [vI wins] t1 none)) (hq : 1 ≤ q.batch ∧ q.batch ≤ 16) (hw : 0 ≤ wins ∧ wins ≤ 10000000) :
    Sp (g_audit_Bounds_1 [vI it, vI tr, vI w, .pointer (some ⟨b0, 0, none⟩), .pointer (some ⟨b1, 0, none⟩)]) S fun v _ => v = vB (inB q it tr && winB wins w) := by
  unfold Sp
  rw [g_audit_Bounds_1_eq]
  simp only [wps, cell_blk h0, cell_blk h1, abetween_w]
  rw [wI_ (n := q.batch - 1) (by omega) (by omega), wI_ (n := wins - 1) (by omega) (by omega)]
  unfold inB winB
  have e2 : decide (1 ≤ w ∧ w ≤ wins - 1) = decide (1 ≤ w ∧ w < wins) := by congr 1; rw [eq_iff_iff]; omega
  rw [e2]
  refine ⟨fun g1 => ⟨fun g2 => ⟨List.prefix_rfl, ?_⟩, fun g2 => ⟨List.prefix_rfl, ?_⟩⟩, fun g1 => ⟨List.prefix_rfl, ?_⟩⟩
  · rw [decide_eq_true (show 0 ≤ it ∧ it < q.batch by omega), decide_eq_true g2]; rfl
  · rw [decide_eq_false g2]; simp
  · rw [decide_eq_false (show ¬ (0 ≤ it ∧ it < q.batch) by omega)]; rfl
abbrev inC (b0 b1 : Nat) : Value := .func (.func 30) ⟨[]⟩ ⟨[.pointer (some ⟨b0, 0, none⟩), .pointer (some ⟨b1, 0, none⟩)]⟩
theorem once_w {C : FuncId → List Value → M Value} (hC : ∀ a, C (30 : Nat) a = g_audit_Bounds_1 a) {S : St} {q : Req} {a1 a4 a5 : Option Addr} {c1 c4 c5 b0 b1 bi bm r : Nat} {t0 t1 t2 t3 : TypeId} {wins : Int} {s : List Fa} {x : Fa} (h0 : S[b0]? = some (.cells (qc q a1 c1 a4 c4 a5 c5) t0 none))
    (h1 : S[b1]? = some (.cells [vI wins] t1 none)) (h2 : S[bi]? = some (.cells [inC b0 b1] t2 none)) (h3 : S[bm]? = some (.cells [.map (some r)] t3 none)) (hq : 1 ≤ q.batch ∧ q.batch ≤ 16) (hw : 2 ≤ wins ∧ wins ≤ 10000000)
    (hr : b0 ≠ r ∧ b1 ≠ r ∧ bi ≠ r ∧ bm ≠ r) (hc : CM [vI 0, vI 0] S r (cnt Fa.cells s)) (hs : s.length ≤ 100000) :
    WP (g_audit_Bounds_2 C [.agg ⟨x.cells⟩, .pointer (some ⟨bm, 0, none⟩), .pointer (some ⟨bi, 0, none⟩)]) S fun v S' => Kp [r] S S' ∧ v = vB (fallB q s x) ∧ CM [vI 0, vI 0] S' r (cnt Fa.cells (s ++ [x])) := by
  rw [g_audit_Bounds_2_eq]
  have hp : S <+: S ++ [AObj.cells [vI x.it, vI x.tr] 69 none] := List.prefix_append _ _
  have g3 := pre_get hp h3
  have hc1 := hc.pre hp
  have hb := get_new (S := S) (o := AObj.cells [vI x.it, vI x.tr] 69 none)
  have hrl := hc.lt
  have hl : plainL [vI 0, vI 0] [vI x.it, vI x.tr] = true := by simp [plainL]
  simp only [wps, cell_blk g3]
  refine wp_ldM hc1 hl fun _ => ?_
  simp only [wps]
  refine wp_meM hc1 hl fun n S2 k2 c2 => ?_
  simp only [wps]
  refine ⟨wp_ldM c2.cm hl fun _ => ?_, ?_⟩
  · simp only [wps]
  obtain ⟨r1, r2⟩ := cnt_range Fa.cells s x.cells
  rw [wI_ (n := cnt Fa.cells s [vI x.it, vI x.tr] + 1) (by have : cnt Fa.cells s [vI x.it, vI x.tr] = cnt Fa.cells s x.cells := rfl; omega) (by have : cnt Fa.cells s [vI x.it, vI x.tr] = cnt Fa.cells s x.cells := rfl; omega)]
  refine wp_esM (g := cnt Fa.cells (s ++ [x])) c2 hl rfl (cnt_add Fa.cells s x) (fun k hk => cnt_ne Fa.cells s x k hk) fun S3 k3 _ c3 => ?_
  have k4 := k2.trans k3
  have nr : ∀ {b : Nat}, b ≠ r → b ∉ [r] := fun h h' => h (by simpa using h')
  have i0 := k4.get (pre_get hp h0) (nr hr.1)
  have i1 := k4.get (pre_get hp h1) (nr hr.2.1)
  have i2 := k4.get (pre_get hp h2) (nr hr.2.2.1)
  have i3 := k4.get g3 (nr hr.2.2.2)
  have ib := k4.get hb (nr (by omega))
  simp only [wps, cell_blk i3, cell_blk i2, cell_blk ib]
  refine wp_ldM c3 hl fun _ => ?_
  simp only [wps]
  have e1 : cnt Fa.cells (s ++ [x]) [vI x.it, vI x.tr] = cnt Fa.cells s x.cells + 1 := cnt_add Fa.cells s x
  have e2 : cnt Fa.cells s x.cells = s.countP (Fa.is x.it x.tr) := cnt_val s fun y => by simp [Fa.is]
  rw [e1, e2]
  have e3 : s.any (Fa.is x.it x.tr) = decide (0 < s.countP (Fa.is x.it x.tr)) := by
    rw [Bool.eq_iff_iff, decide_eq_true_iff, List.countP_pos_iff, List.any_eq_true]
  unfold fallB
  rw [e3]
  refine ⟨fun h5 => ?_, fun h5 => ⟨Kp.pre hp k4, ?_, c3⟩⟩
  · simp only [wps, cell_blk i2, cell_blk ib, hC]
    refine (ain_w i0 i1 hq (by omega)).use ?_
    rintro _ S4 k5 rfl
    simp only [wps]
    refine ⟨(Kp.pre hp k4).more k5, ?_, c3.pre k5⟩
    rw [show winB wins 1 = true by simp [winB]; omega, Bool.and_true, decide_eq_false (show ¬ 0 < s.countP (Fa.is x.it x.tr) by omega)]; rfl
  · rw [decide_eq_true (show 0 < s.countP (Fa.is x.it x.tr) by omega)]; rfl
theorem fixed_w {C : FuncId → List Value → M Value} (hC : ∀ a, C (30 : Nat) a = g_audit_Bounds_1 a) {S : St} {q : Req} {a1 a4 a5 : Option Addr} {c1 c4 c5 b0 b1 bi bp : Nat} {t0 t1 t2 t3 : TypeId} {wins N T W : Int} {sl : Value} {x : Rc} (h0 : S[b0]? = some (.cells (qc q a1 c1 a4 c4 a5 c5) t0 none))
    (h1 : S[b1]? = some (.cells [vI wins] t1 none)) (h2 : S[bi]? = some (.cells [inC b0 b1] t2 none)) (h3 : S[bp]? = some (.cells [vI N, vI T, vI W, sl] t3 none)) (hq : 1 ≤ q.batch ∧ q.batch ≤ 16) (hw : 2 ≤ wins ∧ wins ≤ 10000000) (hW : 0 ≤ W ∧ W ≤ 10000000) :
    Sp (g_audit_Bounds_3 C [x.val, .pointer (some ⟨bi, 0, none⟩), .pointer (some ⟨bp, 0, none⟩)]) S fun v _ => v = vB (fixB q wins W x) := by
  unfold Sp
  rw [g_audit_Bounds_3_eq]
  have hp : S <+: S ++ [AObj.cells [vI x.it, vI x.tr, vI x.wi, vI x.ad, vU x.ba, vU x.go] 51 none] := List.prefix_append _ _
  have hb := get_new (S := S) (o := AObj.cells [vI x.it, vI x.tr, vI x.wi, vI x.ad, vU x.ba, vU x.go] 51 none)
  simp only [wps, cell_blk (pre_get hp h2), hC]
  refine ⟨fun h => absurd h (by decide), fun _ => ?_⟩
  refine (ain_w (pre_get hp h0) (pre_get hp h1) hq (by omega)).use ?_
  rintro _ S2 k2 rfl
  simp only [wps, cell_blk (pre_get k2 hb), cell_blk (pre_get (hp.trans k2) h3), abetween_w]
  rw [wI_ (n := W - 1) (by omega) (by omega)]
  unfold fixB
  have hh := hp.trans k2
  refine ⟨fun g1 => ⟨fun g2 => ⟨hh, ?_⟩, fun g2 => ⟨hh, ?_⟩⟩, fun g1 => ⟨hh, ?_⟩⟩
  · rw [g1, decide_eq_true (show 0 ≤ x.ad ∧ x.ad < W by omega)]; simp [bne, Bool.beq_eq_decide_eq]
  · rw [g1, decide_eq_false (show ¬ (0 ≤ x.ad ∧ x.ad < W) by omega)]; rfl
  · rw [g1]; rfl
end Go.AM
set_option linter.unusedVariables false
set_option linter.unusedSimpArgs false
namespace Go.AM
open Go Go.Proofs.YtcilfgedcnehfaaGreatDoor
abbrev Sli.wk (x : Sli) : List Value := [vI x.it, vI x.tr, vI x.wi, vI 0]
abbrev Sli.sk (x : Sli) : List Value := [vI x.it, vI x.tr, vI 0, vI x.st]
theorem setA0 {S l : St} {o v : AObj} : List.set (S ++ o :: l) S.length v = S ++ v :: l := by rw [List.set_append_right (h := Nat.le_refl _), Nat.sub_self]; rfl
theorem setA1 {S l : St} {o p v : AObj} : List.set (S ++ o :: p :: l) (S.length + 1) v = S ++ o :: v :: l := by rw [List.set_append_right (h := by omega), Nat.add_sub_cancel_left]; rfl
theorem setA2 {S l : St} {o p r v : AObj} : List.set (S ++ o :: p :: r :: l) (S.length + 2) v = S ++ o :: p :: v :: l := by rw [List.set_append_right (h := by omega), Nat.add_sub_cancel_left]; rfl
theorem getA0 {S l : St} {o : AObj} : (S ++ o :: l)[S.length]? = some o := by rw [List.getElem?_append_right (by omega), Nat.sub_self]; rfl
theorem getA1 {S l : St} {o p : AObj} : (S ++ o :: p :: l)[S.length + 1]? = some p := by rw [List.getElem?_append_right (by omega), Nat.add_sub_cancel_left]; rfl
theorem getA2 {S l : St} {o p r : AObj} : (S ++ o :: p :: r :: l)[S.length + 2]? = some r := by rw [List.getElem?_append_right (by omega), Nat.add_sub_cancel_left]; rfl
set_option maxRecDepth 20000 in
theorem slips_w {C : FuncId → List Value → M Value} (hC : ∀ a, C (30 : Nat) a = g_audit_Bounds_1 a) {S : St} {q : Req} {a1 a4 a5 : Option Addr} {c1 c4 c5 b0 b1 bi bf bs bt bp rf rs rt c : Nat} {t0 t1 t2 t3 t4 t5 t6 : TypeId} {wins N T W : Int} {n : Nat} {a : Option Addr} {falls : List Fa} {s : List Sli} {x : Sli} (h0 : S[b0]? = some (.cells (qc q a1 c1 a4 c4 a5 c5) t0 none))
    (h1 : S[b1]? = some (.cells [vI wins] t1 none)) (h2 : S[bi]? = some (.cells [inC b0 b1] t2 none)) (h3 : S[bf]? = some (.cells [.map (some rf)] t3 none)) (h4 : S[bs]? = some (.cells [.map (some rs)] t4 none)) (h5 : S[bt]? = some (.cells [.map (some rt)] t5 none))
    (h6 : S[bp]? = some (.cells [vI N, vI T, vI W, .slice a n c] t6 none)) (hq : 1 ≤ q.batch ∧ q.batch ≤ 16) (hq2 : 0 ≤ q.retry ∧ q.retry ≤ 8) (hw : 2 ≤ wins ∧ wins ≤ 10000000)
    (hr : ∀ b, b = b0 ∨ b = b1 ∨ b = bi ∨ b = bf ∨ b = bs ∨ b = bt ∨ b = bp ∨ b = rf → b ∉ [rs, rt]) (hne : rs ≠ rt) (hcf : CM [vI 0, vI 0] S rf (cnt Fa.cells falls)) (hcs : CM [vI 0, vI 0, vI 0, vI 0] S rs (cnt Sli.wk s)) (hct : CM [vI 0, vI 0, vI 0, vI 0] S rt (cnt Sli.sk s)) (hs : s.length ≤ 100000) (hfl : falls.length ≤ 100000) :
    WP (g_audit_Bounds_4 C [.agg ⟨x.cells⟩, .pointer (some ⟨bs, 0, none⟩), .pointer (some ⟨bt, 0, none⟩), .pointer (some ⟨b0, 0, none⟩), .pointer (some ⟨bf, 0, none⟩), .pointer (some ⟨bi, 0, none⟩), .pointer (some ⟨bp, 0, none⟩)]) S
      fun v S' => Kp [rs, rt] S S' ∧ v = vB (slipB q wins n falls s x) ∧ CM [vI 0, vI 0, vI 0, vI 0] S' rs (cnt Sli.wk (s ++ [x])) ∧ CM [vI 0, vI 0, vI 0, vI 0] S' rt (cnt Sli.sk (s ++ [x])) := by
  rw [g_audit_Bounds_4_eq]
  simp only [wps, List.append_assoc, List.cons_append, List.nil_append, List.length_append, List.length_cons, List.length_nil, Nat.zero_add, Nat.reduceAdd, setA0, setA1, setA2, getA0, getA1, getA2, cell_blk getA0, cell_blk getA1, cell_blk getA2]
  refine ⟨by omega, ?_⟩
  generalize hT : S ++ [AObj.cells [vI x.it, vI x.tr, vI x.wi, vI x.st] 73 none, AObj.cells [vI x.it, vI x.tr, vI x.wi, vI 0] 73 none, AObj.cells [vI x.it, vI x.tr, vI 0, vI x.st] 73 none] = Y
  have hp : S <+: Y := ⟨_, hT⟩
  have y0 : Y[S.length]? = some (AObj.cells [vI x.it, vI x.tr, vI x.wi, vI x.st] 73 none) := by rw [← hT]; exact getA0
  have y1 : Y[S.length + 1]? = some (AObj.cells [vI x.it, vI x.tr, vI x.wi, vI 0] 73 none) := by rw [← hT]; exact getA1
  have y2 : Y[S.length + 2]? = some (AObj.cells [vI x.it, vI x.tr, vI 0, vI x.st] 73 none) := by rw [← hT]; exact getA2
  have hsl := hcs.lt
  have htl := hct.lt
  have hs1 := hcs.pre hp
  have ht1 := hct.pre hp
  have hf1 := hcf.pre hp
  have z4 := pre_get hp h4
  have lw : plainL [vI 0, vI 0, vI 0, vI 0] x.wk = true := by simp [plainL]
  have ls : plainL [vI 0, vI 0, vI 0, vI 0] x.sk = true := by simp [plainL]
  have lf : plainL [vI 0, vI 0] [vI x.it, vI x.tr] = true := by simp [plainL]
  simp only [wps, cell_blk z4, cell_blk y1]
  refine wp_ldM hs1 lw fun _ => ?_
  simp only [wps]
  refine wp_meM hs1 lw fun n1 Y2 k2 c2 => ?_
  simp only [wps]
  refine ⟨wp_ldM c2.cm lw fun _ => ?_, ?_⟩
  · simp only [wps]
  obtain ⟨r1, r2⟩ := cnt_range Sli.wk s x.wk
  obtain ⟨r3, r4⟩ := cnt_range Sli.sk s x.sk
  rw [wI_ (n := cnt Sli.wk s x.wk + 1) (by omega) (by omega)]
  refine wp_esM (g := cnt Sli.wk (s ++ [x])) c2 lw rfl (cnt_add Sli.wk s x) (fun k hk => cnt_ne Sli.wk s x k hk) fun Y3 k3 _ c3 => ?_
  have k4 := k2.trans k3
  have n1' : ∀ {b : Nat}, b ∉ [rs, rt] → b ∉ [rs] := fun h h' => h (by simp at h' ⊢; exact .inl h')
  have z5 := k4.get (pre_get hp h5) (n1' (hr _ (by simp)))
  have w2 := k4.get y2 (by simp; omega)
  have ht2 : CM [vI 0, vI 0, vI 0, vI 0] Y3 rt (cnt Sli.sk s) := ht1.move (k4.keep _ ht1.lt (by simpa using Ne.symm hne))
  simp only [wps, cell_blk z5, cell_blk w2]
  refine wp_ldM ht2 ls fun _ => ?_
  simp only [wps]
  refine wp_meM ht2 ls fun n2 Y4 k5 c4 => ?_
  simp only [wps]
  refine ⟨wp_ldM c4.cm ls fun _ => ?_, ?_⟩
  · simp only [wps]
  rw [wI_ (n := cnt Sli.sk s x.sk + 1) (by omega) (by omega)]
  refine wp_esM (g := cnt Sli.sk (s ++ [x])) c4 ls rfl (cnt_add Sli.sk s x) (fun k hk => cnt_ne Sli.sk s x k hk) fun Y5 k6 _ c5 => ?_
  have k7 := k5.trans k6
  have kk : Kp [rs, rt] Y Y5 := (k4.mono (by simp)).trans (k7.mono (by simp))
  have cs5 : CM [vI 0, vI 0, vI 0, vI 0] Y5 rs (cnt Sli.wk (s ++ [x])) := c3.move (k7.keep _ c3.lt (by simpa using hne))
  have cf5 : CM [vI 0, vI 0] Y5 rf (cnt Fa.cells falls) := hf1.move (kk.keep _ hf1.lt (hr _ (by simp)))
  have z0 := kk.get (pre_get hp h0) (hr _ (by simp))
  have z1 := kk.get (pre_get hp h1) (hr _ (by simp))
  have z2 := kk.get (pre_get hp h2) (hr _ (by simp))
  have z3 := kk.get (pre_get hp h3) (hr _ (by simp))
  have z4 := kk.get (pre_get hp h4) (hr _ (by simp))
  have z5 := kk.get (pre_get hp h5) (hr _ (by simp))
  have z6 := kk.get (pre_get hp h6) (hr _ (by simp))
  have x0 := kk.get y0 (by simp; omega)
  have x1 := kk.get y1 (by simp; omega)
  have x2 := kk.get y2 (by simp; omega)
  simp only [wps, cell_blk z0, cell_blk z3, cell_blk x0, cell_blk z2]
  refine wp_ldM (l := [vI x.it, vI x.tr]) cf5 lf fun _ => ?_
  simp only [wps, cell_blk z0, cell_blk z3, cell_blk x0, cell_blk z2]
  refine ⟨fun h => absurd h (by decide), fun _ => ?_⟩
  simp only [hC]
  refine (ain_w z0 z1 hq (by omega)).use ?_
  rintro _ Y6 k8 rfl
  have kz := (Kp.pre hp kk).more k8
  have cs6 := cs5.pre k8
  have ct6 := c5.pre k8
  simp only [wps, cell_blk (pre_get k8 x0), cell_blk (pre_get k8 z6), abetween_w]
  have e1 : cnt Sli.wk (s ++ [x]) x.wk = cnt Sli.wk s x.wk + 1 := cnt_add Sli.wk s x
  have e2 : cnt Sli.wk s x.wk = s.countP x.win := cnt_val s fun y => by simp [Sli.win]
  have e3 : cnt Sli.sk (s ++ [x]) x.sk = cnt Sli.sk s x.sk + 1 := cnt_add Sli.sk s x
  have e4 : cnt Sli.sk s x.sk = s.countP x.step := cnt_val s fun y => by simp [Sli.step]
  have e5 : cnt Fa.cells falls [vI x.it, vI x.tr] = falls.countP (Fa.is x.it x.tr) := cnt_val falls fun y => by simp [Fa.is]
  have e6 : s.any x.win = decide (0 < s.countP x.win) := by
    rw [Bool.eq_iff_iff, decide_eq_true_iff, List.countP_pos_iff, List.any_eq_true]
  have e7 : falls.any (Fa.is x.it x.tr) = decide (0 < falls.countP (Fa.is x.it x.tr)) := by
    rw [Bool.eq_iff_iff, decide_eq_true_iff, List.countP_pos_iff, List.any_eq_true]
  rw [e5]
  unfold slipB
  rw [e6, e7]
  refine ⟨fun g1 => ⟨fun g2 => ?_, fun g2 => ⟨kz, ?_, cs6, ct6⟩⟩, fun g1 => ⟨kz, ?_, cs6, ct6⟩⟩
  · simp only [wps, cell_blk (pre_get k8 z4), cell_blk (pre_get k8 x1)]
    refine wp_ldM cs6 lw fun _ => ?_
    rw [e1, e2]
    simp only [wps]
    refine ⟨fun g3 => ?_, fun g3 => ⟨kz, ?_, cs6, ct6⟩⟩
    · simp only [wps, cell_blk (pre_get k8 z5), cell_blk (pre_get k8 x2)]
      refine wp_ldM ct6 ls fun _ => ?_
      rw [e3, e4]
      simp only [wps]
      refine ⟨kz, ?_, cs6, ct6⟩
      rw [g1, decide_eq_true g2, decide_eq_false (show ¬ 0 < s.countP x.win by omega)]
      simp only [cond_false, Bool.true_and, Bool.not_false, decide_eq_true_eq]
      have e8 : (if (1 : Int) < ((falls.countP (Fa.is x.it x.tr) : Nat) : Int) then (1 : Int) else ((falls.countP (Fa.is x.it x.tr) : Nat) : Int)) = if 0 < falls.countP (Fa.is x.it x.tr) then 1 else 0 := by split <;> split <;> omega
      congr 1
      rw [decide_eq_decide]
      rw [e8, wI_ (by split <;> omega) (by split <;> omega)]
    · rw [g1, decide_eq_true g2, decide_eq_true (show 0 < s.countP x.win by omega)]; rfl
  · rw [g1, decide_eq_false g2]; rfl
  · rw [g1]; rfl
end Go.AM
set_option linter.unusedVariables false
set_option linter.unusedSimpArgs false
namespace Go.AM
open Go Go.Proofs.YtcilfgedcnehfaaGreatDoor
structure Rp where
  fixes : List Rc
  slips : List Sli
  falls : List Fa
  ticks : Int
structure RA (S : St) (r : Rp) (b1 b2 b3 : Option Addr) : Prop where
  fx : Ar S b1 r.fixes.length 6 Rc.cells r.fixes
  sl : Ar S b2 r.slips.length 4 Sli.cells r.slips
  fa : Ar S b3 r.falls.length 2 Fa.cells r.falls
theorem RA.mono {S S' : St} {r : Rp} {b1 b2 b3 : Option Addr} (h : RA S r b1 b2 b3) (hs : S <+: S') : RA S' r b1 b2 b3 := ⟨h.fx.mono hs, h.sl.mono hs, h.fa.mono hs⟩
abbrev rc_ (r : Rp) (b1 : Option Addr) (d1 : Nat) (b2 : Option Addr) (d2 : Nat) (b3 : Option Addr) (d3 : Nat) : List Value :=
  [.slice b1 r.fixes.length d1, .slice b2 r.slips.length d2, .slice b3 r.falls.length d3, vI r.ticks]
abbrev rv_ (r : Rp) (b1 : Option Addr) (d1 : Nat) (b2 : Option Addr) (d2 : Nat) (b3 : Option Addr) (d3 : Nat) : Value := .agg ⟨rc_ r b1 d1 b2 d2 b3 d3⟩
def boundsV (q : Req) (r : Rp) : Bool × Int :=
  if checkV q = 0 then
    if 65536 < r.fixes.length ∨ 65536 < r.slips.length ∨ 65536 < r.falls.length then (false, 1)
    else (r.fixes.all (fixB q (winsV q).1 (makeV q.P q.axes q.inv).1.W) && allS (fallB q) [] r.falls && allS (slipB q (winsV q).1 (makeV q.P q.axes q.inv).1.st.length r.falls) [] r.slips && decide (0 ≤ r.ticks ∧ r.ticks ≤ (mostV q).1), 0)
  else (false, checkV q)
theorem getA {S l : St} {i : Nat} : (S ++ l)[S.length + i]? = l[i]? := by rw [List.getElem?_append_right (by omega), Nat.add_sub_cancel_left]
set_option maxRecDepth 20000 in
theorem bounds_w {S : St} {q : Req} {a1 a4 a5 b1 b2 b3 : Option Addr} {c1 c4 c5 d1 d2 d3 : Nat} {r : Rp} (h : QA S q a1 a4 a5) (k : RA S r b1 b2 b3) :
    Sp (g_audit_Bounds [qv q a1 c1 a4 c4 a5 c5, rv_ r b1 d1 b2 d2 b3 d3]) S fun v _ => v = vT [vB (boundsV q r).1, vI (boundsV q r).2] := by
  unfold Sp
  rw [g_audit_Bounds_eq]
  simp only [wps, List.append_assoc, List.cons_append, List.nil_append, List.length_append, List.length_cons, List.length_nil, Nat.zero_add, Nat.reduceAdd, setA0, setA1, getA0, getA1, cell_blk getA0, cell_blk getA1]
  generalize hY : S ++ [AObj.cells (qc q a1 c1 a4 c4 a5 c5) 26 none, AObj.cells (rc_ r b1 d1 b2 d2 b3 d3) 32 none] = Y
  have hp : S <+: Y := ⟨_, hY⟩
  have y0 : Y[S.length]? = some (AObj.cells (qc q a1 c1 a4 c4 a5 c5) 26 none) := by rw [← hY]; exact getA0
  have y1 : Y[S.length + 1]? = some (AObj.cells (rc_ r b1 d1 b2 d2 b3 d3) 32 none) := by rw [← hY]; exact getA1
  refine (wins_w (c1 := c1) (c4 := c4) (c5 := c5) (h.mono hp)).use ?_
  rintro _ S1 k1 rfl
  have z0 := pre_get k1 y0
  have z1 := pre_get k1 y1
  simp only [wps]
  generalize hY1 : S1 ++ [AObj.cells [vI (winsV q).1] 3 none] = Y1
  have p1 : S1 <+: Y1 := ⟨_, hY1⟩
  have w8 : Y1[S1.length]? = some (AObj.cells [vI (winsV q).1] 3 none) := by rw [← hY1]; exact get_new
  have l8 := pre_lt w8
  have z0 := pre_get p1 z0
  have z1 := pre_get p1 z1
  have hp1 := hp.trans (k1.trans p1)
  unfold boundsV
  by_cases hc : ¬ checkV q = 0
  · have e1 : (winsV q).2 = checkV q := by unfold winsV; rw [if_neg hc]
    rw [if_neg hc]
    refine ⟨fun _ => ⟨hp1, by rw [e1]⟩, fun h' => absurd (e1 ▸ h') hc⟩
  rw [Decidable.not_not] at hc
  have e1 : (winsV q).2 = 0 := by unfold winsV; rw [if_pos hc]
  obtain ⟨q1, q2, q3, q4, q5⟩ := check_ok hc
  rw [if_pos hc]
  refine ⟨fun h' => absurd e1 h', fun _ => ?_⟩
  simp only [wps, cell_blk z0, cell_blk z1]
  have mx : ∀ a b : Int, (bif true then if a > b then a else b else if a < b then a else b) = if b < a then a else b := fun a b => by rw [cond_true]
  simp only [mx]
  refine ⟨fun h' => ?_, fun h' => ?_⟩
  · rw [if_pos (by split at h' <;> split at h' <;> omega)]
    exact ⟨hp1, rfl⟩
  have hsz : r.fixes.length ≤ 65536 ∧ r.slips.length ≤ 65536 ∧ r.falls.length ≤ 65536 := by split at h' <;> split at h' <;> omega
  rw [if_neg (by omega)]
  refine (make_w (h.ax.mono hp1) h.b1 q.inv).use ?_
  rintro _ S2 k2 ⟨am, rfl, har⟩
  have e2 : (makeV q.P q.axes q.inv).2 = 0 := by unfold makeV; rw [if_pos q2]
  have z0 := pre_get k2 z0
  have z1 := pre_get k2 z1
  have w8 := pre_get k2 w8
  simp only [wps]
  generalize hW : (makeV q.P q.axes q.inv).1 = PL at har ⊢
  generalize hY2 : S2 ++ [AObj.cells [vI PL.N, vI PL.T, vI PL.W, Value.slice am PL.st.length PL.st.length] 63 none] = Y2
  have p2 : S2 <+: Y2 := ⟨_, hY2⟩
  have w14 : Y2[S2.length]? = some (AObj.cells [vI PL.N, vI PL.T, vI PL.W, Value.slice am PL.st.length PL.st.length] 63 none) := by rw [← hY2]; exact get_new
  have l14 := pre_lt w14
  have z0 := pre_get p2 z0
  have z1 := pre_get p2 z1
  have w8 := pre_get p2 w8
  have hp2 := hp1.trans (k2.trans p2)
  refine ⟨fun h' => absurd e2 h', fun _ => ?_⟩
  simp only [wps, cell_blk z0]
  refine (cmost_w (c1 := c1) (c4 := c4) (c5 := c5) (h.mono hp2)).use ?_
  rintro _ S3 k3 rfl
  have e3 : (mostV q).2 = 0 := by unfold mostV; rw [if_pos hc]
  have z0 := pre_get k3 z0
  have z1 := pre_get k3 z1
  have w8 := pre_get k3 w8
  have w14 := pre_get k3 w14
  have hp3 := hp2.trans k3
  simp only [wps]
  refine ⟨fun h' => absurd e3 h', fun _ => ?_⟩
  simp only [Nat.add_assoc, Nat.reduceAdd]
  generalize hY3 : S3 ++ [AObj.cells [Value.func (Fn.func 30) (ar []) (ar [Value.pointer (some (ad S.length 0)), Value.pointer (some (ad S1.length 0))])] 66 none, AObj.map [] 0, AObj.cells [Value.map (some (S3.length + 1))] 67 none, AObj.map [] 0, AObj.map [] 0, AObj.cells [Value.map (some (S3.length + 3))] 71 none, AObj.cells [Value.map (some (S3.length + 4))] 71 none] = Y3
  have p3 : S3 <+: Y3 := ⟨_, hY3⟩
  have w21 : Y3[S3.length]? = some (AObj.cells [inC S.length S1.length] 66 none) := by rw [← hY3]; exact getA0
  have m22 : Y3[S3.length + 1]? = some (AObj.map [] 0) := by rw [← hY3]; exact getA
  have v23 : Y3[S3.length + 2]? = some (AObj.cells [Value.map (some (S3.length + 1))] 67 none) := by rw [← hY3]; exact getA
  have m24 : Y3[S3.length + 3]? = some (AObj.map [] 0) := by rw [← hY3]; exact getA
  have m25 : Y3[S3.length + 4]? = some (AObj.map [] 0) := by rw [← hY3]; exact getA
  have v26 : Y3[S3.length + 5]? = some (AObj.cells [Value.map (some (S3.length + 3))] 71 none) := by rw [← hY3]; exact getA
  have v27 : Y3[S3.length + 6]? = some (AObj.cells [Value.map (some (S3.length + 4))] 71 none) := by rw [← hY3]; exact getA
  have z0 := pre_get p3 z0
  have z1 := pre_get p3 z1
  have w8 := pre_get p3 w8
  have w14 := pre_get p3 w14
  have hp4 := hp3.trans p3
  have hl3 := hp3.length_le
  have l0 := pre_lt y0
  have l1 := pre_lt y1
  have hwins : 2 ≤ (winsV q).1 ∧ (winsV q).1 ≤ 10000000 := by
    obtain ⟨f1, f2, f3, f4⟩ := cost_facts q2
    unfold winsV
    rw [if_pos hc]
    dsimp only
    obtain ⟨m1, m2⟩ := mul_bnd (a := q.retry + 1) (A := 9) (b := ((stepsGo q.inv 0 q.axes).length : Int) + 1) (B := 16393) (by omega) (by omega) (by omega) (by omega)
    have : 1 ≤ (q.retry + 1) * (((stepsGo q.inv 0 q.axes).length : Int) + 1) := Int.mul_pos (by omega) (by omega)
    omega
  have hWr : 0 ≤ PL.W ∧ PL.W ≤ 10000000 := by
    have hn := nV_range q2
    obtain ⟨hk, hal, hall⟩ := grid_ok q2
    obtain ⟨hst, hsl⟩ := steps_zero (fun a ha => (hall a ha).1) q.inv
    have := mkGo_range q.inv q2 (stepsGo q.inv 0 q.axes) 0 hst (by omega) (by omega)
    rw [← hW]
    unfold makeV
    rw [if_pos q2]
    dsimp only
    omega
  trace_state
  simp only [wps, cell_blk z1]
  refine (allR_w (c := d1) (f := fixB q (winsV q).1 PL.W) (k.fx.mono hp4) (by omega) rfl ?_).use ?_
  · intro S4 x hx k4
    simp only [wps]
    refine fixed_w (fun _ => rfl) (pre_get k4 z0) (pre_get k4 w8) (pre_get k4 w21) (pre_get k4 w14) (by omega) hwins hWr
  rintro _ S4 k4 rfl
  have z0 := pre_get k4 z0
  have z1 := pre_get k4 z1
  have w8 := pre_get k4 w8
  have w14 := pre_get k4 w14
  have w21 := pre_get k4 w21
  have m22 := pre_get k4 m22
  have m24 := pre_get k4 m24
  have m25 := pre_get k4 m25
  have v23 := pre_get k4 v23
  have v26 := pre_get k4 v26
  have v27 := pre_get k4 v27
  have hp5 := hp4.trans k4
  have l3 := pre_lt v27
  have n2 := k2.length_le
  have n3 := p2.length_le
  have n4 := k3.length_le
  have n5 := hp.length_le
  have n6 := k1.length_le
  have n7 := p1.length_le
  simp only [wps, cell_blk z1]
  refine ⟨fun g1 => ?_, fun g1 => ⟨hp5, by rw [g1]; rfl⟩⟩
  refine (allF_w (Ms := [S3.length + 1]) (I := fun s S => CM [vI 0, vI 0] S (S3.length + 1) (cnt Fa.cells s)) (c := d3) (f := fallB q) (k.fa.mono hp5) (by omega) rfl (fun hm x hx h' => by have := k.fa.low (fun x => ⟨_, rfl⟩) hm x hx; simp at h'; omega) (by simp; omega) ((CM.new m22).congr (fun l _ => cnt_nil _ _)) (fun s S1 S2 h h' => h'.pre h) ?_).mono ?_
  · intro j hj S5 k5 hi
    simp only [wps]
    refine ⟨fun h => absurd h (by decide), fun _ => ⟨fun h => absurd h (by decide), fun _ => ⟨fun _ => ?_, fun h => absurd h (by decide)⟩⟩⟩
    refine WP.mono (once_w ?_ (k5.get z0 (by simp; omega)) (k5.get w8 (by simp; omega)) (k5.get w21 (by simp)) (k5.get v23 (by simp)) (by omega) hwins (by omega) hi (by simp; omega)) ?_
    · exact fun _ => rfl
    rintro _ S6 ⟨k6, rfl, c6⟩
    exact ⟨k6, rfl, fun _ => by rw [List.take_succ_eq_append_getElem hj]; exact c6⟩
  rintro _ S5 ⟨k5, rfl, hcf⟩
  have hp6 : S <+: S5 := k5.low (L := S3.length) (by simp) hp5 (by omega)
  have z0 := k5.get z0 (by simp; omega)
  have z1 := k5.get z1 (by simp; omega)
  have w8 := k5.get w8 (by simp; omega)
  have w14 := k5.get w14 (by simp; omega)
  have w21 := k5.get w21 (by simp)
  have m24 := k5.get m24 (by simp)
  have m25 := k5.get m25 (by simp)
  have v23 := k5.get v23 (by simp)
  have v26 := k5.get v26 (by simp)
  have v27 := k5.get v27 (by simp)
  have l3 := pre_lt v27
  simp only [wps, cell_blk z1]
  refine ⟨fun g2 => ?_, fun g2 => ⟨hp6, by rw [g1, g2]; rfl⟩⟩
  have hcf := hcf g2
  refine (allL_w (Ms := [S3.length + 3, S3.length + 4]) (I := fun s S => CM [vI 0, vI 0, vI 0, vI 0] S (S3.length + 3) (cnt Sli.wk s) ∧ CM [vI 0, vI 0, vI 0, vI 0] S (S3.length + 4) (cnt Sli.sk s)) (c := d2) (f := slipB q (winsV q).1 PL.st.length r.falls) (k.sl.mono hp6) (by omega) rfl (fun hm x hx h' => by have := k.sl.low (fun x => ⟨_, rfl⟩) hm x hx; simp at h'; omega) (by simp; omega) ⟨(CM.new m24).congr (fun l _ => cnt_nil _ _), (CM.new m25).congr (fun l _ => cnt_nil _ _)⟩ (fun s S1 S2 h h' => ⟨h'.1.pre h, h'.2.pre h⟩) ?_).mono ?_
  · rintro j hj S6 k6 ⟨hi1, hi2⟩
    simp only [wps]
    refine ⟨fun _ => ?_, fun h => absurd h (by decide)⟩
    refine WP.mono (slips_w ?_ (k6.get z0 (by simp; omega)) (k6.get w8 (by simp; omega)) (k6.get w21 (by simp)) (k6.get v23 (by simp)) (k6.get v26 (by simp)) (k6.get v27 (by simp)) (k6.get w14 (by simp; omega)) (by omega) (by omega) hwins (by simp; omega) (by omega) (hcf.move (k6.keep _ hcf.lt (by simp))) hi1 hi2 (by simp; omega) (by omega)) ?_
    · exact fun _ => rfl
    rintro _ S7 ⟨k7, rfl, c7, c8⟩
    exact ⟨k7, rfl, fun _ => by rw [List.take_succ_eq_append_getElem hj]; exact ⟨c7, c8⟩⟩
  rintro _ S6 ⟨k6, rfl, -⟩
  have hp7 : S <+: S6 := k6.low (L := S3.length) (by simp) hp6 (by omega)
  have z1 := k6.get z1 (by simp; omega)
  simp only [wps, cell_blk z1, abetween_w]
  refine ⟨fun g3 => ⟨hp7, by rw [g1, g2, g3]; rfl⟩, fun g3 => ⟨hp7, by rw [g1, g2, g3]; rfl⟩⟩
end Go.AM
set_option linter.unusedVariables false
set_option linter.unusedSimpArgs false
namespace Go.AM
open Go Go.Proofs.YtcilfgedcnehfaaGreatDoor
theorem late_iff {a b : Int} (ha : i64r a) (hb : i64r b) (h : a < b) : (wU (wU b - wU a) = 1) ↔ a + 1 = b := by
  unfold i64r at ha hb
  simp only [IntKind.wrap, IntKind.bits, IntKind.signed]
  constructor <;> intro h' <;> simp at h' ⊢ <;> omega
theorem rdid_w {S : St} {x : Ev} {r : Rc} (hx : i64r x.wi) (hr : i64r r.wi) :
    Sp (g_r24_did [x.val, r.val]) S fun v _ => v = vB (didP r x) := by
  unfold Sp
  rw [g_r24_did_eq]
  simp only [wps, List.append_assoc, List.cons_append, List.nil_append, List.length_append, List.length_cons, List.length_nil, Nat.zero_add, Nat.reduceAdd, getA0, getA1, cell_blk getA0, cell_blk getA1, xor_term]
  have hp : S <+: S ++ [AObj.cells [vI x.it, vI x.tr, vI x.wi, vI x.ti, vI x.ad, vU x.ma] 46 none, AObj.cells [vI r.it, vI r.tr, vI r.wi, vI r.ad, vU r.ba, vU r.go] 51 none] := List.prefix_append _ _
  have bad : didP r x = false → WP (k_r24_did_1 S.length (S.length + 1) (1, [vB false])) (S ++ [AObj.cells [vI x.it, vI x.tr, vI x.wi, vI x.ti, vI x.ad, vU x.ma] 46 none, AObj.cells [vI r.it, vI r.tr, vI r.wi, vI r.ad, vU r.ba, vU r.go] 51 none]) fun a S' => WP (oneV a) S' fun a S' => S <+: S' ∧ a = vB (didP r x) := by
    intro hb
    unfold k_r24_did_1
    simp only [wps]
    exact ⟨hp, by rw [hb]⟩
  refine ⟨fun h1 => bad (by simp [didP, h1]), fun h1 => ⟨fun h2 => bad (by simp [didP, h2]), fun h2 => ⟨fun h3 => bad (by simp [didP, h3]), fun h3 => ⟨fun h4 => bad (by simp [didP, h4]), fun h4 => ?_⟩⟩⟩⟩
  have e : didP r x = decide (x.wi = r.wi ∨ x.wi + 1 = r.wi) := by unfold didP; rw [decide_eq_true h1, decide_eq_true h2, decide_eq_true h3, decide_eq_true h4]; simp
  rw [e]
  unfold k_r24_did_1
  simp only [wps, getA0, getA1, cell_blk getA0, cell_blk getA1]
  refine ⟨fun h5 => ⟨hp, by simp [h5]⟩, fun h5 => ⟨fun h6 => ⟨hp, ?_⟩, fun h6 => ⟨hp, by rw [decide_eq_false (by omega)]⟩⟩⟩
  have := late_iff hx hr h6
  congr 1
  rw [Bool.eq_iff_iff, decide_eq_true_iff]
  simp only [h5, false_or, beq_iff_eq]
  exact this
theorem rmatch_w {S : St} {p r : Option Addr} {n c m d : Nat} {l : List Ev} {rs : List Rc} (h : Ar S p n 6 Ev.cells l) (k : Ar S r m 6 Rc.cells rs) (hl : ∀ x ∈ l, i64r x.wi) (hr : ∀ x ∈ rs, i64r x.wi) :
    Sp (g_r24_Match [.slice p n c, .slice r m d]) S fun v _ => v = vT [vB (matchV l rs).1, vI (matchV l rs).2] := by
  have hln := h.1
  have hrm := k.1
  unfold Sp matchV
  rw [g_r24_Match_eq]
  simp only [wps, r10chk_w.wp]
  refine And.intro (fun h1 => ?_) (fun h1 => And.intro (fun h2 => ?_) (fun h2 => ?_))
  · have : 1024 < n := by
      rcases Nat.lt_or_ge 1024 n with h' | h'
      · exact h'
      · rw [if_neg (by omega)] at h1; exact absurd rfl h1
    rw [if_pos (.inl (by omega))]
    exact ⟨List.prefix_rfl, rfl⟩
  · rw [if_pos (.inr (by omega))]
    exact ⟨List.prefix_rfl, rfl⟩
  · have : ¬ 1024 < n := fun h' => by rw [if_pos h'] at h1; exact absurd h1 (by decide)
    rw [if_neg (by omega)]
    refine wp_loop (fun st S' q => ∃ j : Nat, st = [vI j] ∧ j ≤ m ∧ q = m - j ∧ S <+: S' ∧ (rs.all fun r => l.any (didP r)) = (rs.drop j).all fun r => l.any (didP r)) ?_ m _ _ ⟨0, rfl, by omega, rfl, List.prefix_rfl, rfl⟩
    rintro st S1 q ⟨j, rfl, hj, rfl, h3, ha⟩
    simp only [wps]
    refine ⟨fun h4 => ⟨h4, ?_⟩, fun h4 => ?_⟩
    · have hj' : j < rs.length := by omega
      obtain ⟨a, rfl, d0, d1, d2, d3, d4, d5⟩ := (k.mono h3).getRc hj'
      rw [List.drop_eq_getElem_cons hj', List.all_cons] at ha
      simp only [wps, d0, d1, d2, d3, d4, d5]
      have hp1 : S1 <+: S1 ++ [AObj.cells [vI rs[j].it, vI rs[j].tr, vI rs[j].wi, vI rs[j].ad, vU rs[j].ba, vU rs[j].go] 51 none] := List.prefix_append _ _
      have hb1 := get_new (S := S1) (o := AObj.cells [vI rs[j].it, vI rs[j].tr, vI rs[j].wi, vI rs[j].ad, vU rs[j].ba, vU rs[j].go] 51 none)
      refine wp_loop (fun st S' q => ∃ i : Nat, st = [vB ((l.take i).any (didP rs[j])), vI i] ∧ i ≤ n ∧ q = n - i ∧ S1 ++ [AObj.cells [vI rs[j].it, vI rs[j].tr, vI rs[j].wi, vI rs[j].ad, vU rs[j].ba, vU rs[j].go] 51 none] <+: S') ?_ n _ _ ⟨0, rfl, by omega, rfl, List.prefix_rfl⟩
      rintro st S2 q ⟨i, rfl, hi, rfl, h5⟩
      simp only [wps]
      refine ⟨fun h6 => ⟨h6, ?_⟩, fun h6 => ?_⟩
      · have hi' : i < l.length := by omega
        obtain ⟨b, rfl, c0, c1, c2, c3, c4, c5⟩ := (h.mono (h3.trans (hp1.trans h5))).getEv hi'
        have hp2 : S2 <+: S2 ++ [AObj.cells [vI l[i].it, vI l[i].tr, vI l[i].wi, vI l[i].ti, vI l[i].ad, vU l[i].ma] 46 none] := List.prefix_append _ _
        have hb2 := pre_get hp2 (pre_get h5 hb1)
        have hb3 := get_new (S := S2) (o := AObj.cells [vI l[i].it, vI l[i].tr, vI l[i].wi, vI l[i].ti, vI l[i].ad, vU l[i].ma] 46 none)
        have e : (l.take (i + 1)).any (didP rs[j]) = ((l.take i).any (didP rs[j]) || didP rs[j] l[i]) := by
          rw [List.take_succ_eq_append_getElem hi', List.any_append]; simp
        simp only [wps, c0, c1, c2, c3, c4, c5]
        rw [wI_ (n := (i : Int) + 1) (by omega) (by omega)]
        refine ⟨fun h7 => ⟨n - (i + 1), by omega, i + 1, by rw [e, h7]; rfl, by omega, rfl, h5.trans hp2⟩, fun h7 => ?_⟩
        simp only [wps, cell_blk hb2, cell_blk hb3]
        refine (rdid_w (hl _ (List.getElem_mem hi')) (hr _ (List.getElem_mem hj'))).use ?_
        rintro _ S3 h8 rfl
        simp only [wps]
        exact ⟨n - (i + 1), by omega, i + 1, by rw [e, h7, Bool.false_or]; rfl, by omega, rfl, h5.trans (hp2.trans h8)⟩
      · rw [List.take_of_length_le (by omega)]
        rw [wI_ (n := (j : Int) + 1) (by omega) (by omega)]
        refine ⟨fun h7 => ⟨h3.trans (hp1.trans h5), ?_⟩, fun h7 => ⟨m - (j + 1), by omega, j + 1, rfl, by omega, rfl, h3.trans (hp1.trans h5), ?_⟩⟩
        · have h7 : l.any (didP rs[j]) = false := by simpa using h7
          rw [ha, h7]; rfl
        · have h7 : l.any (didP rs[j]) = true := by simpa using h7
          rw [ha, h7, Bool.true_and]
    · rw [List.drop_eq_nil_of_le (by omega), List.all_nil] at ha
      refine ⟨h3, ?_⟩
      rw [ha, Bool.true_and, hln, hrm]; simp
end Go.AM
set_option linter.unusedVariables false
set_option linter.unusedSimpArgs false
namespace Go.AM
open Go Go.Proofs.YtcilfgedcnehfaaGreatDoor
theorem arin_w {S : St} {q : Req} {a1 a4 a5 : Option Addr} {c1 c4 c5 : Nat} {it tr : Int} : Sp (g_r24_in [qv q a1 c1 a4 c4 a5 c5, vI it, vI tr]) S fun v _ => v = vB (inB q it tr) := by
  unfold Sp
  rw [g_r24_in_eq]
  have hp := List.prefix_append S [AObj.cells (qc q a1 c1 a4 c4 a5 c5) 26 none]
  simp only [wps]
  unfold inB
  refine ⟨fun h1 => ⟨fun h2 => ⟨fun h3 => ⟨hp, ?_⟩, fun h3 => ⟨hp, ?_⟩⟩, fun h2 => ⟨hp, ?_⟩⟩, fun h1 => ⟨hp, ?_⟩⟩
  · rw [decide_eq_true (show 0 ≤ it ∧ it < q.batch from ⟨h1, h2⟩)]; simp [h3]
  · rw [decide_eq_false (show ¬ (0 ≤ tr ∧ tr ≤ q.again) by omega)]; simp
  · rw [decide_eq_false (show ¬ (0 ≤ it ∧ it < q.batch) by omega)]; simp
  · rw [decide_eq_false (show ¬ (0 ≤ it ∧ it < q.batch) by omega)]; simp
theorem slip1_w {S : St} {q : Req} {a1 a4 a5 b1 b2 b3 : Option Addr} {c1 c4 c5 d1 d2 d3 bq br bx : Nat} {t0 t1 t2 : TypeId} {r : Rp} {x : Sli} {j : Nat} (hj : j ≤ r.slips.length) (h0 : S[bq]? = some (.cells (qc q a1 c1 a4 c4 a5 c5) t0 none))
    (h1 : S[br]? = some (.cells (rc_ r b1 d1 b2 d2 b3 d3) t1 none)) (h2 : S[bx]? = some (.cells x.cells t2 none)) (k : RA S r b1 b2 b3) (hq : 0 ≤ q.retry ∧ q.retry ≤ 8) (hs : r.slips.length ≤ 65536 ∧ r.falls.length ≤ 65536) (hd : r.slips.length ≤ d2) :
    Sp (k_r24_Bounds_1 bq br j bx (0, [])) S fun v _ => v = if (!(r.slips.take j).any x.win && decide (((r.slips.take j).countP x.step : Int) + 1 ≤ q.retry + if r.falls.any (Fa.is x.it x.tr) then 1 else 0)) = true then (0, []) else (1, [vB false, vI 0]) := by
  unfold Sp k_r24_Bounds_1
  simp only [wps, cell_blk h1]
  refine cut_ar k.sl (fun _ => rfl) (by decide) (by omega) (by omega) (by omega) hd ?_
  intro a kk hk har
  have hN : (j : Int).toNat - (0 : Int).toNat = j := by simp
  have hT : (r.slips.drop (0 : Int).toNat).take ((j : Int).toNat - (0 : Int).toNat) = r.slips.take j := by simp
  rw [hT] at har
  rw [hN] at har ⊢
  simp only [wps]
  generalize hL : r.slips.take j = L at har ⊢
  have hLl : L.length = j := by rw [← hL, List.length_take]; omega
  refine wp_loop (fun st S' m => ∃ i : Nat, st = [vI (1 + ((L.take i).countP x.step : Int)), vI i] ∧ i ≤ j ∧ m = j - i ∧ S <+: S' ∧ (L.take i).any x.win = false) ?_ j _ _ ⟨0, rfl, by omega, rfl, List.prefix_rfl, rfl⟩
  rintro st S1 m ⟨i, rfl, hi, rfl, h3, hw⟩
  simp only [wps]
  refine ⟨fun h4 => ⟨h4, ?_⟩, fun h4 => ?_⟩
  · have hi' : i < L.length := by omega
    obtain ⟨b, rfl, e0, e1, e2, e3⟩ := (har.mono h3).getSli hi'
    have hp2 : S1 <+: S1 ++ [AObj.cells [vI L[i].it, vI L[i].tr, vI L[i].wi, vI L[i].st] 73 none] := List.prefix_append _ _
    have hb2 := pre_get (h3.trans hp2) h2
    have hb3 := get_new (S := S1) (o := AObj.cells [vI L[i].it, vI L[i].tr, vI L[i].wi, vI L[i].st] 73 none)
    have ec : (L.take (i + 1)).countP x.step = (L.take i).countP x.step + if x.step L[i] = true then 1 else 0 := by
      rw [List.take_succ_eq_append_getElem hi', List.countP_append, List.countP_singleton]
    have ea : (L.take (i + 1)).any x.win = x.win L[i] := by
      rw [List.take_succ_eq_append_getElem hi', List.any_append, hw]; simp
    have hcl := List.countP_le_length (p := x.step) (l := L.take i)
    rw [List.length_take] at hcl
    simp only [wps, e0, e1, e2, e3, cell_blk hb2, cell_blk hb3]
    rw [wI_ (n := (i : Int) + 1) (by omega) (by omega), wI_ (n := 1 + ((L.take i).countP x.step : Int) + 1) (by omega) (by omega)]
    have go : ∀ t : Int, t = 1 + ((L.take (i + 1)).countP x.step : Int) → x.win L[i] = false → ∃ n' < j - i, ∃ i' : Nat, [vI t, vI ((i : Int) + 1)] = [vI (1 + ((L.take i').countP x.step : Int)), vI i'] ∧ i' ≤ j ∧ n' = j - i' ∧ S <+: S1 ++ [AObj.cells [vI L[i].it, vI L[i].tr, vI L[i].wi, vI L[i].st] 73 none] ∧ (L.take i').any x.win = false :=
      fun t ht hwn => ⟨j - (i + 1), by omega, i + 1, by rw [ht]; rfl, by omega, rfl, h3.trans hp2, by rw [ea]; exact hwn⟩
    have same : x.step L[i] = false → (1 + ((L.take i).countP x.step : Int)) = 1 + ((L.take (i + 1)).countP x.step : Int) := fun h => by rw [ec, h]; simp
    refine ⟨fun g1 => go _ (same (decide_eq_false (by omega))) (decide_eq_false (by omega)), fun g1 => ⟨fun g2 => go _ (same (decide_eq_false (by omega))) (decide_eq_false (by omega)), fun g2 => ⟨fun g3 => ⟨h3.trans hp2, ?_⟩, fun g3 => ⟨fun g4 => go _ ?_ (decide_eq_false (by omega)), fun g4 => go _ (same (decide_eq_false (by omega))) (decide_eq_false (by omega))⟩⟩⟩⟩
    · have : L.any x.win = true := List.any_eq_true.2 ⟨L[i], List.getElem_mem hi', decide_eq_true ⟨g1.symm, g2.symm, g3.symm⟩⟩
      rw [this]; rfl
    · have : x.step L[i] = true := decide_eq_true ⟨g1.symm, g2.symm, g4.symm⟩
      rw [ec, this]; simp; omega
  · rw [List.take_of_length_le (by omega)] at hw ⊢
    have hcl := List.countP_le_length (p := x.step) (l := L)
    have z1 := pre_get h3 h1
    have z2 := pre_get h3 h2
    have z0 := pre_get h3 h0
    simp only [wps, cell_blk z1]
    generalize hc : L.countP x.step = c at hcl ⊢
    refine wp_loop (fun st S' m => ∃ i : Nat, st = [vB ((r.falls.take i).any (Fa.is x.it x.tr)), vI i] ∧ i ≤ r.falls.length ∧ m = r.falls.length - i ∧ S1 <+: S') ?_ r.falls.length _ _ ⟨0, rfl, by omega, rfl, List.prefix_rfl⟩
    rintro st S2 m ⟨e, rfl, he, rfl, h5⟩
    simp only [wps]
    refine ⟨fun h6 => ⟨h6, ?_⟩, fun h6 => ?_⟩
    · have he' : e < r.falls.length := by omega
      obtain ⟨b, hb, e0, e1⟩ := (k.fa.mono (h3.trans h5)).getFa he'
      rw [hb]
      have hp2 : S2 <+: S2 ++ [AObj.cells [vI r.falls[e].it, vI r.falls[e].tr] 69 none] := List.prefix_append _ _
      have hb2 := pre_get (h5.trans hp2) z2
      have hb3 := get_new (S := S2) (o := AObj.cells [vI r.falls[e].it, vI r.falls[e].tr] 69 none)
      have ea : (r.falls.take (e + 1)).any (Fa.is x.it x.tr) = ((r.falls.take e).any (Fa.is x.it x.tr) || Fa.is x.it x.tr r.falls[e]) := by
        rw [List.take_succ_eq_append_getElem he', List.any_append]; simp
      simp only [wps, e0, e1]
      rw [wI_ (n := (e : Int) + 1) (by omega) (by omega)]
      have go : ∀ v : Bool, v = (r.falls.take (e + 1)).any (Fa.is x.it x.tr) → ∃ n' < r.falls.length - e, ∃ i : Nat, [vB v, vI ((e : Int) + 1)] = [vB ((r.falls.take i).any (Fa.is x.it x.tr)), vI i] ∧ i ≤ r.falls.length ∧ n' = r.falls.length - i ∧ S1 <+: S2 ++ [AObj.cells [vI r.falls[e].it, vI r.falls[e].tr] 69 none] :=
        fun v hv => ⟨r.falls.length - (e + 1), by omega, e + 1, by rw [hv]; rfl, by omega, rfl, h5.trans hp2⟩
      refine ⟨fun g1 => go _ (by rw [ea, g1]; rfl), fun g1 => ?_⟩
      simp only [wps, cell_blk hb2, cell_blk hb3]
      refine ⟨fun g2 => go _ ?_, fun g2 => go _ ?_⟩
      · rw [ea, g1, Bool.false_or]
        unfold Fa.is
        rw [Bool.eq_iff_iff]
        simp [g2]
      · rw [ea, g1, Bool.false_or]
        exact (decide_eq_false (by omega)).symm
    · rw [List.take_of_length_le (by omega)]
      have y0 := pre_get h5 z0
      simp only [wps, cell_blk y0]
      rw [wI_ (n := q.retry + 1) (by omega) (by omega), hw]
      generalize r.falls.any (Fa.is x.it x.tr) = fe
      have hS := h3.trans h5
      refine ⟨fun g1 => ⟨hS, ?_⟩, fun g1 => ⟨fun g2 => ⟨fun g3 => ⟨hS, ?_⟩, fun g3 => ⟨hS, ?_⟩⟩, fun g2 => ⟨hS, ?_⟩⟩⟩
      · rw [if_neg (by cases fe <;> simp <;> omega)]
      · subst g3; rw [if_neg (by simp; omega)]
      · subst g3; rw [if_pos (by simp; omega)]
      · rw [if_pos (by cases fe <;> simp <;> omega)]
theorem eql2 {a b c d : Int} : eqL [vI a, vI b] [vI c, vI d] = Fa.is a b ⟨c, d⟩ := by
  unfold Fa.is
  rw [Bool.eq_iff_iff]
  simp only [eqL, Bool.and_true, Bool.and_eq_true, beq_iff_eq, decide_eq_true_eq]
  constructor <;> rintro ⟨h1, h2⟩ <;> exact ⟨h1.symm, h2.symm⟩
set_option maxRecDepth 20000 in
theorem rbounds_w {S : St} {q : Req} {a1 a4 a5 b1 b2 b3 : Option Addr} {c1 c4 c5 d1 d2 d3 : Nat} {r : Rp} (h : QA S q a1 a4 a5) (k : RA S r b1 b2 b3) (hd : r.slips.length ≤ d2 ∧ r.falls.length ≤ d3) :
    Sp (g_r24_Bounds [qv q a1 c1 a4 c4 a5 c5, rv_ r b1 d1 b2 d2 b3 d3]) S fun v _ => v = vT [vB (boundsV q r).1, vI (boundsV q r).2] := by
  unfold Sp
  rw [g_r24_Bounds_eq]
  simp only [wps, List.append_assoc, List.cons_append, List.nil_append, List.length_append, List.length_cons, List.length_nil, Nat.zero_add, Nat.reduceAdd, setA0, setA1, getA0, getA1, cell_blk getA0, cell_blk getA1]
  generalize hY : S ++ [AObj.cells (qc q a1 c1 a4 c4 a5 c5) 26 none, AObj.cells (rc_ r b1 d1 b2 d2 b3 d3) 32 none] = Y
  have hp : S <+: Y := ⟨_, hY⟩
  have y0 : Y[S.length]? = some (AObj.cells (qc q a1 c1 a4 c4 a5 c5) 26 none) := by rw [← hY]; exact getA0
  have y1 : Y[S.length + 1]? = some (AObj.cells (rc_ r b1 d1 b2 d2 b3 d3) 32 none) := by rw [← hY]; exact getA1
  refine (rcheck_w (c1 := c1) (c4 := c4) (c5 := c5) (h.mono hp)).use ?_
  rintro _ S1 k1 rfl
  have z0 := pre_get k1 y0
  have z1 := pre_get k1 y1
  have hp1 := hp.trans k1
  unfold boundsV
  by_cases hc : ¬ checkV q = 0
  · rw [if_neg hc]
    simp only [wps]
    refine ⟨fun _ => ?_, fun h' => absurd h' hc⟩
    first | exact hp1 | exact ⟨hp1, rfl⟩
  rw [Decidable.not_not] at hc
  rw [if_pos hc]
  obtain ⟨q1, q2, q3, q4, q5⟩ := check_ok hc
  simp only [wps]
  refine ⟨fun h' => absurd hc h', fun _ => ?_⟩
  simp only [wps, cell_blk z0, cell_blk z1]
  refine ⟨fun h' => ?_, fun h1 => ⟨fun h' => ?_, fun h2 => ⟨fun h' => ?_, fun h3 => ?_⟩⟩⟩
  · rw [if_pos (by omega)]; unfold k_r24_Bounds_2; simp only [wps]; first | exact hp1 | exact ⟨hp1, rfl⟩
  · rw [if_pos (by omega)]; unfold k_r24_Bounds_2; simp only [wps]; first | exact hp1 | exact ⟨hp1, rfl⟩
  · rw [if_pos (by omega)]; unfold k_r24_Bounds_2; simp only [wps]; first | exact hp1 | exact ⟨hp1, rfl⟩
  rw [if_neg (by omega)]
  unfold k_r24_Bounds_2
  simp only [wps, cell_blk z0, cell_blk z1]
  refine (rmake_w (h.ax.mono hp1) h.b1 q.inv).use ?_
  rintro _ S2 k2 ⟨am, rfl, har⟩
  have e2 : (makeV q.P q.axes q.inv).2 = 0 := by unfold makeV; rw [if_pos q2]
  have z0 := pre_get k2 z0
  have z1 := pre_get k2 z1
  simp only [wps]
  generalize hW : (makeV q.P q.axes q.inv).1 = PL at har ⊢
  generalize hY2 : S2 ++ [AObj.cells [vI PL.N, vI PL.T, vI PL.W, Value.slice am PL.st.length PL.st.length] 63 none] = Y2
  have p2 : S2 <+: Y2 := ⟨_, hY2⟩
  have w14 : Y2[S2.length]? = some (AObj.cells [vI PL.N, vI PL.T, vI PL.W, Value.slice am PL.st.length PL.st.length] 63 none) := by rw [← hY2]; exact get_new
  have z0 := pre_get p2 z0
  have z1 := pre_get p2 z1
  have hp2 := hp1.trans (k2.trans p2)
  simp only [wps, cell_blk z0]
  refine (rwins_w (c1 := c1) (c4 := c4) (c5 := c5) (h.mono hp2)).use ?_
  rintro _ S3 k3 rfl
  have z0 := pre_get k3 z0
  have z1 := pre_get k3 z1
  have w14 := pre_get k3 w14
  have hp3 := hp2.trans k3
  simp only [wps, cell_blk z0]
  refine (rmost_w (c1 := c1) (c4 := c4) (c5 := c5) (h.mono hp3)).use ?_
  rintro _ S4 k4 rfl
  have z0 := pre_get k4 z0
  have z1 := pre_get k4 z1
  have w14 := pre_get k4 w14
  have hp4 := hp3.trans k4
  simp only [wps, cell_blk z1]
  generalize hwi : (winsV q).1 = wins
  refine wp_loop (fun st S' m => ∃ j : Nat, st = [vI j] ∧ j ≤ r.fixes.length ∧ m = r.fixes.length - j ∧ S4 <+: S' ∧ (r.fixes.all (fixB q wins PL.W)) = ((r.fixes.drop j).all (fixB q wins PL.W))) ?_ r.fixes.length _ _ ⟨0, rfl, by omega, rfl, List.prefix_rfl, rfl⟩
  rintro st S5 m ⟨j, rfl, hj, rfl, k5, ha⟩
  have z0 := pre_get k5 z0
  have z1 := pre_get k5 z1
  have w14 := pre_get k5 w14
  have hp5 := hp4.trans k5
  simp only [wps]
  refine ⟨fun h6 => ⟨h6, ?_⟩, fun h6 => ?_⟩
  · have hj' : j < r.fixes.length := by omega
    obtain ⟨b, hb, e0, e1, e2, e3, e4, e5⟩ := (k.fx.mono hp5).getRc hj'
    rw [hb]
    rw [List.drop_eq_getElem_cons hj', List.all_cons] at ha
    have hpx : S5 <+: S5 ++ [AObj.cells [vI r.fixes[j].it, vI r.fixes[j].tr, vI r.fixes[j].wi, vI r.fixes[j].ad, vU r.fixes[j].ba, vU r.fixes[j].go] 51 none] := List.prefix_append _ _
    have x0 := get_new (S := S5) (o := AObj.cells [vI r.fixes[j].it, vI r.fixes[j].tr, vI r.fixes[j].wi, vI r.fixes[j].ad, vU r.fixes[j].ba, vU r.fixes[j].go] 51 none)
    simp only [wps, e0, e1, e2, e3, e4, e5, cell_blk (pre_get hpx z0)]
    refine (arin_w (c1 := c1) (c4 := c4) (c5 := c5)).use ?_
    rintro _ S6 k6 rfl
    have hp6 := hp5.trans (hpx.trans k6)
    simp only [wps, cell_blk (pre_get k6 x0), cell_blk (pre_get (hpx.trans k6) w14)]
    rw [wI_ (n := (j : Int) + 1) (by omega) (by omega)]
    have bad : fixB q wins PL.W r.fixes[j] = false → S <+: S6 ∧ vT [vB false, vI 0] = vT [vB (r.fixes.all (fixB q wins PL.W) && allS (fallB q) [] r.falls && allS (slipB q wins PL.st.length r.falls) [] r.slips && decide (0 ≤ r.ticks ∧ r.ticks ≤ (mostV q).1)), vI 0] := fun hf => ⟨hp6, by rw [ha, hf]; rfl⟩
    have good : fixB q wins PL.W r.fixes[j] = true → ∃ n' < r.fixes.length - j, ∃ i : Nat, [vI ((j : Int) + 1)] = [vI i] ∧ i ≤ r.fixes.length ∧ n' = r.fixes.length - i ∧ S4 <+: S6 ∧ (r.fixes.all (fixB q wins PL.W)) = ((r.fixes.drop i).all (fixB q wins PL.W)) :=
      fun hf => ⟨r.fixes.length - (j + 1), by omega, j + 1, rfl, by omega, rfl, k5.trans (hpx.trans k6), by rw [ha, hf, Bool.true_and]⟩
    have n2 : ¬ (1 ≤ r.fixes[j].wi ∧ r.fixes[j].wi < wins) → fixB q wins PL.W r.fixes[j] = false := fun h => by unfold fixB winB; rw [decide_eq_false h]; simp
    have n3 : ¬ (0 ≤ r.fixes[j].ad ∧ r.fixes[j].ad < PL.W) → fixB q wins PL.W r.fixes[j] = false := fun h => by unfold fixB winB; rw [decide_eq_false h]; simp
    refine ⟨fun g1 => bad (by unfold fixB; rw [g1]; rfl), fun g1 => ⟨fun g2 => bad (n2 (by omega)), fun g2 => ⟨fun g3 => bad (n2 (by omega)), fun g3 => ⟨fun g4 => bad (n3 (by omega)), fun g4 => ⟨fun g5 => bad (n3 (by omega)), fun g5 => ⟨fun g6 => bad (by unfold fixB; simp [g6]), fun g6 => good ?_⟩⟩⟩⟩⟩⟩
    unfold fixB winB
    rw [g1, decide_eq_true (show 1 ≤ r.fixes[j].wi ∧ r.fixes[j].wi < wins by omega), decide_eq_true (show 0 ≤ r.fixes[j].ad ∧ r.fixes[j].ad < PL.W by omega), decide_eq_true g6]; rfl
  rw [List.drop_eq_nil_of_le (by omega), List.all_nil] at ha
  rw [ha]
  simp only [Bool.true_and]
  clear ha
  simp only [wps, cell_blk z1]
  refine wp_loop (fun st S' m => ∃ j : Nat, st = [vI j] ∧ j ≤ r.falls.length ∧ m = r.falls.length - j ∧ S5 <+: S' ∧ allS (fallB q) [] r.falls = allS (fallB q) (r.falls.take j) (r.falls.drop j)) ?_ r.falls.length _ _ ⟨0, rfl, by omega, rfl, List.prefix_rfl, rfl⟩
  rintro st S6 m ⟨j, rfl, hj, rfl, k6, ha⟩
  have z0 := pre_get k6 z0
  have z1 := pre_get k6 z1
  have w14 := pre_get k6 w14
  have hp6 := hp5.trans k6
  simp only [wps]
  refine ⟨fun h6 => ⟨h6, ?_⟩, fun h6 => ?_⟩
  · have hj' : j < r.falls.length := by omega
    obtain ⟨b, hb, e0, e1⟩ := (k.fa.mono hp6).getFa hj'
    rw [hb]
    rw [allS_drop hj'] at ha
    have hpx : S6 <+: S6 ++ [AObj.cells [vI r.falls[j].it, vI r.falls[j].tr] 69 none] := List.prefix_append _ _
    have x0 := get_new (S := S6) (o := AObj.cells [vI r.falls[j].it, vI r.falls[j].tr] 69 none)
    simp only [wps, e0, e1, cell_blk (pre_get hpx z0)]
    refine (arin_w (c1 := c1) (c4 := c4) (c5 := c5)).use ?_
    rintro _ S7 k7 rfl
    have hp7 := hp6.trans (hpx.trans k7)
    have z1' := pre_get (hpx.trans k7) z1
    have x0 := pre_get k7 x0
    simp only [wps, cell_blk z1']
    rw [wI_ (n := (j : Int) + 1) (by omega) (by omega)]
    have bad : ∀ {S'}, S7 <+: S' → fallB q (r.falls.take j) r.falls[j] = false → S <+: S' ∧ vT [vB false, vI 0] = vT [vB (allS (fallB q) [] r.falls && allS (slipB q wins PL.st.length r.falls) [] r.slips && decide (0 ≤ r.ticks ∧ r.ticks ≤ (mostV q).1)), vI 0] := fun hs hf => ⟨hp7.trans hs, by rw [ha, hf]; rfl⟩
    refine ⟨fun g1 => bad List.prefix_rfl (by unfold fallB; rw [g1]; simp), fun g1 => ?_⟩
    refine cut_ar (k.fa.mono hp7) (fun _ => rfl) (by decide) (by omega) (by omega) (by omega) hd.2 ?_
    intro a kk hk har
    have hN : (j : Int).toNat - (0 : Int).toNat = j := by simp
    have hT : (r.falls.drop (0 : Int).toNat).take ((j : Int).toNat - (0 : Int).toNat) = r.falls.take j := by simp
    rw [hT] at har
    rw [hN] at har ⊢
    simp only [wps]
    have hLl : (r.falls.take j).length = j := by rw [List.length_take]; omega
    refine wp_loop (fun st S' m => ∃ i : Nat, st = [vI i] ∧ i ≤ j ∧ m = j - i ∧ S7 <+: S' ∧ ((r.falls.take j).take i).any (Fa.is r.falls[j].it r.falls[j].tr) = false) ?_ j _ _ ⟨0, rfl, by omega, rfl, List.prefix_rfl, rfl⟩
    rintro st S8 m ⟨i, rfl, hi, rfl, k8, hw⟩
    simp only [wps]
    refine ⟨fun h7 => ⟨h7, ?_⟩, fun h7 => ?_⟩
    · have hi' : i < (r.falls.take j).length := by omega
      obtain ⟨b', rfl, e0, e1⟩ := (har.mono k8).getFa hi'
      have hp2 : S8 <+: S8 ++ [AObj.cells [vI (r.falls.take j)[i].it, vI (r.falls.take j)[i].tr] 69 none] := List.prefix_append _ _
      have hb2 := pre_get (k8.trans hp2) x0
      have hb3 := get_new (S := S8) (o := AObj.cells [vI (r.falls.take j)[i].it, vI (r.falls.take j)[i].tr] 69 none)
      simp only [wps, e0, e1, cell_blk hb2, cell_blk hb3, eql2]
      rw [wI_ (n := (i : Int) + 1) (by omega) (by omega)]
      have ea : ((r.falls.take j).take (i + 1)).any (Fa.is r.falls[j].it r.falls[j].tr) = Fa.is r.falls[j].it r.falls[j].tr (r.falls.take j)[i] := by
        rw [List.take_succ_eq_append_getElem hi', List.any_append, hw]; simp
      refine ⟨fun g2 => bad (k8.trans hp2) ?_, fun g2 => ⟨j - (i + 1), by omega, i + 1, rfl, by omega, rfl, k8.trans hp2, by rw [ea]; exact g2⟩⟩
      have : (r.falls.take j).any (Fa.is r.falls[j].it r.falls[j].tr) = true := List.any_eq_true.2 ⟨_, List.getElem_mem hi', g2⟩
      unfold fallB
      rw [this]; rfl
    · rw [List.take_of_length_le (by omega)] at hw
      refine ⟨r.falls.length - (j + 1), by omega, j + 1, rfl, by omega, rfl, k6.trans (hpx.trans (k7.trans k8)), ?_⟩
      have : fallB q (r.falls.take j) r.falls[j] = true := by unfold fallB; rw [hw, g1]; rfl
      rw [ha, this, Bool.true_and]
  rw [List.drop_eq_nil_of_le (by omega), allS] at ha
  rw [ha]
  simp only [Bool.true_and]
  clear ha
  simp only [wps, cell_blk z1]
  refine wp_loop (fun st S' m => ∃ j : Nat, st = [vI j] ∧ j ≤ r.slips.length ∧ m = r.slips.length - j ∧ S6 <+: S' ∧ allS (slipB q wins PL.st.length r.falls) [] r.slips = allS (slipB q wins PL.st.length r.falls) (r.slips.take j) (r.slips.drop j)) ?_ r.slips.length _ _ ⟨0, rfl, by omega, rfl, List.prefix_rfl, rfl⟩
  rintro st S7 m ⟨j, rfl, hj, rfl, k7, ha⟩
  have z0 := pre_get k7 z0
  have z1 := pre_get k7 z1
  have w14 := pre_get k7 w14
  have hp7 := hp6.trans k7
  simp only [wps]
  refine ⟨fun h7 => ⟨h7, ?_⟩, fun h7 => ?_⟩
  · have hj' : j < r.slips.length := by omega
    obtain ⟨b, hb, e0, e1, e2, e3⟩ := (k.sl.mono hp7).getSli hj'
    rw [hb]
    rw [allS_drop hj'] at ha
    have hpx : S7 <+: S7 ++ [AObj.cells [vI r.slips[j].it, vI r.slips[j].tr, vI r.slips[j].wi, vI r.slips[j].st] 73 none] := List.prefix_append _ _
    have x0 := get_new (S := S7) (o := AObj.cells [vI r.slips[j].it, vI r.slips[j].tr, vI r.slips[j].wi, vI r.slips[j].st] 73 none)
    simp only [wps, e0, e1, e2, e3, cell_blk (pre_get hpx z0)]
    refine (arin_w (c1 := c1) (c4 := c4) (c5 := c5)).use ?_
    rintro _ S8 k8 rfl
    have hp8 := hp7.trans (hpx.trans k8)
    have z0' := pre_get (hpx.trans k8) z0
    have z1' := pre_get (hpx.trans k8) z1
    have w14' := pre_get (hpx.trans k8) w14
    have x0 := pre_get k8 x0
    simp only [wps, cell_blk x0, cell_blk w14']
    have n2 : ¬ (1 ≤ r.slips[j].wi ∧ r.slips[j].wi < wins) → slipB q wins PL.st.length r.falls (r.slips.take j) r.slips[j] = false := fun h => by unfold slipB winB; rw [decide_eq_false h]; simp
    have n3 : ¬ (0 ≤ r.slips[j].st ∧ r.slips[j].st ≤ (PL.st.length : Int)) → slipB q wins PL.st.length r.falls (r.slips.take j) r.slips[j] = false := fun h => by unfold slipB winB; rw [decide_eq_false h]; simp
    refine ⟨fun g1 => ?_, fun g1 => ⟨fun g2 => ?_, fun g2 => ⟨fun g3 => ?_, fun g3 => ⟨fun g4 => ?_, fun g4 => ⟨fun g5 => ?_, fun g5 => ?_⟩⟩⟩⟩⟩
    · have hf : slipB q wins PL.st.length r.falls (r.slips.take j) r.slips[j] = false := by unfold slipB; rw [g1]; rfl
      unfold k_r24_Bounds_1
      simp only [wps]
      first | exact ⟨hp8, by rw [ha, hf]; rfl⟩ | (rw [ha, hf]; exact ⟨hp8, rfl⟩)
    · have hf : slipB q wins PL.st.length r.falls (r.slips.take j) r.slips[j] = false := n2 (by omega)
      unfold k_r24_Bounds_1
      simp only [wps]
      first | exact ⟨hp8, by rw [ha, hf]; rfl⟩ | (rw [ha, hf]; exact ⟨hp8, rfl⟩)
    · have hf : slipB q wins PL.st.length r.falls (r.slips.take j) r.slips[j] = false := n2 (by omega)
      unfold k_r24_Bounds_1
      simp only [wps]
      first | exact ⟨hp8, by rw [ha, hf]; rfl⟩ | (rw [ha, hf]; exact ⟨hp8, rfl⟩)
    · have hf : slipB q wins PL.st.length r.falls (r.slips.take j) r.slips[j] = false := n3 (by omega)
      unfold k_r24_Bounds_1
      simp only [wps]
      first | exact ⟨hp8, by rw [ha, hf]; rfl⟩ | (rw [ha, hf]; exact ⟨hp8, rfl⟩)
    · have hf : slipB q wins PL.st.length r.falls (r.slips.take j) r.slips[j] = false := n3 (by omega)
      unfold k_r24_Bounds_1
      simp only [wps]
      first | exact ⟨hp8, by rw [ha, hf]; rfl⟩ | (rw [ha, hf]; exact ⟨hp8, rfl⟩)
    refine (slip1_w (x := r.slips[j]) (by omega) z0' z1' x0 (k.mono hp8) (by omega) (by omega) hd.1).use ?_
    rintro _ S9 k9 rfl
    have hp9 := hp8.trans k9
    have e : slipB q wins PL.st.length r.falls (r.slips.take j) r.slips[j] = (!(r.slips.take j).any r.slips[j].win && decide (((r.slips.take j).countP r.slips[j].step : Int) + 1 ≤ q.retry + if r.falls.any (Fa.is r.slips[j].it r.slips[j].tr) then 1 else 0)) := by
      unfold slipB winB
      rw [g1, decide_eq_true (show 1 ≤ r.slips[j].wi ∧ r.slips[j].wi < wins by omega), decide_eq_true (show 0 ≤ r.slips[j].st ∧ r.slips[j].st ≤ (PL.st.length : Int) by omega)]
      simp only [Bool.true_and]
    rw [← e]
    cases hf : slipB q wins PL.st.length r.falls (r.slips.take j) r.slips[j] with
    | true =>
      rw [if_pos rfl]
      simp only [wps]
      rw [wI_ (n := (j : Int) + 1) (by omega) (by omega)]
      exact ⟨r.slips.length - (j + 1), by omega, j + 1, rfl, by omega, rfl, k7.trans (hpx.trans (k8.trans k9)), by rw [ha, hf, Bool.true_and]⟩
    | false =>
      rw [if_neg Bool.false_ne_true]
      simp only [wps]
      first | exact ⟨hp9, by rw [ha, hf]; rfl⟩ | (rw [ha, hf]; exact ⟨hp9, rfl⟩)
  rw [List.drop_eq_nil_of_le (by omega), allS] at ha
  rw [ha]
  simp only [Bool.true_and]
  simp only [wps, cell_blk z1]
  refine ⟨fun g1 => ⟨hp7, ?_⟩, fun g1 => ⟨hp7, ?_⟩⟩
  · congr 1; simp [g1]
  · rw [decide_eq_false (show ¬ (0 ≤ r.ticks ∧ r.ticks ≤ (mostV q).1) by omega)]
end Go.AM
