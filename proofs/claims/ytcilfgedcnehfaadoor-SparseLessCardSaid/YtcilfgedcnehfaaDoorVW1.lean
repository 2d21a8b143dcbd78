/-
  Part of the proof of a law: what the functions compute. Conditions: none.
-/
import Derived.Test.YtcilfgedcnehfaaDoorVF1
import Derived.Test.YtcilfgedcnehfaaDoorVP1
import Derived.Test.YtcilfgedcnehfaaDoorVX1
set_option linter.unusedVariables false
set_option linter.unusedSectionVars false
set_option linter.unusedSimpArgs false
set_option linter.deprecated false
set_option linter.unusedVariables false
set_option linter.unusedSimpArgs false
namespace Go.AM
open Go Go.Proofs Go.Proofs.YtcilfgedcnehfaaDoor
theorem radG_w {n : Int} {S : St} : WP (radG [.int .i64 n]) S fun v S' => ∃ a, v = .tuple ⟨[.slice a (radV n).1.length (radV n).1.length, .int .i64 (radV n).2]⟩ ∧ Ap S none S' a (radV n).1.length 3 1 ((radV n).1.flatMap eI) := by
  have key : ∃ c : Int, radO n = ((radV n).1.map fun x => .int .i64 x, .int .i64 c) ∧ (radV n).2 = c := by
    unfold radO radV
    split
    · unfold radR
      split
      · refine ⟨0, ?_, rfl⟩
        rw [List.map_map]; rfl
      · exact ⟨4, rfl, rfl⟩
    · exact ⟨4, rfl, rfl⟩
  obtain ⟨c, h1, h2⟩ := key
  unfold WP radG rowR radF
  simp only [h1, h2]
  generalize (radV n).1 = l
  cases l with
  | nil => exact ⟨_, _, rfl, none, rfl, .nil⟩
  | cons x l =>
    refine ⟨_, _, rfl, some ⟨S.length, 0, none⟩, by simp, by simp, fun i hi _ => List.getElem?_append_left hi, .inr ⟨_, rfl, Nat.le_refl _⟩, by rw [flat_len (w := 1) (fun _ => rfl)], .inr ⟨_, rfl, ?_⟩, .inl rfl⟩
    rw [get_new]
    have e : Value.int .i64 x :: l.map (fun x => Value.int .i64 x) = (x :: l).flatMap eI := by rw [← List.map_cons (f := fun x => Value.int .i64 x), List.map_eq_flatMap]; rfl
    exact congrArg (fun c => some (AObj.cells c 3 (some 1))) e
theorem redG_w {p a : Int} (h : 0 ≤ a ∧ a < 18446744073709551616) : redG [.int .u64 p, .int .u64 a] = M.ret (.int .u64 (red p a)) := by
  funext S; simp [redG, valR, redF, h, M.ret]
theorem mulG_w {p a b : Int} (h : 0 ≤ a ∧ a < 18446744073709551616) (g : 0 ≤ b ∧ b < 18446744073709551616) : mulG [.int .u64 p, .int .u64 a, .int .u64 b] = M.ret (.int .u64 (mulF p a b)) := by
  funext S; simp [mulG, valR, mulFF, h, g, M.ret]
theorem genG_w {p : Int} : genG [.int .u64 p] = M.ret (.int .u64 (genF p)) := by
  funext S; simp [genG, valR, genFF, M.ret]
theorem lenG_w {a : Int} (h : 0 ≤ a ∧ a < 18446744073709551616) : lenG [.int .u64 a] = M.ret (.int .i64 (Lib.bitLen a.toNat)) := by
  funext S; simp [lenG, valR, lenFF, M.ret]; omega
theorem known_w {p : Int} : g_field_Known [vU p] = M.ret (vB (known p)) := by
  rw [g_field_Known_eq]
  unfold known P0 P1 P2
  cases p == 18446744069414584321 <;> cases p == 998244353 <;> cases p == 2013265921 <;> rfl
theorem red_w {p a : Int} (h : 0 ≤ a ∧ a < 18446744073709551616) : g_field_Reduce [vU p, vU a] = M.ret (vU (red p a)) := redG_w h
theorem mul_w {p a b : Int} (h : 0 ≤ a ∧ a < 18446744073709551616) (g : 0 ≤ b ∧ b < 18446744073709551616) : g_field_Mul [vU p, vU a, vU b] = M.ret (vU (mulF p a b)) := mulG_w h g
theorem gen_w {p : Int} : g_root_Gen [vU p] = M.ret (vU (genF p)) := genG_w
theorem len_w {a : Int} (h : 0 ≤ a ∧ a < 18446744073709551616) : g_bits_Len64 [vU a] = M.ret (vI (Lib.bitLen a.toNat)) := lenG_w h
theorem ready_w {p n : Int} : g_root_ready [vU p, vI n] = M.ret (vI (readyV p n)) := by
  refine wp_eq fun S => ?_
  rw [g_root_ready_eq, known_w]
  unfold readyV
  cases known p with
  | false => simp only [wps]; simp
  | true =>
    simp only [wps]
    by_cases h1 : n < 1
    · simp [h1]
    · by_cases h2 : 8192 < n <;> simp [h1, h2]
theorem bit_at (N d : Nat) (hN : N < 18446744073709551616) (hd : d < 64) : IntKind.u64.wrap (↑(BitVec.ofInt IntKind.u64.bits ((N : Int).fdiv (2 ^ min d IntKind.u64.bits)) &&& BitVec.ofInt IntKind.u64.bits 1).toNat : Int) = ((N / 2 ^ d % 2 : Nat) : Int) := by
  have h1 : (N : Int).fdiv (2 ^ min d IntKind.u64.bits) = ((N / 2 ^ d : Nat) : Int) := by
    rw [Nat.min_eq_left (show d ≤ IntKind.u64.bits by simp only [IntKind.bits]; omega), show (2 : Int) ^ d = ((2 ^ d : Nat) : Int) by simp, Int.fdiv_eq_ediv_of_nonneg _ (Int.natCast_nonneg _)]
    simp
  have h2 : N / 2 ^ d < 18446744073709551616 := Nat.lt_of_le_of_lt (Nat.div_le_self _ _) hN
  rw [h1]
  generalize N / 2 ^ d = q at h2 ⊢
  have := Lib.u64_and1 (q : Int) (by omega) (by omega)
  refine Eq.trans ?_ (this.trans ?_)
  · rfl
  · omega
theorem pow_w {p a n : Int} (ha : 0 ≤ a ∧ a < 18446744073709551616) (hn : 0 ≤ n ∧ n < 18446744073709551616) : g_power_Pow [vU p, vU a, vU n] = M.ret (vU (powM p a n.toNat)) := by
  obtain ⟨N, rfl⟩ := Int.eq_ofNat_of_zero_le hn.1
  obtain ⟨h1, h2⟩ := bitLenAux_le 64 N (by omega)
  refine wp_eq fun S => ?_
  rw [g_power_Pow_eq, red_w (by omega), len_w hn]
  simp only [wps]
  refine wp_loop (fun st S' m => ∃ d : Nat, st = [vU (powM p a (N / 2 ^ d)), vI ((d : Int) - 1)] ∧ S' = S ∧ m = d ∧ d ≤ 64) ?_ (Lib.bitLenAux 64 N) _ _ ⟨Lib.bitLenAux 64 N, ?_, rfl, rfl, h2⟩
  · rintro st S' m ⟨d, rfl, rfl, hmd, hd⟩
    cases d with
    | zero => simp [wps]
    | succ d =>
      have e1 : ((d + 1 : Nat) : Int) - 1 = (d : Int) := by omega
      have hm := mul_w (p := p) (powM_range p a (N / 2 ^ (d + 1))) (powM_range p a (N / 2 ^ (d + 1)))
      rw [mulF_powM] at hm
      have hm2 := mul_w (p := p) (powM_range p a (N / 2 ^ (d + 1) + N / 2 ^ (d + 1))) ha
      rw [mulF_powM1] at hm2
      have hdiv : N / 2 ^ (d + 1) = N / 2 ^ d / 2 := by rw [Nat.pow_succ, Nat.div_div_eq_div_mul]
      simp only [wps, hm, hm2, e1, bit_at N d (by omega) (by omega), wI_ (n := (d : Int) - 1) (by omega) (by omega)]
      generalize hq : N / 2 ^ d = q at hdiv ⊢
      refine ⟨fun hb => ⟨d, by omega, d, ?_, rfl, by omega⟩, fun hb => ⟨d, by omega, d, ?_, rfl, by omega⟩⟩
      · rw [hdiv, hq, show q / 2 + q / 2 + 1 = q by omega]
      · rw [hdiv, hq, show q / 2 + q / 2 = q by omega]
  · rw [Nat.div_eq_of_lt h1]
    unfold red powM Lib.bitLen
    rw [wI_ (by omega) (by omega)]
    simp
theorem root_w {p n : Int} : g_root_Root [vU p, vI n] = M.ret (vT [vU (rootV p n).1, vI (rootV p n).2]) := by
  refine wp_eq fun S => ?_
  rw [g_root_Root_eq, ready_w]
  unfold rootV
  simp only [wps]
  refine ⟨fun h => by simp [h], fun h => ?_⟩
  rw [if_pos h]
  have hk : known p = true ∧ 1 ≤ n ∧ n ≤ 8192 := by
    unfold readyV at h
    split at h
    · split at h
      · simp at h
      · exact ⟨‹_›, by omega, by omega⟩
    · simp at h
  have hp := known_pos hk.1
  have hq0 : 0 ≤ (p - 1) / n := Int.ediv_nonneg (by omega) (by omega)
  have hq1 : (p - 1) / n ≤ p - 1 := Int.ediv_le_self _ (by omega)
  have e1 : wU n = n := wU_ (by omega) (by omega)
  have e2 : wU (p - 1) = p - 1 := wU_ (by omega) (by omega)
  have e3 : (p - 1).tmod n = (p - 1) % n := Int.tmod_eq_emod_of_nonneg (by omega)
  have e4 : (p - 1).tdiv n = (p - 1) / n := Int.tdiv_eq_ediv_of_nonneg (by omega)
  have e5 : wU ((p - 1) / n) = (p - 1) / n := wU_ hq0 (by omega)
  rw [e1, e2, e3, e4, e5]
  simp only [wps, gen_w, pow_w (p := p) (genF_range p) ⟨hq0, show (p - 1) / n < 18446744073709551616 by omega⟩]
  exact ⟨by omega, fun h2 => by rw [if_pos (by omega)], fun h2 => ⟨by omega, by rw [if_neg (by omega)]⟩⟩
theorem inv_w {p a : Int} (ha : 0 ≤ a ∧ a < 18446744073709551616) : g_power_Inv [vU p, vU a] = M.ret (vT [vU (invV p a).1, vI (invV p a).2]) := by
  refine wp_eq fun S => ?_
  rw [g_power_Inv_eq, known_w, red_w ha]
  unfold invV
  cases hk : known p with
  | false => simp [wps]
  | true =>
    have hp : 2 ≤ p ∧ p < 18446744073709551616 := by rcases known_cases hk with rfl | rfl | rfl <;> decide
    rw [wU_ (n := p - 2) (by omega) (by omega), pow_w (p := p) ha ⟨by omega, by omega⟩]
    simp only [wps]
    exact ⟨fun h => by simp [h], fun h => by simp [h]⟩
theorem back_w {p n : Int} : g_root_Back [vU p, vI n] = M.ret (vT [vU (backV p n).1, vI (backV p n).2]) := by
  refine wp_eq fun S => ?_
  rw [g_root_Back_eq, root_w]
  unfold backV
  simp only [wps, inv_w (rootV_range p n)]
  exact ⟨fun h => by simp [h], fun h => by simp [h]⟩
theorem rad_w {n : Int} {S : St} : WP (g_factor_Radices [vI n]) S fun v S' => ∃ a, v = vT [.slice a (radV n).1.length (radV n).1.length, vI (radV n).2] ∧ Ap S none S' a (radV n).1.length 3 1 ((radV n).1.flatMap eI) := radG_w
theorem smooth_w {n : Int} {S : St} : Sp (g_factor_Smooth [vI n]) S fun v _ => v = vB (smoothV n) := by
  unfold Sp
  rw [g_factor_Smooth_eq]
  simp only [wps]
  refine rad_w.mono ?_
  rintro _ S' ⟨a, rfl, h⟩
  simp only [wps]
  exact ⟨h.pre, rfl⟩

theorem fill_set {c : List Value} {l : List Int} {k : IntKind} {n j : Nat} {z x : Int} (h : c = (l.take j).map (.int k) ++ List.replicate (n - j) (.int k z)) (hl : l.length = n) (hj : j < n) (hx : l[j]? = some x) :
    splice c j [.int k x] = (l.take (j + 1)).map (.int k) ++ List.replicate (n - (j + 1)) (.int k z) := by
  have hlen : ((l.take j).map (Value.int k)).length = j := by simp; omega
  rw [splice_set (by rw [h]; simp; omega), h, List.set_append_right _ _ (by omega), hlen, Nat.sub_self, show n - j = (n - (j + 1)) + 1 by omega, List.replicate_succ, List.set_cons_zero, List.take_add_one, hx]
  simp
theorem dims_w {S : St} {axes : Option Addr} {n c : Nat} {l : List Ax} (h : Ar S axes n 2 eAx l) (hl : n ≤ 8796093022208) :
    Sp (g_grid_Dims [.slice axes n c]) S fun v S' => ∃ a k, v = .slice a n k ∧ Ar S' a n 1 eI (dimsOf l) := by
  unfold Sp
  rw [g_grid_Dims_eq]
  have hn := h.1
  simp only [wps, zeroC_one]
  refine ⟨⟨by omega, by omega, by omega, rfl⟩, ?_⟩
  refine wp_loop (fun st S' m => ∃ j : Nat, st = [vI j] ∧ j ≤ n ∧ m = n - j ∧ (S ++ [.cells (((dimsOf l).take j).map (.int .i64) ++ List.replicate (n - j) (.int .i64 0)) 3 none]) <+: S') ?_ n _ _ ⟨0, rfl, by omega, by omega, by simp⟩
  rintro st S' m ⟨j, rfl, hj, rfl, hp⟩
  simp only [wps]
  refine ⟨fun h1 => ?_, fun h1 => ?_⟩
  · have hj' : j < l.length := by omega
    obtain ⟨a, rfl, c1, c2⟩ := (h.mono (pre_of_add hp)).getAx hj'
    have hb := pre_get hp get_new
    have hb2 : ∀ o, (S' ++ [o])[S.length]? = _ := fun o => get_add hb
    simp only [wps, c1, c2, hb2]
    refine ⟨h1, h1, ?_, n - (j + 1), by omega, j + 1, ?_, by omega, rfl, ?_⟩
    · simp [dimsOf]; omega
    · rw [wI_ (by omega) (by omega)]; simp
    · rw [fill_set (l := dimsOf l) (n := n) (j := j) (z := 0) (x := l[j].N) rfl (by simp [dimsOf]; omega) (by omega) (by simp [dimsOf, hj'])]
      exact pre_top (pre_add hp _)
  · have : n - j = 0 := by omega
    refine ⟨pre_of_add hp, _, _, rfl, ?_⟩
    have hb := pre_get hp get_new
    have e : n = (dimsOf l).length := by simp [dimsOf]; omega
    rw [List.take_of_length_le (by omega), this] at hb
    conv => arg 3; rw [e]
    exact arI_blk (by simpa using hb)
theorem all_w {S : St} {dims : Option Addr} {n c : Nat} {l : List Int} (h : Ar S dims n 1 eI l) : Gv (g_shape_All [.slice dims n c]) S (vT [vI (allV l).1, vI (allV l).2]) := by
  refine .of ?_
  rw [g_shape_All_eq]
  have hn := h.1
  simp only [wps]
  refine ⟨fun h1 => by simp [allV, show l.length < 1 by omega], fun h1 => ⟨fun h2 => by simp [allV, show 4 < l.length by omega], fun h2 => ?_⟩⟩
  have e : allV l = allGo 1 l := by unfold allV; rw [if_neg (by omega)]
  rw [e]
  refine wp_loop (fun st S' m => ∃ (i : Nat) (x : Int), st = [.int .i64 x, .int .i64 i] ∧ S' = S ∧ i ≤ n ∧ m = n - i ∧ 1 ≤ x ∧ x ≤ 4096 ∧ allGo 1 l = allGo x (l.drop i)) ?_ n _ _ ⟨0, 1, rfl, rfl, by omega, by omega, by omega, by omega, by simp⟩
  rintro st S' m ⟨i, x, rfl, rfl, hi, rfl, h3, h4, hg⟩
  simp only [wps]
  refine ⟨fun h5 => ⟨h5, ?_⟩, fun h5 => ?_⟩
  · obtain ⟨a, rfl, hc⟩ := h.getI (i := i) (by omega)
    rw [List.drop_eq_getElem_cons (by omega), allGo] at hg
    simp only [wps, hc]
    refine ⟨fun h6 => ?_, fun h6 => ⟨fun h7 => ?_, fun h7 => ?_⟩⟩
    · rw [if_pos (.inl h6)] at hg; simp [hg, wps]
    · rw [if_pos (.inr (.inl h7))] at hg; simp [hg, wps]
    · have hb1 : 1 ≤ x * l[i] := by
        have := Int.mul_le_mul h3 (show 1 ≤ l[i] by omega) (by omega) (by omega)
        simpa using this
      have hb2 : x * l[i] ≤ 4096 * 4096 := Int.mul_le_mul h4 (by omega) (by omega) (by omega)
      rw [wI_ (n := x * l[i]) (by omega) (by omega), wI_ (n := (i : Int) + 1) (by omega) (by omega)]
      refine ⟨fun h8 => ?_, fun h8 => ?_⟩
      · rw [if_pos (.inr (.inr h8))] at hg; simp [hg]
      · rw [if_neg (by omega)] at hg
        exact ⟨n - (i + 1), by omega, i + 1, _, rfl, by omega, rfl, by omega, by omega, hg⟩
  · rw [List.drop_eq_nil_iff.2 (by omega), allGo] at hg
    simp [hg]
end Go.AM
set_option linter.unusedVariables false
set_option linter.unusedSimpArgs false
namespace Go.AM
open Go Go.Proofs.YtcilfgedcnehfaaDoor
theorem grid_w {p : Int} {S : St} {axes : Option Addr} {n c : Nat} {l : List Ax} (h : Ar S axes n 2 eAx l) (hl : n ≤ 8796093022208) :
    Sp (g_grid_Check [vU p, .slice axes n c]) S fun v S' => v = vI (gridV p l) := by
  unfold Sp
  have hn := h.1
  rw [g_grid_Check_eq, known_w]
  unfold gridV
  simp only [wps]
  refine ⟨fun hk => ⟨List.prefix_rfl, by simp [hk]⟩, fun hk => ?_⟩
  refine (dims_w h hl).use ?_
  rintro _ S1 h1 ⟨a, k, rfl, hd⟩
  simp only [wps, (all_w hd).wp]
  refine ⟨fun h2 => ⟨h1, by simp [hk, h2]⟩, fun h2 => ?_⟩
  rw [if_pos hk, if_pos h2]
  refine wp_loop (fun st S' m => ∃ (j : Nat) (e : Int), st = [vI e, vI j] ∧ j ≤ n ∧ m = n - j ∧ S <+: S' ∧ gGo p 0 l = gGo p e (l.drop j)) ?_ n _ _ ⟨0, 0, rfl, by omega, by omega, h1, by simp⟩
  rintro st S' m ⟨j, e, rfl, hj, rfl, hp, hg⟩
  simp only [wps]
  refine ⟨fun h3 => ⟨h3, ?_⟩, fun h3 => ?_⟩
  · have hj' : j < l.length := by omega
    obtain ⟨a, rfl, c1, c2⟩ := (h.mono hp).getAx hj'
    rw [List.drop_eq_getElem_cons hj', gGo] at hg
    simp only [wps, c1, c2]
    have hq := pre_add hp
    refine ⟨fun h4 => ?_, fun h4 => ?_⟩
    all_goals
      refine smooth_w.use ?_
      rintro _ S2 h5 rfl
      simp only [wps, root_w]
      refine ⟨fun h6 => ?_, fun h6 => ?_⟩
      · rw [if_neg (by simp [h6])] at hg
        simp only [wps, hg]
        exact (hq _).trans h5
      · rw [if_pos (by simpa using h6)] at hg
        unfold ordW at hg
        simp only [h4, if_true, Bool.false_eq_true, if_false] at hg
        refine ⟨fun h7 => ?_, fun h7 => ?_⟩
        · rw [if_neg h7] at hg
          exact ⟨n - (j + 1), by omega, j + 1, 5, by rw [wI_ (by omega) (by omega)]; simp, by omega, rfl, (hq _).trans h5, hg⟩
        · rw [if_pos h7] at hg
          exact ⟨n - (j + 1), by omega, j + 1, e, by rw [wI_ (by omega) (by omega)]; simp, by omega, rfl, (hq _).trans h5, hg⟩
  · rw [List.drop_eq_nil_iff.2 (by omega), gGo] at hg
    exact ⟨hp, by rw [hg]⟩
theorem base_w {p : Int} {a : Ax} {inv : Bool} {s : Stp} {S : St} : Sp (g_step_base [vU p, vA [vI a.N, vB a.neg], vB inv, vA [vI s.ax, vB s.tw, vI s.st.R, vI s.st.L, vI s.st.M]]) S fun v S' => v = vT [vU (baseV p a inv s).1, vI (baseV p a inv s).2] := by
  unfold Sp
  rw [g_step_base_eq]
  unfold baseV k_step_base_1
  have hb : ∀ o x y, (S ++ [o] ++ [AObj.cells x y none])[S.length]? = some o := fun o x y => get_add get_new
  have hp : ∀ o o', S <+: S ++ [o] ++ [o'] := fun o o' => pre_add (List.prefix_append _ _) _
  have hc : ∀ c t o k, St.cell (S ++ [.cells c t none] ++ [o]) ⟨S.length, k, none⟩ = c[k]? := fun c t o k => cell_blk (get_add get_new) k
  cases h1 : s.tw with
  | true =>
    cases h2 : a.neg with
    | true =>
      simp only [wps, hc]
      cases inv <;> simp [wps, back_w, root_w, hp]
    | false =>
      simp only [wps, hc]
      simp [hp]
  | false =>
    simp only [wps, hc]
    cases inv <;> simp [wps, back_w, root_w, hp]
end Go.AM
set_option linter.unusedVariables false
set_option linter.unusedSimpArgs false
namespace Go.AM
open Go Go.Proofs.YtcilfgedcnehfaaDoor
theorem foldr_pos : ∀ l : List Int, (∀ r ∈ l, 1 ≤ r) → 1 ≤ l.foldr (· * ·) 1
  | [], _ => by simp
  | x :: l, h => by
    have h3 := foldr_pos l (fun r hr => h r (by simp [hr]))
    have h4 := h x (by simp)
    rw [List.foldr_cons]
    have := Int.mul_le_mul h4 h3 (by omega) (by omega)
    omega
theorem stages_w {n : Int} {S : St} : WP (g_factor_Stages [vI n]) S fun v S' => ∃ a, v = vT [.slice a (stagesV n).1.length (stagesV n).1.length, vI (stagesV n).2] ∧ Ap S none S' a (stagesV n).1.length 35 3 ((stagesV n).1.flatMap eSg) := by
  rw [g_factor_Stages_eq]
  simp only [wps]
  refine rad_w.mono ?_
  rintro _ S1 ⟨a, rfl, hr⟩
  have hS := hr.pre
  have hr := hr.ar (fun _ => rfl) (by decide)
  simp only [wps]
  unfold stagesV
  refine ⟨fun h => ?_, fun h => ?_⟩
  · rw [if_neg h]; exact ⟨none, rfl, Ap.nil.more hS⟩
  · rw [if_pos h]
    obtain ⟨n1, n2, f1, f2, f3⟩ := radV_facts h
    generalize (radV n).1 = rs at hr f1 f2 f3 ⊢
    refine wp_loop (fun st S' m => ∃ (j : Nat) (x : Int) (sa : Option Addr) (dn : List Sg), st = [.slice sa j j, vI x, vI j] ∧ j ≤ rs.length ∧ m = rs.length - j ∧ Ap S1 none S' sa j 35 3 (dn.flatMap eSg) ∧
      dn ++ stGo n x (rs.drop j) = stGo n 1 rs ∧ 1 ≤ x ∧ x * (rs.drop j).foldr (· * ·) 1 = n) ?_ rs.length _ _ ⟨0, 1, none, [], rfl, by omega, by omega, .nil, by simp, by omega, by simpa using f2⟩
    rintro st S' m ⟨j, x, sa, dn, rfl, hj, rfl, ho, hd, hx, hf⟩
    simp only [wps]
    refine ⟨fun h3 => ⟨h3, ?_⟩, fun h3 => ?_⟩
    · have hj' : j < rs.length := by omega
      obtain ⟨b, rfl, hc⟩ := (hr.mono ho.pre).getI hj'
      rw [List.drop_eq_getElem_cons hj'] at hd hf
      have hr1 := f1 _ (List.getElem_mem hj')
      rw [List.foldr_cons, ← Int.mul_assoc] at hf
      have hp1 := foldr_pos (rs.drop (j + 1)) (fun r hr' => by have := (f1 r (List.mem_of_mem_drop hr')).1; omega)
      have har : 1 ≤ x * rs[j] := by have := Int.mul_le_mul hx (show 1 ≤ rs[j] by omega) (by omega) (by omega); omega
      have har2 : x * rs[j] ≤ 4096 := by
        have : x * rs[j] * 1 ≤ x * rs[j] * (rs.drop (j + 1)).foldr (· * ·) 1 := Int.mul_le_mul_of_nonneg_left hp1 (by omega)
        omega
      have hq0 : 0 ≤ n / x := Int.ediv_nonneg (by omega) (by omega)
      have hq1 : n / x ≤ n := Int.ediv_le_self _ (by omega)
      have hq2 : 0 ≤ n / x / rs[j] := Int.ediv_nonneg hq0 (by omega)
      have hq3 : n / x / rs[j] ≤ n / x := Int.ediv_le_self _ hq0
      simp only [wps, hc]
      refine ⟨by omega, by omega, ?_⟩
      rw [show n.tdiv x = n / x from Int.tdiv_eq_ediv_of_nonneg (by omega), wI_ (n := n / x) (by omega) (by omega), show (n / x).tdiv rs[j] = n / x / rs[j] from Int.tdiv_eq_ediv_of_nonneg hq0, wI_ (n := n / x / rs[j]) (by omega) (by omega)]
      refine wp_push ho rfl (by omega) (by omega) rfl ?_
      intro b' S2 h6
      simp only [wps]
      rw [wI_ (n := x * rs[j]) (by omega) (by omega), wI_ (n := (j : Int) + 1) (by omega) (by omega)]
      refine ⟨rs.length - (j + 1), by omega, j + 1, x * rs[j], _, dn ++ [⟨rs[j], x, n / x / rs[j]⟩], rfl, by omega, rfl, ?_, ?_, har, hf⟩
      · simpa [eSg] using h6
      · rw [← hd, stGo]; simp
    · rw [List.drop_eq_nil_of_le (by omega), stGo, List.append_nil] at hd
      have e := ho.cnt (fun _ => rfl) (by decide)
      subst hd
      rw [← e]
      refine ⟨sa, rfl, ?_⟩
      exact (Ap.nil.more hS).trans ho
theorem index_w {S : St} {p : Option Addr} {n c : Nat} {l : List Sg} (h : Ar S p n 3 eSg l) (hl : n ≤ 140737488355328) (s : Sg) :
    Sp (g_slices_Index_api_Stage_api_Stage [.slice p n c, vA [vI s.R, vI s.L, vI s.M]]) S fun v S' => ∃ r : Int, v = vI r ∧ (0 ≤ r ↔ s ∈ l) := by
  unfold Sp
  have hn := h.1
  rw [g_slices_Index_api_Stage_api_Stage_eq]
  simp only [wps]
  refine wp_loop (fun st S' m => ∃ j : Nat, st = [vI j] ∧ j ≤ n ∧ m = n - j ∧ S' = S ++ [.cells [vI s.R, vI s.L, vI s.M] 35 none] ∧ (s ∈ l ↔ s ∈ l.drop j)) ?_ n _ _ ⟨0, rfl, by omega, by omega, rfl, by simp⟩
  rintro st S' m ⟨j, rfl, hj, rfl, rfl, hm⟩
  simp only [wps]
  refine ⟨fun h3 => ⟨h3, ?_⟩, fun h3 => ?_⟩
  · have hj' : j < l.length := by omega
    obtain ⟨a, rfl, c1, c2, c3⟩ := (h.mono (List.prefix_append S [.cells [vI s.R, vI s.L, vI s.M] 35 none])).getSg hj'
    simp only [wps, c1, c2, c3]
    rw [List.drop_eq_getElem_cons hj', List.mem_cons] at hm
    have e : eqL [vI s.R, vI s.L, vI s.M] [vI l[j].R, vI l[j].L, vI l[j].M] = decide (s = l[j]) := by
      obtain ⟨a1, a2, a3⟩ := s
      cases hx : l[j] with
      | mk b1 b2 b3 => simp [eqL, Bool.and_assoc, Bool.decide_and, Sg.mk.injEq]; rfl
    rw [e]
    refine ⟨fun h4 => ?_, fun h4 => ?_⟩
    · exact ⟨pre_add List.prefix_rfl _, j, rfl, by simp at h4; exact ⟨fun _ => hm.2 (.inl h4), fun _ => by omega⟩⟩
    · refine ⟨n - (j + 1), by omega, j + 1, by rw [wI_ (by omega) (by omega)]; simp, by omega, rfl, ?_⟩
      simp at h4
      rw [hm]; simp [h4]
  · refine ⟨pre_add List.prefix_rfl _, -1, rfl, ?_⟩
    rw [hm, List.drop_eq_nil_of_le (by omega)]; simp
theorem contains_w {S : St} {p : Option Addr} {n c : Nat} {l : List Sg} (h : Ar S p n 3 eSg l) (hl : n ≤ 140737488355328) (s : Sg) :
    Sp (g_slices_Contains_api_Stage_api_Stage [.slice p n c, vA [vI s.R, vI s.L, vI s.M]]) S fun v S' => v = vB (decide (s ∈ l)) := by
  unfold Sp
  rw [g_slices_Contains_api_Stage_api_Stage_eq]
  simp only [wps]
  refine (index_w (h.mono (pre_add List.prefix_rfl _)) hl s).use ?_
  rintro _ S1 h1 ⟨r, rfl, hr⟩
  simp only [wps]
  refine ⟨pre_of_add h1, ?_⟩
  by_cases h2 : s ∈ l
  · simp [h2, hr.2 h2]
  · have : ¬ 0 ≤ r := fun h => h2 (hr.1 h)
    simp [h2, this]
end Go.AM
set_option linter.unusedVariables false
set_option linter.unusedSimpArgs false
namespace Go.AM
open Go Go.Proofs.YtcilfgedcnehfaaDoor
theorem stages_len (n : Int) : (stagesV n).1.length ≤ 4096 := by
  unfold stagesV
  by_cases h : (radV n).2 = 0
  · have := (stages_facts h).2
    unfold stagesV at this
    exact this
  · rw [if_neg h]; simp
theorem stepc_w {p : Int} {S : St} {axes : Option Addr} {n c : Nat} {l : List Ax} (h : Ar S axes n 2 eAx l) (hl : n ≤ 8796093022208) (s : Stp) :
    Sp (g_step_Check [vU p, .slice axes n c, vA [vI s.ax, vB s.tw, vI s.st.R, vI s.st.L, vI s.st.M]]) S fun v S' => v = vI (stepV p l s) := by
  unfold Sp
  have hn := h.1
  rw [g_step_Check_eq]
  simp only [wps]
  refine (grid_w (h.mono (List.prefix_append _ _)) hl).use ?_
  rintro _ S1 h1 rfl
  have hb := pre_get h1 get_new
  have hb2 : ∀ o, (S1 ++ [o])[S.length]? = _ := fun o => get_add hb
  have hc := cell_blk hb
  have hc2 := fun o => cell_blk (hb2 o)
  have h0 := pre_of_add h1
  simp only [wps, hc, hc2]
  unfold stepV
  refine ⟨fun h2 => ⟨h0, by rw [if_neg h2]⟩, fun h2 => ?_⟩
  rw [if_pos h2]
  refine ⟨fun h3 => ⟨h0, by rw [if_neg (by omega)]⟩, fun h3 => ⟨fun h4 => ⟨h0, by rw [if_neg (by omega)]⟩, fun h4 => ?_⟩⟩
  rw [if_pos (by omega)]
  obtain ⟨k, hk⟩ := Int.eq_ofNat_of_zero_le (show 0 ≤ s.ax by omega)
  have hkl : k < l.length := by omega
  refine ⟨fun h5 => ?_, fun h5 => ?_⟩
  · obtain ⟨a, rfl, c1, c2⟩ := (h.mono (pre_add h0 [.cells [vI 0, vI 0, vI 0] 35 none])).getAx hkl
    rw [if_neg (by rw [h5]; simp), hk, axAt_nat l k hkl]
    simp only [wps, c1]
    refine ⟨by omega, stages_w.mono ?_⟩
    rintro _ S2 ⟨b, rfl, hst⟩
    have h6 := hst.pre
    have hst := hst.ar (fun _ => rfl) (by decide)
    simp only [wps]
    refine ⟨fun h7 => ⟨(pre_add h0 _).trans h6, by rw [if_neg h7]⟩, fun h7 => ?_⟩
    rw [if_pos h7]
    have hc3 := cell_blk (pre_get h6 (hb2 _))
    simp only [wps, hc3]
    refine (contains_w hst (by have := stages_len l[k].N; omega) s.st).use ?_
    rintro _ S3 h8 rfl
    simp only [wps]
    have h9 := ((pre_add h0 _).trans h6).trans h8
    exact ⟨fun h10 => ⟨h9, by simp [h10]⟩, fun h10 => ⟨h9, by simp [h10]⟩⟩
  · rw [if_pos h5]
    have hst : Ar (S1 ++ [.cells [vI 0, vI 0, vI 0] 35 none]) (some (ad S1.length 0)) 1 3 eSg [⟨0, 0, 0⟩] := Ar.blk (l := ([⟨0, 0, 0⟩] : List Sg)) get_new (fun _ _ => rfl) rfl
    refine (contains_w hst (by omega) s.st).use ?_
    rintro _ S3 h8 rfl
    simp only [wps]
    have h9 := (pre_add h0 _).trans h8
    exact ⟨fun h10 => ⟨h9, by rw [List.mem_singleton] at h10; rw [if_neg h10]⟩, fun h10 => ⟨h9, by rw [List.mem_singleton] at h10; rw [if_pos h10]⟩⟩
theorem fill_at {c : List Value} {f : Nat → Value} {n j : Nat} {z : Value} (h : c = (List.range j).map f ++ List.replicate (n - j) z) (hj : j < n) {v : Value} (hv : v = f j) :
    splice c j [v] = (List.range (j + 1)).map f ++ List.replicate (n - (j + 1)) z := by
  have hlen : ((List.range j).map f).length = j := by simp
  rw [splice_set (by rw [h]; simp; omega), h, List.set_append_right _ _ (by omega), hlen, Nat.sub_self, show n - j = (n - (j + 1)) + 1 by omega, List.replicate_succ, List.set_cons_zero, List.range_succ, hv]
  simp
theorem powers_w {p a many : Int} (ha : 0 ≤ a ∧ a < 18446744073709551616) {S : St} :
    Sp (g_power_Powers [vU p, vU a, vI many]) S fun v S' => ∃ b k, v = vT [.slice b (powersV p a many).1.length k, vI (powersV p a many).2] ∧ Ar S' b (powersV p a many).1.length 1 eU (powersV p a many).1 ∧
      ((powersV p a many).2 = 0 → b = some ⟨S.length, 0, none⟩ ∧ k = many.toNat ∧ S'[S.length]? = some (.cells ((powersV p a many).1.map (.int .u64)) 22 none)) := by
  unfold Sp
  rw [g_power_Powers_eq, known_w]
  unfold powersV
  cases hk : known p with
  | false => simp only [wps]; exact ⟨List.prefix_rfl, none, 0, rfl, .nil, by simp⟩
  | true =>
    rw [if_pos rfl]
    simp only [wps]
    refine ⟨fun h1 => ?_, fun h1 => ⟨fun h2 => ?_, fun h2 => ?_⟩⟩
    · rw [if_pos (.inl h1)]; exact ⟨List.prefix_rfl, none, 0, rfl, .nil, by simp⟩
    · rw [if_pos (.inr h2)]; exact ⟨List.prefix_rfl, none, 0, rfl, .nil, by simp⟩
    · rw [if_neg (by omega)]
      obtain ⟨n, rfl⟩ := Int.eq_ofNat_of_zero_le (show 0 ≤ many by omega)
      simp only [wps, zeroC_one]
      refine ⟨⟨by omega, by omega, by omega, rfl⟩, ?_⟩
      refine wp_loop (fun st S' m => ∃ j : Nat, st = [vU (powM p a j), vI j] ∧ j ≤ n ∧ m = n - j ∧ S' = S ++ [.cells ((List.range j).map (fun i => .int .u64 (powM p a i)) ++ List.replicate (n - j) (.int .u64 0)) 22 none]) ?_ n _ _ ⟨0, by rw [powM_zero a hk]; rfl, by omega, by omega, by simp⟩
      rintro st S' m ⟨j, rfl, hj, rfl, rfl⟩
      have hm := mul_w (p := p) (powM_range p a j) ha
      rw [mulF_powM1] at hm
      simp only [wps, hm]
      refine ⟨fun h3 => ⟨h3, ⟨by simp; omega, ?_⟩⟩, fun h3 => ?_⟩
      · refine ⟨n - (j + 1), by omega, j + 1, by rw [wI_ (by omega) (by omega)]; simp, by omega, rfl, ?_⟩
        rw [fill_at (f := fun i => .int .u64 (powM p a i)) (z := .int .u64 0) rfl (by omega) rfl]
      · obtain rfl : j = n := by omega
        have e : (powsV p a j).length = j := powsV_len p a j
        rw [Nat.sub_self]
        have e2 : (List.map (fun i => Value.int .u64 (powM p a i)) (List.range j) ++ List.replicate 0 (Value.int .u64 0)) = (powsV p a j).map (.int .u64) := by simp [powsV]
        rw [e2]
        exact ⟨List.prefix_append _ _, some ⟨S.length, 0, none⟩, j, by rw [e], arU_blk get_new, rfl, rfl, rfl⟩
end Go.AM
set_option linter.unusedVariables false
set_option linter.unusedSimpArgs false
namespace Go.AM
open Go Go.Proofs.YtcilfgedcnehfaaDoor
theorem rdN_ar {S : St} {b n : Nat} {c : List Value} {e : TypeId} {g : Option Nat} {Q : List Value → St → Prop} (hb : S[b]? = some (.cells c e g)) (hn : c.length = n) (q : Q c S) : WP (rdN (some ⟨b, 0, none⟩) n) S Q := by
  refine wp_rdN hb rfl (by simp [hn]) ?_
  rw [List.drop_zero, ← hn, List.take_length]; exact q
theorem table_w {p : Int} {S : St} {axes : Option Addr} {n c : Nat} {l : List Ax} (h : Ar S axes n 2 eAx l) (hl : n ≤ 8796093022208) (inv : Bool) (s : Stp) :
    Sp (g_step_Table [vU p, .slice axes n c, vB inv, vA [vI s.ax, vB s.tw, vI s.st.R, vI s.st.L, vI s.st.M]]) S fun v S' => ∃ b k, v = vT [.slice b (tableV p l inv s (tabV p l inv s)).length k, vI (stepV p l s)] ∧
      Ar S' b (tableV p l inv s (tabV p l inv s)).length 1 eU (tableV p l inv s (tabV p l inv s)) := by
  unfold Sp
  have hn := h.1
  rw [g_step_Table_eq]
  simp only [wps]
  refine (stepc_w (h.mono (List.prefix_append _ _)) hl s).use ?_
  rintro _ S1 h1 rfl
  have h0 := pre_of_add h1
  have hb := pre_get h1 get_new
  simp only [wps, cell_blk hb]
  unfold tableV
  refine ⟨fun h2 => by rw [if_neg h2]; exact ⟨h0, none, 0, rfl, .nil⟩, fun h2 => ?_⟩
  rw [if_pos h2, h2]
  obtain ⟨hg, hs⟩ := stepV_inv h2
  obtain ⟨hb0, hb1⟩ := base_ok hg hs inv
  obtain ⟨hk, _, hall⟩ := grid_ok hg
  obtain ⟨k, hkl, e0, h3⟩ := hs
  obtain ⟨hr, ho⟩ := hall l[k] (List.getElem_mem hkl)
  obtain ⟨n1, n2, _⟩ := radV_facts hr
  have hax : axAt l s.ax = l[k] := by rw [e0, axAt_nat l k hkl]
  obtain ⟨a, rfl, c1, c2⟩ := (h.mono h0).getAx hkl
  rw [e0]
  simp only [wps, c1, c2]
  refine ⟨by omega, ?_⟩
  have hb2 : ∀ o, (S1 ++ [o])[S.length]? = _ := fun o => get_add hb
  simp only [wps, fun o => cell_blk (hb2 o)]
  refine base_w.use ?_
  rintro _ S2 h4 rfl
  rw [hax] at hb0 hb1
  have h5 := (pre_add h0 _).trans h4
  have hb3 := pre_get h4 (hb2 _)
  have hb4 := pre_get h4 get_new
  simp only [wps, hb0, cell_blk hb3, cell_blk hb4]
  unfold tabV
  rw [hax]
  rcases h3 with ⟨h3, h6⟩ | ⟨h3, h6⟩
  · obtain ⟨N, hN⟩ := Int.eq_ofNat_of_zero_le (show 0 ≤ l[k].N by omega)
    generalize (baseV p l[k] inv s).1 = w at hb1 ⊢
    have hpw : powersV p w (N : Int) = (powsV p w N, 0) := by unfold powersV; rw [if_pos hk, if_neg (by omega), Int.toNat_natCast]
    simp only [wps, h3]
    rw [if_pos (by simp), hN, Int.toNat_natCast]
    refine (powers_w (p := p) (a := w) hb1).use ?_
    rintro _ S3 h7 ⟨b, k', rfl, hpa, hpb⟩
    rw [hpw] at hpa hpb ⊢
    obtain ⟨rfl, hk', hpc⟩ := hpb rfl
    rw [Int.toNat_natCast] at hk'
    have hk' := hk'.symm
    subst hk'
    simp only [powsV_len, Int.toNat_natCast] at hpa hpc
    simp only [wps, powsV_len]
    refine ⟨fun h8 => ?_, fun h8 => ?_⟩
    · rw [h8]
      simp only [wps, Bool.false_eq_true, if_false]
      rw [powsV_len]
      exact ⟨h5.trans h7, _, _, rfl, hpa⟩
    · rw [h8]
      have hred : red p (N : Int) ≠ 0 := by
        unfold red; rw [if_pos hk]
        have : (N : Int) < p := by rcases known_cases hk with rfl | rfl | rfl <;> simp only [P0, P1, P2] <;> omega
        rw [Int.emod_eq_of_lt (by omega) this]; omega
      obtain ⟨i0, i1⟩ := inv_ok hk hred
      have e3 : wU (N : Int) = N := wU_ (by omega) (by omega)
      have hb6 := pre_get h7 hb4
      simp only [wps, cell_blk hb6, hN, e3, inv_w (p := p) (a := (N : Int)) ⟨by omega, by omega⟩, i0]
      generalize (invV p (N : Int)).1 = iv at i1 ⊢
      simp only [if_true, List.length_map, powsV_len]
      refine wp_loop (fun st S' m => ∃ j : Nat, st = [vI j] ∧ j ≤ N ∧ m = N - j ∧ S3.set S2.length (.cells ((((powsV p w N).map fun x => mulF p x iv).take j ++ (powsV p w N).drop j).map (.int .u64)) 22 none) <+: S') ?_ N _ _
        ⟨0, rfl, by omega, by omega, by
          simp only [List.take_zero, List.nil_append, List.drop_zero]
          rw [set_get hpc]; exact List.prefix_rfl⟩
      rintro st S' m ⟨j, rfl, hj, rfl, hp⟩
      have hS2 : S2.length < S3.length := pre_lt hpc
      have hlen := powsV_len p w N
      have hbl := pre_get hp (i := S2.length) (by rw [List.getElem?_set_self hS2])
      simp only [wps]
      refine ⟨fun h9 => ⟨h9, ?_⟩, fun h9 => ?_⟩
      · have hj' : j < N := by omega
        have hx := powM_range p w j
        have hx2 : (powsV p w N)[j]? = some (powM p w j) := by simp [powsV, hj']
        have hl1 : (((powsV p w N).map fun x => mulF p x iv).take j).length = j := by simp; omega
        have hcell : S'.cell ⟨S2.length, j, none⟩ = some (.int .u64 (powM p w j)) := by
          rw [cell_blk hbl, List.getElem?_map, List.getElem?_append_right (by omega), hl1, Nat.sub_self, List.getElem?_drop, Nat.add_zero, hx2]; rfl
        simp only [wps, hcell, mul_w (p := p) hx i1, hbl]
        refine ⟨h9, by simp; omega, N - (j + 1), by omega, j + 1, by rw [wI_ (by omega) (by omega)]; simp, by omega, rfl, ?_⟩
        have e4 : splice ((((powsV p w N).map fun x => mulF p x iv).take j ++ (powsV p w N).drop j).map (.int .u64)) j [.int .u64 (mulF p (powM p w j) iv)] = (((powsV p w N).map fun x => mulF p x iv).take (j + 1) ++ (powsV p w N).drop (j + 1)).map (.int .u64) := by
          rw [splice_set (by simp; omega), ← List.map_set, List.set_append_right _ _ (by omega), hl1, Nat.sub_self, List.drop_eq_getElem_cons (by omega), List.set_cons_zero, List.take_add_one, List.getElem?_map, hx2]
          simp
        rw [e4]
        have := pre_set hp (b := S2.length) (o := .cells ((((powsV p w N).map fun x => mulF p x iv).take (j + 1) ++ (powsV p w N).drop (j + 1)).map (.int .u64)) 22 none) (by simpa using hS2)
        rwa [List.set_set] at this
      · obtain rfl : j = N := by omega
        rw [List.take_of_length_le (by simp; omega), List.drop_of_length_le (by omega), List.append_nil] at hbl
        have h10 : S <+: S' := (h5.trans (pre_set' h7 (Nat.le_refl _))).trans hp
        refine ⟨h10, _, _, rfl, ?_⟩
        have := arU_blk hbl
        rwa [List.length_map, powsV_len] at this
  · obtain ⟨g1, g2, g3, g4, g5, g6⟩ := stages_ok (stages_facts hr).1 h6
    have hp1 : 1 ≤ s.st.R * s.st.M := by have := Int.mul_le_mul (show 1 ≤ s.st.R by omega) g4 (by omega) (by omega); omega
    have hp2 := prod_bound g3 hp1 g5 g6
    have hM : s.st.M ≤ 4096 := prod_bound (show 1 ≤ s.st.R by omega) g4 rfl hp2
    rw [Int.mul_comm] at hp1 hp2
    simp only [wps, h3]
    rw [wI_ (n := s.st.M * s.st.R) (by omega) (by omega)]
    obtain ⟨R, hR⟩ := Int.eq_ofNat_of_zero_le (show 0 ≤ s.st.R by omega)
    obtain ⟨M', hM'⟩ := Int.eq_ofNat_of_zero_le (show 0 ≤ s.st.M by omega)
    generalize hw : (baseV p l[k] inv s).1 = w at hb1 ⊢
    have e1 : (s.st.M * s.st.R).toNat = M' * R := by rw [hR, hM', ← Int.natCast_mul, Int.toNat_natCast]
    have e2 : s.st.M * s.st.R = ((M' * R : Nat) : Int) := by rw [hR, hM', Int.natCast_mul]
    rw [hR, hM'] at hp1 hp2
    rw [e1, zeroC_one, hR, hM', Int.toNat_natCast, Int.toNat_natCast, if_neg (by simp)]
    refine ⟨⟨by decide, by omega, by omega, by omega, rfl⟩, ?_⟩
    refine wp_loop (fun st S' m => ∃ j : Nat, st = [.slice (some ⟨S2.length, 0, none⟩) (j * R) (M' * R), vU (powM p w j)] ∧ j ≤ M' ∧ m = M' - j ∧ S2 ++ [.cells ((rowsV p w R j).map (.int .u64) ++ List.replicate ((M' - j) * R) (.int .u64 0)) 22 none] <+: S') ?_ M' _ _
      ⟨0, by rw [powM_zero w hk]; simp, by omega, by omega, by simp [rowsV]⟩
    rintro st S' m ⟨j, rfl, hj, rfl, hp⟩
    have hp' := pre_of_add hp
    have hb5 := pre_get hp' hb3
    have hlen := rowsV_len p w R j
    have hbl := pre_get hp get_new
    have h7 := h5.trans hp'
    rcases Nat.lt_or_ge j M' with h8 | h8
    · have h9 : j * R + R ≤ M' * R := by rw [← Nat.succ_mul]; exact Nat.mul_le_mul_right _ h8
      have hm := mul_w (p := p) (powM_range p w j) hb1
      rw [mulF_powM1] at hm
      have hpw : powersV p (powM p w j) (R : Int) = (powsV p (powM p w j) R, 0) := by unfold powersV; rw [if_pos hk, if_neg (by omega), Int.toNat_natCast]
      simp only [wps, cell_blk hb5, hR, hM', hm]
      rw [show (M' : Int) * R = ((M' * R : Nat) : Int) by rw [Int.natCast_mul], wI_ (n := ((M' * R : Nat) : Int)) (by omega) (by omega)]
      refine ⟨fun h10 => ?_, fun h10 => by omega⟩
      refine (powers_w (p := p) (a := powM p w j) (powM_range p w j)).use ?_
      rintro _ S3 h11 ⟨b, k', rfl, hpa, hpb⟩
      rw [hpw] at hpa hpb ⊢
      obtain ⟨rfl, hk', hpc⟩ := hpb rfl
      simp only [wps, powsV_len]
      refine rdN_ar hpc (by rw [List.length_map, powsV_len]) ?_
      have hbl2 := pre_get h11 hbl
      refine wp_app_in hbl2 h9 ?_ (by simp [leafV]) ?_
      · simp only [List.length_map, powsV_len, List.length_append, List.length_replicate, hlen]
        have : (M' - j) * R = M' * R - j * R := Nat.sub_mul ..
        omega
      · simp only [wps]
        refine ⟨M' - (j + 1), by omega, j + 1, by rw [Nat.succ_mul], by omega, rfl, ?_⟩
        have e4 : splice ((rowsV p w R j).map (.int .u64) ++ List.replicate ((M' - j) * R) (.int .u64 0)) (j * R) ((powsV p (powM p w j) R).map (.int .u64)) = (rowsV p w R (j + 1)).map (.int .u64) ++ List.replicate ((M' - (j + 1)) * R) (.int .u64 0) := by
          have e5 : (M' - j) * R - R = (M' - (j + 1)) * R := by rw [← Nat.sub_one_mul, Nat.sub_sub]
          unfold splice
          rw [rowsV, List.take_append_of_le_length (by simp [hlen]), List.take_of_length_le (by simp [hlen]), List.drop_append, List.drop_of_length_le (by simp [hlen])]
          simp [hlen, powsV_len, e5]
        rw [e4]
        exact pre_top (hp.trans h11)
    · obtain rfl : j = M' := by omega
      simp only [wps, cell_blk hb5, hR, hM']
      rw [show (j : Int) * R = ((j * R : Nat) : Int) by rw [Int.natCast_mul], wI_ (n := ((j * R : Nat) : Int)) (by omega) (by omega)]
      refine ⟨fun h10 => by omega, fun h10 => ?_⟩
      refine ⟨h7, _, _, by rw [hlen], ?_⟩
      rw [Nat.sub_self, Nat.zero_mul, List.replicate_zero, List.append_nil] at hbl
      exact arU_blk hbl
end Go.AM
set_option linter.unusedVariables false
set_option linter.unusedSimpArgs false
namespace Go.AM
open Go Go.Proofs.YtcilfgedcnehfaaDoor
theorem steps_tail {inv : Bool} {k : Int} {b sa : Option Addr} {sts : List Sg} {nl q n1 : Nat} {S0 S : St} {dn : List Stp} {Q : Nat × List Value → St → Prop}
    (h : Ap S0 none S sa q 37 5 (dn.flatMap eStp)) (hr : Ar S b nl 3 eSg sts) (hne : ∀ x, b = some x → sa ≠ some ⟨x.block, 0, none⟩)
    (hn : S[n1]? = some (.cells [vI k, vB true, vI 0, vI 0, vI 0] 37 none)) (hk : 0 ≤ k ∧ k < 1000) (hsz : dn.length + sts.length + 1 ≤ 100000)
    (hq : ∀ sa' q' S', Ap S0 none S' sa' q' 37 5 ((dn ++ sts.map (stg k) ++ (if inv = true then [tw k] else [])).flatMap eStp) → Q (0, [.slice sa' q' q', vI (k + 1)]) S') :
    WP (k_plan_Steps_1 inv k ⟨b, nl, nl⟩ n1 (0, [.slice sa q q])) S Q := by
  have hnl := hr.1
  unfold k_plan_Steps_1
  simp only [wps]
  refine wp_loop (fun st S' m => ∃ (j : Nat) (sa' : Option Addr) (q' : Nat), st = [.slice sa' q' q', vI j] ∧ j ≤ nl ∧ m = nl - j ∧ Ap S sa S' sa' q' 37 5 ((dn ++ (sts.take j).map (stg k)).flatMap eStp)) ?_ nl _ _
    ⟨0, sa, q, rfl, by omega, by omega, by simpa using h.start⟩
  rintro st S' m ⟨j, sa', q', rfl, hj, rfl, ha⟩
  have hcnt := ha.cnt (fun _ => rfl) (by decide)
  simp only [List.length_append, List.length_map, List.length_take] at hcnt
  simp only [wps]
  refine ⟨fun h3 => ⟨h3, ?_⟩, fun h3 => ?_⟩
  · have hj' : j < sts.length := by omega
    obtain ⟨a, rfl, c1, c2, c3⟩ := (ha.kAr hr hne).getSg hj'
    simp only [wps, c1, c2, c3]
    refine wp_push (ha.more (List.prefix_append _ _)) rfl (by omega) (by omega) rfl ?_
    intro b' S2 h6
    simp only [wps]
    rw [wI_ (n := (j : Int) + 1) (by omega) (by omega)]
    refine ⟨nl - (j + 1), by omega, j + 1, _, _, rfl, by omega, rfl, ?_⟩
    have e : (dn ++ (sts.take (j + 1)).map (stg k)).flatMap eStp = (dn ++ (sts.take j).map (stg k)).flatMap eStp ++ [vI k, vB false, vI sts[j].R, vI sts[j].L, vI sts[j].M] := by
      have e0 : (sts.take (j + 1)).map (stg k) = (sts.take j).map (stg k) ++ [stg k sts[j]] := by
        rw [List.take_add_one, List.getElem?_eq_getElem hj', List.map_append]; rfl
      rw [e0, ← List.append_assoc, List.flatMap_append]; rfl
    rw [e]; exact h6
  · rw [List.take_of_length_le (by omega)] at ha
    have hb := ha.cells hn
    rw [wI_ (n := k + 1) (by omega) (by omega)]
    simp only [wps, cell_blk hb]
    refine ⟨fun hi => ?_, fun hi => ?_⟩
    · refine wp_push ha rfl (by omega) (by omega) rfl ?_
      intro b' S2 h6
      simp only [wps]
      refine hq _ _ _ ?_
      rw [hi, if_pos rfl]
      have := h.trans (h.start.trans h6)
      simpa [eStp, tw] using h.trans h6
    · refine hq _ _ _ ?_
      rw [hi, if_neg (by simp), List.append_nil]
      exact h.trans ha
theorem steps_w {p : Int} {S : St} {axes : Option Addr} {n c : Nat} {l : List Ax} (h : Ar S axes n 2 eAx l) (hl : n ≤ 8796093022208) (inv : Bool) :
    WP (g_plan_Steps [vU p, .slice axes n c, vB inv]) S fun v S' => ∃ a, v = vT [.slice a (stepsV p l inv).1.length (stepsV p l inv).1.length, vI (stepsV p l inv).2] ∧ Ap S none S' a (stepsV p l inv).1.length 37 5 ((stepsV p l inv).1.flatMap eStp) := by
  have hn := h.1
  rw [g_plan_Steps_eq]
  simp only [wps]
  refine (grid_w h hl).use ?_
  rintro _ S1 h1 rfl
  simp only [wps]
  unfold stepsV
  refine ⟨fun h2 => by rw [if_neg h2]; exact ⟨none, rfl, Ap.nil.more h1⟩, fun h2 => ?_⟩
  rw [if_pos h2]
  obtain ⟨hk, hal, hall⟩ := grid_ok h2
  have h4 : n ≤ 4 := by have := (allV_len hal).2.1; simp [dimsOf] at this; omega
  have hbig := (steps_are inv l (fun a ha => (hall a ha).1) l 0 rfl).2
  generalize hG : stepsGo inv 0 l = G
  have hG' : stepsGo inv ((0 : Nat) : Int) l = G := hG
  rw [hG'] at hbig
  refine wp_loop (fun st S' m => ∃ (j : Nat) (sa : Option Addr) (q : Nat) (dn : List Stp), st = [.slice sa q q, vI j] ∧ j ≤ n ∧ m = n - j ∧ Ap S1 none S' sa q 37 5 (dn.flatMap eStp) ∧
    dn ++ stepsGo inv j (l.drop j) = G) ?_ n _ _ ⟨0, none, 0, [], rfl, by omega, by omega, .nil, by simpa using hG'⟩
  rintro st S' m ⟨j, sa, q, dn, rfl, hj, rfl, ho, hd⟩
  have hq := ho.cnt (fun _ => rfl) (by decide)
  simp only [wps]
  refine ⟨fun h3 => ⟨h3, ?_⟩, fun h3 => ?_⟩
  · have hj' : j < l.length := by omega
    obtain ⟨a, rfl, c1, c2⟩ := (h.mono (h1.trans ho.pre)).getAx hj'
    rw [List.drop_eq_getElem_cons hj', stepsGo] at hd
    have hst := stages_facts (hall _ (List.getElem_mem hj')).1
    have hbd : dn.length + (stagesV l[j].N).1.length + 2 ≤ 100000 := by
      have : (dn ++ _).length = _ := congrArg List.length hd
      simp only [List.length_append, List.length_map] at this
      omega
    simp only [wps, c1, c2]
    refine stages_w.mono ?_
    rintro _ S2 ⟨b, rfl, hsa⟩
    have h5 := hsa.pre
    have hb1 := pre_get h5 get_new
    have ho2 := ho.more (pre_of_add h5)
    have har := hsa.ar (fun _ => rfl) (by decide)
    have hfr : ∀ x, b = some x → S'.length < x.block := fun x hx => by have := hsa.new hx; simp at this; omega
    simp only [wps, hst.1]
    have hb2 : ∀ o, (S2 ++ [o])[S'.length]? = _ := fun o => get_add hb1
    have fin : ∀ (sa' : Option Addr) (q' : Nat) (S' : St), Ap S1 none S' sa' q' 37 5 ((dn ++ (if l[j].neg = true ∧ inv = false then [tw j] else []) ++ (stagesV l[j].N).1.map (stg j) ++ (if inv = true then [tw j] else [])).flatMap eStp) →
        ∃ n', n' < n - j ∧ ∃ (j_1 : Nat) (sa : Option Addr) (q : Nat) (dn : List Stp), [Value.slice sa' q' q', vI (j + 1)] = [Value.slice sa q q, vI ↑j_1] ∧ j_1 ≤ n ∧ n' = n - j_1 ∧ Ap S1 none S' sa q 37 5 (List.flatMap eStp dn) ∧ dn ++ stepsGo inv ↑j_1 (List.drop j_1 l) = G := by
      intro sa' q' S' hap
      refine ⟨n - (j + 1), by omega, j + 1, sa', q', _, by simp, by omega, rfl, hap, ?_⟩
      rw [← hd, show ((j : Int) + 1) = ((j + 1 : Nat) : Int) by omega]
      simp only [List.append_assoc]
    simp only [wps, fun o => cell_blk (hb2 o)]
    refine ⟨fun h6 => ⟨fun h7 => ?_, fun h7 => ?_⟩, fun h6 => ?_⟩
    · have hin : ∀ x, b = some x → sa ≠ some ⟨x.block, 0, none⟩ := fun x hx e => by
        have := hfr x hx
        have h9 := ho.lt e
        omega
      have hm := ho2.more (List.prefix_append S2 [.cells [vI (j : Int), vB true, vI 0, vI 0, vI 0] 37 none])
      refine wp_push (bt := 40) hm.start rfl (by omega) (by omega) rfl ?_
      intro b' S3 h8
      have h9 := hm.trans h8
      have e9 : dn.flatMap eStp ++ [vI (j : Int), vB true, vI 0, vI 0, vI 0] = (dn ++ [tw j]).flatMap eStp := by simp [eStp, tw]
      rw [e9] at h9
      refine steps_tail (sts := (stagesV l[j].N).1) h9 (h8.kAr (har.mono (List.prefix_append _ _)) hin) (fun x hx e => ?_) (h8.cells get_new) ⟨by omega, by omega⟩ (by simp; omega) ?_
      · rcases h8.at_ with h10 | ⟨c', h10, h11⟩
        · rw [h10] at e; exact hin x hx e
        · rw [h10] at e
          have h12 := hsa.below hx
          simp at e h11
          omega
      · intro sa' q' S' hap
        exact fin sa' q' S' (by rw [if_pos ⟨h6, h7⟩]; exact hap)
    · have h8 := ho2.more (List.prefix_append S2 [.cells [vI (j : Int), vB true, vI 0, vI 0, vI 0] 37 none])
      refine steps_tail (sts := (stagesV l[j].N).1) h8 (har.mono (List.prefix_append _ _)) (fun x hx e => ?_) get_new ⟨by omega, by omega⟩ (by omega) ?_
      · have := hfr x hx
        have h9 := ho.lt e
        omega
      · intro sa' q' S' hap
        exact fin sa' q' S' (by rw [if_neg (by simp [h7]), List.append_nil]; exact hap)
    · have h8 := ho2.more (List.prefix_append S2 [.cells [vI (j : Int), vB true, vI 0, vI 0, vI 0] 37 none])
      refine steps_tail (sts := (stagesV l[j].N).1) h8 (har.mono (List.prefix_append _ _)) (fun x hx e => ?_) get_new ⟨by omega, by omega⟩ (by omega) ?_
      · have := hfr x hx
        have h9 := ho.lt e
        omega
      · intro sa' q' S' hap
        exact fin sa' q' S' (by rw [if_neg (by simp [h6]), List.append_nil]; exact hap)
  · rw [List.drop_eq_nil_of_le (by omega), stepsGo, List.append_nil] at hd
    subst hd
    rw [← hq]
    exact ⟨sa, rfl, (Ap.nil.more h1).trans ho⟩
end Go.AM
set_option linter.unusedVariables false
set_option linter.unusedSimpArgs false
namespace Go.AM
open Go Go.Proofs.YtcilfgedcnehfaaDoor
theorem make_w {p : Int} {S : St} {axes : Option Addr} {n c : Nat} {l : List Ax} (h : Ar S axes n 2 eAx l) (hl : n ≤ 8796093022208) (inv : Bool) :
    Sp (g_plan_Make [vU p, .slice axes n c, vB inv]) S fun v S' => ∃ a, v = vT [vA [vI (makeV p l inv).1.N, vI (makeV p l inv).1.T, vI (makeV p l inv).1.W, .slice a (makeV p l inv).1.st.length (makeV p l inv).1.st.length], vI (makeV p l inv).2] ∧
      Ar S' a (makeV p l inv).1.st.length 5 eStp (makeV p l inv).1.st := by
  unfold Sp
  have hn := h.1
  rw [g_plan_Make_eq]
  simp only [wps]
  refine (steps_w (h.mono (List.prefix_append _ _)) hl inv).mono ?_
  rintro _ S1 ⟨a, rfl, hap⟩
  have h1 := hap.pre
  have h0 := pre_of_add h1
  have hb := pre_get h1 get_new
  have har := hap.ar (fun _ => rfl) (by decide)
  unfold makeV
  unfold stepsV at hap har ⊢
  by_cases h2 : gridV p l = 0
  · simp only [if_pos h2] at hap har ⊢
    obtain ⟨hk, hal, hall⟩ := grid_ok h2
    have h4 : n ≤ 4 := by have := (allV_len hal).2.1; simp [dimsOf] at this; omega
    obtain ⟨hst, hsl⟩ := steps_are inv l (fun a ha => (hall a ha).1) l 0 rfl
    simp only [wps]
    refine (dims_w (h.mono h0) hl).use ?_
    rintro _ S2 h5 ⟨a2, k2, rfl, hd⟩
    simp only [wps, (all_w hd).wp, hal]
    have hN : (allV (dimsOf l)).1 = nV l := rfl
    rw [hN]
    generalize hG : stepsGo inv 0 l = G at hap har ⊢
    have hst : ∀ s ∈ G, IsStep l s := by rw [← hG]; exact hst
    have hsl : G.length ≤ l.length * 4098 := by rw [← hG]; exact hsl
    refine wp_loop (fun st S' m => ∃ (j : Nat) (t : Int), st = [vI j] ∧ j ≤ G.length ∧ m = G.length - j ∧ S2 ++ [.cells [vI (nV l), vI t, vI 0, .slice a G.length G.length] 49 none] <+: S' ∧ 0 ≤ t ∧ t ≤ 4096 ∧
      mkGo p l inv 0 G = mkGo p l inv t (G.drop j)) ?_ G.length _ _ ⟨0, 0, rfl, by omega, by omega, List.prefix_rfl, by omega, by omega, by simp⟩
    rintro st S' m ⟨j, t, rfl, hj, rfl, hp, ht0, ht1, hg⟩
    have h6 := (h5.trans (pre_of_add hp))
    have hbl := pre_get hp get_new
    simp only [wps]
    refine ⟨fun h3 => ⟨h3, ?_⟩, fun h3 => ?_⟩
    · have hj' : j < G.length := by omega
      obtain ⟨x, rfl, c1, c2, c3, c4, c5⟩ := (har.mono h6).getStp hj'
      have hs := hst _ (List.getElem_mem hj')
      have hs0 := stepV_ok p l _ h2 hs
      have htl := tab_len inv h2 hs
      simp only [wps, c1, c2, c3, c4, c5]
      refine (table_w (h.mono ((h0.trans h6).trans (List.prefix_append _ _))) hl inv G[j]).use ?_
      rintro _ S3 h7 ⟨b, k, rfl, _⟩
      have hb2 := pre_get (pre_of_add h7) hbl
      unfold tableV
      simp only [hs0, if_true]
      simp only [wps, cell_blk hb2, hb2]
      refine ⟨by simp, G.length - (j + 1), by omega, j + 1, _, by rw [wI_ (n := (j : Int) + 1) (by omega) (by omega)]; simp, by omega, rfl, pre_top (hp.trans (pre_of_add h7)), ?_, ?_, ?_⟩
      · split <;> omega
      · split <;> omega
      · rw [List.drop_eq_getElem_cons hj', mkGo] at hg
        exact hg
    · rw [List.drop_eq_nil_of_le (by omega), mkGo] at hg
      have hn1 := nV_range h2
      have hb3 := pre_get (h6) hb
      have hlt1 := pre_lt hbl
      have hlt2 := pre_lt hb3
      have hne : S.length < S2.length := pre_lt (pre_get h5 hb)
      rw [wI_ (n := nV l + 6) (by omega) (by omega), wI_ (n := 2 * (nV l + 6)) (by omega) (by omega)]
      have g1 : ∀ o, (S'.set S2.length o)[S2.length]? = some o := fun o => by rw [List.getElem?_set_self hlt1]
      have g2 : ∀ o, (S'.set S2.length o)[S.length]? = some _ := fun o => by rw [List.getElem?_set_ne (by omega)]; exact hb3
      have g3 : ∀ o o', ((S'.set S2.length o).set S.length o')[S.length]? = some o' := fun o o' => by rw [List.getElem?_set_self (by simpa using hlt2)]
      simp only [wps, cell_blk hbl, hbl, g2, fun o c t g => cell_blk (g1 (AObj.cells c t g)) o]
      have g4 : ∀ c t g o, St.cell (S'.set S2.length (AObj.cells c t g)) ⟨S2.length, o, none⟩ = c[o]? := fun c t g o => cell_blk (g1 _) o
      have g5 : ∀ o' c t g o, St.cell ((S'.set S2.length o').set S.length (AObj.cells c t g)) ⟨S.length, o, none⟩ = c[o]? := fun o' c t g o => cell_blk (g3 _ _) o
      simp only [wps, g4, g2, g5]
      rw [wI_ (n := 2 * (nV l + 6) + t) (by omega) (by omega)]
      refine ⟨by omega, pre_set' (pre_set' (h0.trans h6) (by omega)) (Nat.le_refl _), a, ?_, ?_⟩
      · rw [hg]
      · refine ((har.mono h6).set (fun x hx => ?_)).set fun x hx => ?_
        · have := hap.below hx
          have := h5.length_le
          omega
        · have := hap.new hx
          simp at this; omega
  · simp only [if_neg h2] at hap har ⊢
    have hlt := pre_lt hb
    have g5 : ∀ c t g o, St.cell (S1.set S.length (AObj.cells c t g)) ⟨S.length, o, none⟩ = c[o]? := fun c t g o => cell_blk (List.getElem?_set_self hlt) o
    simp only [wps, hb, g5]
    refine ⟨fun _ => ⟨pre_set' h0 (Nat.le_refl _), none, rfl, .nil⟩, fun h => absurd h h2⟩
end Go.AM
set_option linter.unusedVariables false
set_option linter.unusedSimpArgs false
namespace Go.AM
open Go Go.Proofs.YtcilfgedcnehfaaDoor
end Go.AM
set_option linter.unusedVariables false
set_option linter.unusedSimpArgs false
namespace Go.AM
open Go Go.Proofs.YtcilfgedcnehfaaDoor
theorem in_w {p : Int} {S : St} {a : Option Addr} {n c : Nat} {l : List Int} (h : Ar S a n 1 eU l) (hn : n ≤ 140737488355328) : Gv (g_field_In [vU p, .slice a n c]) S (vB (inV p l)) := by
  refine .of ?_
  have hl := h.1
  rw [g_field_In_eq]
  simp only [wps, known_w]
  refine wp_loop (fun st S' m => ∃ j : Nat, st = [vI j] ∧ j ≤ n ∧ m = n - j ∧ S' = S ∧ (l.take j).all (fun a => decide (a < p)) = true) ?_ n _ _ ⟨0, rfl, by omega, by omega, rfl, by simp⟩
  rintro st S' m ⟨j, rfl, hj, rfl, rfl, hg⟩
  simp only [wps]
  unfold inV
  refine ⟨fun h3 => ⟨h3, ?_⟩, fun h3 => ?_⟩
  · have hj' : j < l.length := by omega
    obtain ⟨x, rfl, c1⟩ := h.getU hj'
    simp only [wps, c1]
    refine ⟨fun h4 => ?_, fun h4 => ⟨n - (j + 1), by omega, j + 1, by rw [wI_ (n := (j : Int) + 1) (by omega) (by omega)]; simp, by omega, rfl, ?_⟩⟩
    · have : l.all (fun a => decide (a < p)) = false := by
        rw [List.all_eq_false]
        exact ⟨l[j], List.getElem_mem hj', by simp; omega⟩
      rw [this]; simp
    · rw [List.take_add_one, List.getElem?_eq_getElem hj', List.all_append, hg]
      simp; omega
  · rw [List.take_of_length_le (by omega)] at hg
    rw [hg]; simp
theorem between_w {n a b : Int} : g_plan_between [vI n, vI a, vI b] = M.ret (vB (decide (a ≤ n ∧ n ≤ b))) := by
  refine wp_eq fun S => ?_
  rw [g_plan_between_eq]
  simp only [wps]
  refine ⟨fun h => ?_, fun h => ?_⟩
  · by_cases h2 : n ≤ b <;> simp [h, h2]
  · simp [h]
theorem pc1_w {S : St} {q : Req} {a1 a4 a5 : Option Addr} {c1 c4 c5 b : Nat} {n : Int} {t : TypeId} (hb : S[b]? = some (.cells [vI n] t none)) :
    Sp (g_plan_Check_1 [qv q a1 c1 a4 c4 a5 c5, .pointer (some (ad b 0))]) S fun v S' => v = vB ((q.X.length : Int) != wI (n * q.batch)) := by
  unfold Sp
  rw [g_plan_Check_1_eq]
  have hb2 : ∀ o, (S ++ [o])[b]? = _ := fun o => get_add hb
  simp only [wps, fun o => cell_blk (hb2 o)]
  exact List.prefix_append _ _
theorem pc2_w {S : St} {q : Req} {a1 a4 a5 : Option Addr} {c1 c4 c5 : Nat} (h : QA S q a1 a4 a5) :
    Sp (g_plan_Check_2 [qv q a1 c1 a4 c4 a5 c5]) S fun v S' => v = vB (!inV q.P q.X) := by
  unfold Sp
  rw [g_plan_Check_2_eq]
  simp only [wps, (in_w (h.x.mono (List.prefix_append S [AObj.cells (qc q a1 c1 a4 c4 a5 c5) 44 none])) h.b2).wp]
  exact List.prefix_append _ _
theorem pc3_w {S : St} {q : Req} {a1 a4 a5 : Option Addr} {c1 c4 c5 : Nat} :
    Sp (g_plan_Check_3 [qv q a1 c1 a4 c4 a5 c5]) S fun v S' => v = vB (!decide (1 ≤ q.seeds.length ∧ q.seeds.length ≤ 4)) := by
  unfold Sp
  rw [g_plan_Check_3_eq]
  simp only [wps, between_w]
  refine ⟨List.prefix_append _ _, ?_⟩
  have e : (1 ≤ (q.seeds.length : Int) ∧ (q.seeds.length : Int) ≤ 4) = (1 ≤ q.seeds.length ∧ q.seeds.length ≤ 4) := propext (by omega)
  simp only [e]
theorem check_w {C : FuncId → List Value → M Value} {S : St} {q : Req} {a1 a4 a5 : Option Addr} {c1 c4 c5 : Nat} (h : QA S q a1 a4 a5) :
    Sp (g_plan_Check C [qv q a1 c1 a4 c4 a5 c5]) S fun v S' => v = vI (checkV q) := by
  unfold Sp
  rw [g_plan_Check_eq]
  have hk1 : ∀ S1 Q, Q (vI 1) S1 → WP (k_plan_Check_1 C S.length (1, [vI 1])) S1 fun a S' => WP (oneV a) S' Q := by
    intro S1 Q hq
    unfold k_plan_Check_1
    simp only [wps]; exact hq
  have hp : S <+: S ++ [AObj.cells (qc q a1 c1 a4 c4 a5 c5) 44 none] := List.prefix_append _ _
  have key : (1 ≤ q.batch ∧ q.batch ≤ 16 ∧ 0 ≤ q.retry ∧ q.retry ≤ 8 ∧ 0 ≤ q.again ∧ q.again ≤ 8) → WP (k_plan_Check_1 C S.length (0, [])) (S ++ [AObj.cells (qc q a1 c1 a4 c4 a5 c5) 44 none]) fun a S' => WP (oneV a) S' fun v S' => S <+: S' ∧ v = vI (checkV q) := by
    intro hc
    have hb : ∀ k, St.cell (S ++ [AObj.cells (qc q a1 c1 a4 c4 a5 c5) 44 none]) ⟨S.length, k, none⟩ = (qc q a1 c1 a4 c4 a5 c5)[k]? := fun k => cell_blk get_new k
    unfold checkV k_plan_Check_1
    rw [if_pos hc]
    simp only [wps]
    refine (grid_w (h.ax.mono hp) h.b1).use ?_
    rintro _ S1 h1 rfl
    have hb1 := pre_get h1 get_new
    simp only [wps, cell_blk hb1]
    refine ⟨fun h2 => ⟨hp.trans h1, by rw [if_neg h2]⟩, fun h2 => ?_⟩
    rw [if_pos h2]
    obtain ⟨hk, hal, hall⟩ := grid_ok h2
    have hn1 := nV_range h2
    refine (dims_w (h.ax.mono (hp.trans h1)) h.b1).use ?_
    rintro _ S2 h3 ⟨b, k, rfl, hd⟩
    have hN : (allV (dimsOf q.axes)).1 = nV q.axes := rfl
    have hb2 := get_add (t := [AObj.cells [vI (nV q.axes)] 3 none]) (pre_get h3 hb1)
    simp only [wps, (all_w hd).wp, hal, hN]
    have hS2 := hp.trans (h1.trans h3)
    have hqa := h.mono (hS2.trans (List.prefix_append S2 [AObj.cells [vI (nV q.axes)] 3 none]))
    have hnb : nV q.axes * q.batch ≤ 4096 * 16 := Int.mul_le_mul hn1.2 (by omega) (by omega) (by omega)
    have hnb0 : 0 ≤ nV q.axes * q.batch := Int.mul_nonneg (by omega) (by omega)
    -- the first look
    have hql : S[S.length]? = none := by simp
    have hbq := get_add (t := [AObj.cells [vI (nV q.axes)] 3 none]) (pre_get (h1.trans h3) get_new)
    refine wp_round ?_
    have hx2 : ∀ o o' k, St.cell (S2 ++ [o] ++ [o']) ⟨S.length, k, none⟩ = (qc q a1 c1 a4 c4 a5 c5)[k]? := fun o o' k => cell_blk (get_add (get_add (pre_get (h1.trans h3) get_new))) k
    simp only [wps, Nat.reduceMul, Int.reduceLT, Int.reduceLE, Nat.reduceBEq, hx2]
    refine (pc1_w (get_add get_new)).use ?_
    rintro _ S3 h4 rfl
    simp only [wps, cell_blk (pre_get h4 get_new)]
    rw [wI_ (n := nV q.axes * q.batch) (by omega) (by omega)]
    refine ⟨fun h5 => ⟨(hS2.trans (pre_of_add (pre_of_add h4))), by rw [if_neg h5]⟩, fun h5 => ?_⟩
    rw [if_pos h5, show wI (0 + 1) = 1 from rfl]
    have hq3 := h.mono (hS2.trans (pre_of_add (pre_of_add h4)))
    have hb3 := pre_get h4 (get_add (get_add (pre_get (h1.trans h3) get_new)))
    have hx3 : ∀ o k, St.cell (S3 ++ [o]) ⟨S.length, k, none⟩ = (qc q a1 c1 a4 c4 a5 c5)[k]? := fun o k => cell_blk (get_add hb3) k
    have hS3 := hS2.trans (pre_of_add (pre_of_add h4))
    -- the second look
    refine wp_round ?_
    simp only [wps, Nat.reduceMul, Int.reduceLT, Int.reduceLE, Nat.reduceBEq, hx3]
    refine (pc2_w (hq3.mono (List.prefix_append _ _))).use ?_
    rintro _ S4 h6 rfl
    simp only [wps, cell_blk (pre_get h6 get_new)]
    have hS4 := hS3.trans (pre_of_add h6)
    refine ⟨fun h7 => ⟨hS4, by rw [if_neg (by simp [h7])]⟩, fun h7 => ?_⟩
    rw [if_pos h7, show wI (1 + 1) = 2 from rfl]
    have hb4 := pre_get h6 (get_add (t := [AObj.cells [Value.func (Fn.func 60) (ar ([])) (ar ([])), vI 7] 94 none]) hb3)
    have hx4 : ∀ o k, St.cell (S4 ++ [o]) ⟨S.length, k, none⟩ = (qc q a1 c1 a4 c4 a5 c5)[k]? := fun o k => cell_blk (get_add hb4) k
    -- the third look
    refine wp_round ?_
    simp only [wps, Nat.reduceMul, Int.reduceLT, Int.reduceLE, Nat.reduceBEq, hx4]
    refine pc3_w.use ?_
    rintro _ S5 h8 rfl
    simp only [wps, cell_blk (pre_get h8 get_new)]
    have hS5 := hS4.trans (pre_of_add h8)
    refine ⟨fun h9 => ⟨hS5, by rw [if_neg h9]⟩, fun h9 => ?_⟩
    rw [if_pos h9, show wI (2 + 1) = 3 from rfl]
    refine wp_round ?_
    simp only [wps, Int.reduceLT]
    exact hS5
  simp only [wps, between_w]
  have one : ¬ (1 ≤ q.batch ∧ q.batch ≤ 16 ∧ 0 ≤ q.retry ∧ q.retry ≤ 8 ∧ 0 ≤ q.again ∧ q.again ≤ 8) → checkV q = 1 := fun h => by unfold checkV; rw [if_neg h]
  refine ⟨fun h1 => hk1 _ _ ⟨hp, by rw [one (by omega)]⟩, fun h1 => ⟨fun h2 => hk1 _ _ ⟨hp, by rw [one (by omega)]⟩, fun h2 => ⟨fun h3 => hk1 _ _ ⟨hp, by rw [one (by omega)]⟩, fun h3 => key (by omega)⟩⟩⟩
end Go.AM
set_option linter.unusedVariables false
set_option linter.unusedSimpArgs false
namespace Go.AM
open Go Go.Proofs.YtcilfgedcnehfaaDoor
theorem r07dims_w {S : St} {axes : Option Addr} {n c : Nat} {l : List Ax} (h : Ar S axes n 2 eAx l) (hl : n ≤ 8796093022208) :
    WP (g_r07_Dims [.slice axes n c]) S fun v S' => ∃ a, v = .slice a n n ∧ Ap S none S' a n 3 1 ((dimsOf l).flatMap eI) := by
  have hn := h.1
  rw [g_r07_Dims_eq]
  simp only [wps]
  refine wp_loop (fun st S' m => ∃ (j : Nat) (a : Option Addr), st = [.slice a j j, vI j] ∧ j ≤ n ∧ m = n - j ∧ Ap S none S' a j 3 1 (((dimsOf l).take j).flatMap eI)) ?_ n _ _ ⟨0, none, rfl, by omega, by omega, .nil⟩
  rintro st S' m ⟨j, a, rfl, hj, rfl, ha⟩
  simp only [wps]
  refine ⟨fun h3 => ⟨h3, ?_⟩, fun h3 => ?_⟩
  · have hj' : j < l.length := by omega
    obtain ⟨x, rfl, c1, c2⟩ := (h.mono ha.pre).getAx hj'
    simp only [wps, c1, c2]
    refine wp_push (bt := 8) (ha.more (List.prefix_append _ _)) rfl (by omega) (by omega) rfl ?_
    intro b S2 h4
    simp only [wps]
    refine ⟨n - (j + 1), by omega, j + 1, _, by rw [wI_ (n := (j : Int) + 1) (by omega) (by omega)]; rfl, by omega, rfl, ?_⟩
    rw [List.take_add_one, List.flatMap_append]
    simpa [dimsOf, hj', eI] using h4
  · obtain rfl : j = n := by omega
    rw [List.take_of_length_le (by simp [dimsOf]; omega)] at ha
    exact ⟨a, rfl, ha⟩
theorem r05all_w {S : St} {dims : Option Addr} {n c : Nat} {l : List Int} (h : Ar S dims n 1 eI l) : Gv (g_r05_All [.slice dims n c]) S (vT [vI (allV l).1, vI (allV l).2]) := by
  refine .of ?_
  rw [g_r05_All_eq]
  have hn := h.1
  simp only [wps]
  refine ⟨fun h1 => by simp [allV, show l.length < 1 by omega], fun h1 => ⟨fun h2 => by simp [allV, show 4 < l.length by omega], fun h2 => ?_⟩⟩
  have e : allV l = rallGo 1 l := by unfold allV; rw [if_neg (by omega), rall_all _ _ (by omega)]
  rw [e]
  refine wp_loop (fun st S' m => ∃ (i : Nat) (x : Int), st = [.int .i64 x, .int .i64 i] ∧ S' = S ∧ i ≤ n ∧ m = n - i ∧ 1 ≤ x ∧ x ≤ 4096 ^ i ∧ rallGo 1 l = rallGo x (l.drop i)) ?_ n _ _ ⟨0, 1, rfl, rfl, by omega, by omega, by omega, by decide, by simp⟩
  rintro st S' m ⟨i, x, rfl, rfl, hi, rfl, h3, h4, hg⟩
  simp only [wps]
  refine ⟨fun h5 => ⟨h5, ?_⟩, fun h5 => ?_⟩
  · obtain ⟨a, rfl, hc⟩ := h.getI (i := i) (by omega)
    rw [List.drop_eq_getElem_cons (by omega), rallGo] at hg
    simp only [wps, hc]
    refine ⟨fun h6 => ?_, fun h6 => ⟨fun h7 => ?_, fun h7 => ?_⟩⟩
    · rw [if_pos (.inl h6)] at hg; simp [hg, wps]
    · rw [if_pos (.inr h7)] at hg; simp [hg, wps]
    · rw [if_neg (by omega)] at hg
      have hb1 : 1 ≤ x * l[i] := by
        have := Int.mul_le_mul h3 (show 1 ≤ l[i] by omega) (by omega) (by omega)
        simpa using this
      have hb2 : x * l[i] ≤ 4096 ^ i * 4096 := Int.mul_le_mul h4 (by omega) (by omega) (Int.pow_nonneg (by omega))
      have hb3 : (4096 : Int) ^ i * 4096 ≤ 4096 ^ 3 * 4096 := Int.mul_le_mul_of_nonneg_right (by
        have : i ≤ 3 := by omega
        have h9 : i = 0 ∨ i = 1 ∨ i = 2 ∨ i = 3 := by omega
        rcases h9 with rfl | rfl | rfl | rfl <;> decide) (by omega)
      rw [wI_ (n := x * l[i]) (by omega) (by omega), wI_ (n := (i : Int) + 1) (by omega) (by omega)]
      exact ⟨n - (i + 1), by omega, i + 1, _, rfl, by omega, rfl, hb1, by rw [Int.pow_succ]; exact hb2, hg⟩
  · rw [List.drop_eq_nil_iff.2 (by omega), rallGo] at hg
    refine ⟨fun h6 => ?_, fun h6 => ?_⟩
    · rw [if_pos h6] at hg; rw [hg]
    · rw [if_neg h6] at hg; rw [hg]
theorem r07few_w {S : St} {axes : Option Addr} {n c : Nat} {l : List Ax} {m : Int} (h : Ar S axes n 2 eAx l) (hl : n ≤ 8796093022208) :
    Sp (g_r07_Few [.slice axes n c, vI m]) S fun v S' => v = vB (fewV l m) := by
  unfold Sp
  have hn := h.1
  rw [g_r07_Few_eq]
  simp only [wps]
  refine (r07dims_w h hl).mono ?_
  rintro _ S1 ⟨a, rfl, ha⟩
  simp only [wps, (r05all_w (ha.ar (fun _ => rfl) (by decide))).wp]
  unfold fewV
  refine ⟨fun h1 => ⟨fun h2 => ⟨ha.pre, ?_⟩, fun h2 => ⟨ha.pre, ?_⟩⟩, fun h1 => ⟨ha.pre, ?_⟩⟩
  · have : l.length ≤ 10 := by omega
    simp [h2, this]
  · have : l.length ≤ 10 := by omega
    simp [h2, this]
  · have : ¬ l.length ≤ 10 := by omega
    simp [this]
theorem r17few_w {S : St} {q : Req} {a1 a4 a5 : Option Addr} {c1 c4 c5 : Nat} {m : Int} (h : QA S q a1 a4 a5) (hm : 0 ≤ m ∧ m ≤ 1000) :
    Sp (g_r17_Few [qv q a1 c1 a4 c4 a5 c5, vI m]) S fun v S' => v = vB (few17 q m) := by
  unfold Sp
  rw [g_r17_Few_eq]
  simp only [wps]
  have hp : S <+: S ++ [AObj.cells (qc q a1 c1 a4 c4 a5 c5) 44 none] := List.prefix_append _ _
  refine (r07few_w (h.ax.mono hp) h.b1).use ?_
  rintro _ S1 h1 rfl
  simp only [wps, cell_blk (pre_get h1 get_new)]
  rw [wI_ (n := 4 * m) (by omega) (by omega)]
  have h2 := hp.trans h1
  unfold few17
  refine ⟨fun h3 => ⟨fun h4 => ⟨h2, ?_⟩, fun h4 => ⟨h2, ?_⟩⟩, fun h3 => ⟨h2, ?_⟩⟩
  · simp only [h3, h4, decide_true, Bool.true_and]
    congr 1
    exact decide_eq_decide.2 (by omega)
  · simp [h4]
  · simp [h3]
end Go.AM
set_option linter.unusedVariables false
set_option linter.unusedSimpArgs false
namespace Go.AM
open Go Go.Proofs.YtcilfgedcnehfaaDoor
theorem mul_bnd {a b A B : Int} (h1 : 0 ≤ a) (h2 : a ≤ A) (h3 : 0 ≤ b) (h4 : b ≤ B) : 0 ≤ a * b ∧ a * b ≤ A * B := ⟨Int.mul_nonneg h1 h3, Int.mul_le_mul h2 h4 h3 (by omega)⟩
end Go.AM
set_option linter.unusedVariables false
set_option linter.unusedSimpArgs false
namespace Go.AM
open Go Go.Proofs.YtcilfgedcnehfaaDoor
theorem Ar.getEv {S : St} {p : Option Addr} {n : Nat} {l : List Ev} (h : Ar S p n 6 Ev.cells l) {i : Nat} (hi : i < l.length) :
    ∃ a, p = some a ∧ S.cell (a.add (i * 6)) = some (vI l[i].it) ∧ S.cell ((a.add (i * 6)).add 1) = some (vI l[i].tr) ∧ S.cell ((a.add (i * 6)).add 2) = some (vI l[i].wi) ∧
      S.cell ((a.add (i * 6)).add 3) = some (vI l[i].ti) ∧ S.cell ((a.add (i * 6)).add 4) = some (vI l[i].ad) ∧ S.cell ((a.add (i * 6)).add 5) = some (vU l[i].ma) := by
  obtain ⟨a, h1, h2⟩ := h.2 i hi
  exact ⟨a, h1, by have := h2 0 _ rfl; rwa [add_zero_] at this, h2 1 _ rfl, h2 2 _ rfl, h2 3 _ rfl, h2 4 _ rfl, h2 5 _ rfl⟩
def winsV (q : Req) : Int × Int := if checkV q = 0 then (1 + (q.retry + 1) * (((stepsGo q.inv 0 q.axes).length : Int) + 1), 0) else (0, checkV q)
theorem wins_w {S : St} {q : Req} {a1 a4 a5 : Option Addr} {c1 c4 c5 : Nat} (h : QA S q a1 a4 a5) :
    Sp (g_trial_Windows [qv q a1 c1 a4 c4 a5 c5]) S fun v S' => v = vT [vI (winsV q).1, vI (winsV q).2] := by
  unfold Sp
  rw [g_trial_Windows_eq]
  simp only [wps]
  have hp : S <+: S ++ [AObj.cells (qc q a1 c1 a4 c4 a5 c5) 44 none] := List.prefix_append _ _
  refine (check_w (c1 := c1) (c4 := c4) (c5 := c5) (h.mono hp)).use ?_
  rintro _ S1 h1 rfl
  have hb1 := pre_get h1 get_new
  simp only [wps, cell_blk hb1]
  unfold winsV
  refine ⟨fun hc => by rw [if_neg hc]; exact ⟨hp.trans h1, rfl⟩, fun hc => ?_⟩
  rw [if_pos hc]
  obtain ⟨q1, q2, _⟩ := check_ok hc
  obtain ⟨f1, f2, f3, f4⟩ := cost_facts q2
  refine (steps_w (h.ax.mono (hp.trans h1)) h.b1 q.inv).mono ?_
  rintro _ S2 ⟨a, rfl, hap⟩
  have hb2 := pre_get hap.pre hb1
  have hs : stepsV q.P q.axes q.inv = (stepsGo q.inv 0 q.axes, 0) := by unfold stepsV; rw [if_pos q2]
  rw [hs]
  simp only [wps, cell_blk hb2]
  refine ⟨hp.trans (h1.trans hap.pre), ?_⟩
  obtain ⟨m1, m2⟩ := mul_bnd (a := q.retry + 1) (A := 9) (b := ((stepsGo q.inv 0 q.axes).length : Int) + 1) (B := 16393) (by omega) (by omega) (by omega) (by omega)
  rw [wI_ (n := q.retry + 1) (by omega) (by omega), wI_ (n := ((stepsGo q.inv 0 q.axes).length : Int) + 1) (by omega) (by omega), wI_ (n := (q.retry + 1) * (((stepsGo q.inv 0 q.axes).length : Int) + 1)) (by omega) (by omega), wI_ (by omega) (by omega)]
theorem chk10_w {S : St} {a : Option Addr} {n c : Nat} : Gv (g_script_Check [.slice a n c]) S (vI (if 1024 < n then 1 else 0)) := by
  refine .of ?_
  rw [g_script_Check_eq]
  simp only [wps]
  refine ⟨fun h => by rw [if_pos (by omega)], fun h => by rw [if_neg (by omega)]⟩
def belowB (n most : Int) : Bool := decide (0 ≤ n ∧ n < most)
theorem below_w {n m : Int} : g_sparse_below [vI n, vI m] = M.ret (vB (belowB n m)) := by
  refine wp_eq fun S => ?_
  rw [g_sparse_below_eq]
  simp only [wps]
  unfold belowB
  refine ⟨fun h => ?_, fun h => ?_⟩
  · simp [h]
  · simp; omega
def liveE (q : Req) (wins W : Int) (x : Ev) : Bool := belowB x.it q.batch && belowB x.tr (q.again + 1) && belowB x.wi wins && belowB x.ad W && decide (x.ma ≠ 0)
theorem live1_w {S : St} {q : Req} {a1 a4 a5 : Option Addr} {c1 c4 c5 b0 b1 b2 : Nat} {wins N T W : Int} {sl : Value} {t0 t1 t2 : TypeId} {x : Ev} (h0 : S[b0]? = some (.cells (qc q a1 c1 a4 c4 a5 c5) t0 none))
    (h1 : S[b1]? = some (.cells [vI wins] t1 none)) (h2 : S[b2]? = some (.cells [vI N, vI T, vI W, sl] t2 none)) (hq : -1 ≤ q.again ∧ q.again ≤ 100) :
    Sp (g_sparse_Live_1 [x.val, .pointer (some ⟨b0, 0, none⟩), .pointer (some ⟨b1, 0, none⟩), .pointer (some ⟨b2, 0, none⟩)]) S fun v _ => v = vB (liveE q wins W x) := by
  unfold Sp
  rw [g_sparse_Live_1_eq]
  have hp : S <+: S ++ [AObj.cells [vI x.it, vI x.tr, vI x.wi, vI x.ti, vI x.ad, vU x.ma] 55 none] := List.prefix_append _ _
  have g0 := pre_get hp h0
  have g1 := pre_get hp h1
  have g2 := pre_get hp h2
  simp only [wps, cell_blk g0, cell_blk g1, cell_blk g2, below_w]
  rw [wI_ (n := q.again + 1) (by omega) (by omega)]
  unfold liveE
  refine ⟨fun e1 => ⟨fun e2 => ⟨fun e3 => ⟨fun e4 => ⟨hp, ?_⟩, fun e4 => ⟨hp, ?_⟩⟩, fun e3 => ⟨hp, ?_⟩⟩, fun e2 => ⟨hp, ?_⟩⟩, fun e1 => ⟨hp, ?_⟩⟩
  · simp only [e1, e2, e3, e4, Bool.true_and]
    congr 1
    by_cases h : x.ma = 0 <;> simp [h]
  · simp only [e1, e2, e3, e4, Bool.true_and, Bool.false_and]
  · simp only [e1, e2, e3, Bool.true_and, Bool.false_and]
  · simp only [e1, e2, Bool.true_and, Bool.false_and]
  · simp only [e1, Bool.true_and, Bool.false_and]
theorem picked_w {S : St} {C : FuncId → List Value → M Value} {may : Value} {f : Ev → Bool} {p : Option Addr} {n c : Nat} {l : List Ev} (h : Ar S p n 6 Ev.cells l) (hn : n ≤ 2932031007401)
    (hC : ∀ S1 (x : Ev), S <+: S1 → Sp (callV C may [x.val]) S1 fun v _ => v = vB (f x)) :
    WP (g_sparse_picked C [.slice p n c, may]) S fun v S' => ∃ a, v = .slice a (l.filter f).length (l.filter f).length ∧ Ap S none S' a (l.filter f).length 55 6 ((l.filter f).flatMap Ev.cells) := by
  have hl := h.1
  rw [g_sparse_picked_eq]
  simp only [wps]
  refine wp_loop (fun st S' m => ∃ (j : Nat) (a : Option Addr) (k : Nat), st = [.slice a k k, vI j] ∧ j ≤ n ∧ m = n - j ∧ Ap S none S' a k 55 6 (((l.take j).filter f).flatMap Ev.cells)) ?_ n _ _
    ⟨0, none, 0, rfl, by omega, by omega, Ap.nil⟩
  rintro st S' m ⟨j, a, k, rfl, hj, rfl, ha⟩
  have hcnt := ha.cnt (fun _ => rfl) (by decide)
  have hcl : ((l.take j).filter f).length ≤ n := Nat.le_trans (List.length_filter_le _ _) (by rw [List.length_take]; omega)
  simp only [wps]
  refine ⟨fun h3 => ⟨h3, ?_⟩, fun h3 => ?_⟩
  · have hj' : j < l.length := by omega
    obtain ⟨x, rfl, d0, d1, d2, d3, d4, d5⟩ := (h.mono ha.pre).getEv hj'
    have et : (l.take (j + 1)).filter f = (l.take j).filter f ++ (if f l[j] = true then [l[j]] else []) := by
      rw [List.take_add_one, List.getElem?_eq_getElem hj', List.filter_append]
      congr 1
      by_cases hf : f l[j] = true <;> simp [hf]
    simp only [wps, d0, d1, d2, d3, d4, d5]
    have hp2 := List.prefix_append S' [AObj.cells [vI l[j].it, vI l[j].tr, vI l[j].wi, vI l[j].ti, vI l[j].ad, vU l[j].ma] 55 none]
    refine (hC _ l[j] (ha.pre.trans hp2)).use ?_
    rintro _ S2 h5 rfl
    have hb := pre_get h5 get_new
    simp only [wps, cell_blk hb]
    rw [wI_ (n := (j : Int) + 1) (by omega) (by omega)]
    refine ⟨fun hf => ?_, fun hf => ?_⟩
    · refine wp_push (ha.more (hp2.trans h5)) rfl (by omega) (by omega) rfl ?_
      intro b' S3 h6
      simp only [wps]
      refine ⟨n - (j + 1), by omega, j + 1, _, _, rfl, by omega, rfl, ?_⟩
      rw [et, if_pos hf, List.flatMap_append]
      exact h6
    · refine ⟨n - (j + 1), by omega, j + 1, _, _, rfl, by omega, rfl, ?_⟩
      rw [et, if_neg (by simp [hf]), List.append_nil]
      exact ha.more (hp2.trans h5)
  · rw [List.take_of_length_le (by omega)] at ha hcnt
    subst hcnt
    exact ⟨_, rfl, ha⟩
def liveV (q : Req) (l : List Ev) : List Ev × Int :=
  if checkV q = 0 then (if 1024 < l.length then ([], 1) else (l.filter (liveE q (winsV q).1 (makeV q.P q.axes q.inv).1.W), 0)) else ([], checkV q)
theorem live_w {S : St} {q : Req} {a1 a4 a5 p : Option Addr} {c1 c4 c5 n c : Nat} {l : List Ev} (h : QA S q a1 a4 a5) (hl : Ar S p n 6 Ev.cells l) (hn : n ≤ 2932031007401) :
    Sp (g_sparse_Live [qv q a1 c1 a4 c4 a5 c5, .slice p n c]) S fun v S' => ∃ a, v = vT [.slice a (liveV q l).1.length (liveV q l).1.length, vI (liveV q l).2] ∧ Ar S' a (liveV q l).1.length 6 Ev.cells (liveV q l).1 := by
  have hln := hl.1
  unfold Sp
  rw [g_sparse_Live_eq]
  simp only [wps]
  have hp : S <+: S ++ [AObj.cells (qc q a1 c1 a4 c4 a5 c5) 44 none] := List.prefix_append _ _
  refine (wins_w (c1 := c1) (c4 := c4) (c5 := c5) (h.mono hp)).use ?_
  rintro _ S1 h1 rfl
  have hb1 := pre_get h1 get_new
  simp only [wps]
  have hp2 := List.prefix_append S1 [AObj.cells [vI (winsV q).1] 3 none]
  have hb2 := pre_get hp2 hb1
  unfold liveV
  by_cases hc : checkV q = 0
  · have hw : winsV q = (1 + (q.retry + 1) * (((stepsGo q.inv 0 q.axes).length : Int) + 1), 0) := by unfold winsV; rw [if_pos hc]
    obtain ⟨q1, q2, _⟩ := check_ok hc
    rw [if_pos hc]
    have hw2 : (winsV q).2 = 0 := by rw [hw]
    simp only [wps, hw2, chk10_w.wp]
    by_cases h24 : 1024 < l.length
    · simp only [if_pos h24, if_pos (show 1024 < n by omega)]
      exact ⟨fun _ => ⟨hp.trans (h1.trans hp2), none, rfl, .nil⟩, fun h => absurd h (by decide)⟩
    · simp only [if_neg h24, if_neg (show ¬ 1024 < n by omega)]
      simp only [wps, cell_blk hb2]
      have hS2 := hp.trans (h1.trans hp2)
      refine (make_w (h.ax.mono hS2) h.b1 q.inv).use ?_
      rintro _ S3 h3 ⟨a, rfl, har⟩
      have hm2 : (makeV q.P q.axes q.inv).2 = 0 := by unfold makeV; rw [if_pos q2]
      simp only [wps, hm2]
      have hp4 := List.prefix_append S3 [AObj.cells [vI (makeV q.P q.axes q.inv).1.N, vI (makeV q.P q.axes q.inv).1.T, vI (makeV q.P q.axes q.inv).1.W, .slice a (makeV q.P q.axes q.inv).1.st.length (makeV q.P q.axes q.inv).1.st.length] 49 none]
      have hS4 := hS2.trans (h3.trans hp4)
      have e0 := pre_get (h3.trans hp4) hb2
      have e1 := pre_get (h3.trans hp4) (get_new (S := S1) (o := AObj.cells [vI (winsV q).1] 3 none))
      have e2 := get_new (S := S3) (o := AObj.cells [vI (makeV q.P q.axes q.inv).1.N, vI (makeV q.P q.axes q.inv).1.T, vI (makeV q.P q.axes q.inv).1.W, .slice a (makeV q.P q.axes q.inv).1.st.length (makeV q.P q.axes q.inv).1.st.length] 49 none)
      refine (picked_w (f := liveE q (winsV q).1 (makeV q.P q.axes q.inv).1.W) (hl.mono hS4) hn ?_).mono ?_
      · intro S5 x h5
        simp only [wps, beq_self_eq_true]
        exact live1_w (pre_get h5 e0) (pre_get h5 e1) (pre_get h5 e2) (by omega)
      · rintro _ S6 ⟨b, rfl, hap⟩
        simp only [wps]
        exact ⟨hS4.trans hap.pre, b, rfl, hap.ar (fun _ => rfl) (by decide)⟩
  · have hw : winsV q = (0, checkV q) := by unfold winsV; rw [if_neg hc]
    rw [if_neg hc]
    have hw2 : (winsV q).2 = checkV q := by rw [hw]
    simp only [wps, hw2]
    exact ⟨fun _ => ⟨hp.trans (h1.trans hp2), none, rfl, .nil⟩, fun h => absurd h hc⟩
theorem evOf_evs : ∀ l : List Ev, evOf (l.flatMap Ev.cells) = some l
  | [] => rfl
  | x :: l => by
    have := evOf_evs l
    show evOf (.int .i64 x.it :: .int .i64 x.tr :: .int .i64 x.wi :: .int .i64 x.ti :: .int .i64 x.ad :: .int .u64 x.ma :: l.flatMap Ev.cells) = _
    simp only [evOf, this]; rfl
theorem sparse_w {S : St} {p : Option Addr} {n c : Nat} {l : List Ev} (h : Ar S p n 6 Ev.cells l) (hn : n ≤ 1024) : Gv (g_script_Sparse [.slice p n c]) S (vT [vB (sparseB l), vI 0]) := by
  refine .of ?_
  unfold g_script_Sparse sparG readV
  simp only [wps]
  refine wp_rdA h (fun _ => rfl) ?_
  have : sparR n (l.flatMap Ev.cells) = some [.bool (sparseB l), .int .i64 0] := by
    unfold sparR
    simp only [evOf_evs, if_pos hn]
  rw [this]
  simp only [wps]
def sureV (q : Req) (l : List Ev) : Bool × Int := if (liveV q l).2 = 0 then (sparseB (liveV q l).1 && decide (1 ≤ q.retry), 0) else (false, (liveV q l).2)
theorem sure_w {S : St} {q : Req} {a1 a4 a5 p : Option Addr} {c1 c4 c5 n c : Nat} {l : List Ev} (h : QA S q a1 a4 a5) (hl : Ar S p n 6 Ev.cells l) (hn : n ≤ 2932031007401) :
    Sp (g_sparse_Sure [qv q a1 c1 a4 c4 a5 c5, .slice p n c]) S fun v S' => v = vT [vB (sureV q l).1, vI (sureV q l).2] := by
  have hln := hl.1
  unfold Sp
  rw [g_sparse_Sure_eq]
  simp only [wps]
  have hp : S <+: S ++ [AObj.cells (qc q a1 c1 a4 c4 a5 c5) 44 none] := List.prefix_append _ _
  refine (live_w (c := c) (c1 := c1) (c4 := c4) (c5 := c5) (h.mono hp) (hl.mono hp) hn).use ?_
  rintro _ S1 h1 ⟨a, rfl, har⟩
  have hb1 := pre_get h1 get_new
  unfold sureV
  simp only [wps]
  refine ⟨fun h2 => by rw [if_neg h2]; exact ⟨hp.trans h1, rfl⟩, fun h2 => ?_⟩
  rw [if_pos h2]
  have hlen : (liveV q l).1.length ≤ 1024 := by
    unfold liveV at h2 ⊢
    split
    · split
      · simp
      · have := List.length_filter_le (liveE q (winsV q).1 (makeV q.P q.axes q.inv).1.W) l
        dsimp only; omega
    · simp
  simp only [wps, (sparse_w har hlen).wp, cell_blk hb1]
  refine ⟨fun h3 => ⟨hp.trans h1, ?_⟩, fun h3 => ⟨hp.trans h1, ?_⟩⟩
  · rw [h3, Bool.true_and]
  · rw [h3, Bool.false_and]
end Go.AM
set_option linter.unusedVariables false
set_option linter.unusedSimpArgs false
namespace Go.AM
open Go Go.Proofs.YtcilfgedcnehfaaDoor
theorem eqEv (x y : Ev) : eqL [vI x.it, vI x.tr, vI x.wi, vI x.ti, vI x.ad, vU x.ma] [vI y.it, vI y.tr, vI y.wi, vI y.ti, vI y.ad, vU y.ma] = decide (x = y) := by
  obtain ⟨a1, a2, a3, a4, a5, a6⟩ := x
  obtain ⟨b1, b2, b3, b4, b5, b6⟩ := y
  simp [eqL, Bool.and_assoc, Bool.decide_and, Ev.mk.injEq]; rfl
theorem take_snoc {α : Type} {l : List α} {j : Nat} (h : j < l.length) : l.take (j + 1) = l.take j ++ [l[j]] := by
  rw [List.take_add_one, List.getElem?_eq_getElem h]; rfl
theorem take_eq_step {α : Type} {x y : List α} {j : Nat} (h : x.take j = y.take j) (hx : j < x.length) (hy : j < y.length) (he : x[j] = y[j]) : x.take (j + 1) = y.take (j + 1) := by
  rw [take_snoc hx, take_snoc hy, h, he]
theorem r10same_w {S : St} {p r : Option Addr} {n m c d : Nat} {x y : List Ev} (h : Ar S p n 6 Ev.cells x) (k : Ar S r m 6 Ev.cells y) (hn : n ≤ 140737488355328) :
    Gv (g_r10_Same [.slice p n c, .slice r m d]) S (vB (decide (x = y))) := by
  have h1 := h.1
  have k1 := k.1
  refine .of ?_
  rw [g_r10_Same_eq]
  simp only [wps]
  refine ⟨fun e => ?_, fun e => ?_⟩
  · have : x ≠ y := fun q => e (by rw [h1, k1, q])
    simp [this]
  refine wp_loop (fun st S' t => ∃ j : Nat, st = [vI j] ∧ j ≤ n ∧ t = n - j ∧ S' = S ∧ x.take j = y.take j) ?_ n _ _ ⟨0, rfl, by omega, by omega, rfl, rfl⟩
  rintro st S' t ⟨j, rfl, hj, rfl, rfl, ht⟩
  simp only [wps]
  refine ⟨fun h3 => ⟨h3, ?_⟩, fun h3 => ?_⟩
  · have hx : j < x.length := by omega
    have hy : j < y.length := by omega
    obtain ⟨a, rfl, c0, c1, c2, c3, c4, c5⟩ := h.getEv hx
    obtain ⟨b, rfl, d0, d1, d2, d3, d4, d5⟩ := k.getEv hy
    simp only [wps, c0, c1, c2, c3, c4, c5, d0, d1, d2, d3, d4, d5]
    have e2 : ∀ a b c d e f g h i j k l : Value, eqL (ar [a, b, c, d, e, f]).toList (ar [g, h, i, j, k, l]).toList = eqL [a, b, c, d, e, f] [g, h, i, j, k, l] := fun _ _ _ _ _ _ _ _ _ _ _ _ => rfl
    rw [e2, eqEv, wI_ (n := (j : Int) + 1) (by omega) (by omega)]
    simp only [wps]
    refine ⟨by omega, fun e3 => ?_, fun e3 => ?_⟩
    · have : x ≠ y := fun q => e3 (by subst q; rfl)
      simp [this]
    · exact ⟨n - (j + 1), by omega, j + 1, rfl, by omega, rfl, take_eq_step ht hx hy e3⟩
  · rw [List.take_of_length_le (by omega), List.take_of_length_le (by omega)] at ht
    simp [ht]
theorem thin_w {S : St} {p : Option Addr} {n c : Nat} {l : List Ev} (h : Ar S p n 6 Ev.cells l) (hn : n ≤ 1024) :
    Sp (g_sparse_Thin [.slice p n c]) S fun v S' => ∃ a, v = vT [.slice a (thin l).length (thin l).length, vI 0] ∧ Ar S' a (thin l).length 6 Ev.cells (thin l) := by
  unfold Sp g_sparse_Thin thinG readR
  simp only [wps]
  refine wp_rdA h (fun _ => rfl) ?_
  have : thinR n (l.flatMap Ev.cells) = some ((thin l).flatMap Ev.cells, (thin l).length, .int .i64 0) := by
    unfold thinR
    simp only [evOf_evs, if_pos hn]
    rfl
  rw [this]
  rcases he : (thin l).length with _ | k
  · have : thin l = [] := List.eq_nil_of_length_eq_zero he
    dsimp only
    simp only [wps]
    exact ⟨List.prefix_rfl, none, rfl, by rw [this]; exact .nil⟩
  · dsimp only
    refine ⟨_, _, rfl, List.prefix_append _ _, _, rfl, ?_⟩
    rw [← he]
    exact Ar.blk get_new (fun _ _ => rfl) rfl
theorem ar_lit {S : St} {b : Nat} {t : TypeId} {g : Option Nat} (l : List Ev) {n : Nat} {cs : List Value} (hb : S[b]? = some (.cells cs t g)) (hn : n = l.length) (hc : cs = l.flatMap Ev.cells) : Ar S (some ⟨b, 0, none⟩) n 6 Ev.cells l := by
  subst hn
  exact Ar.blk hb (fun _ _ => rfl) hc
def ev3 (w : Int) : Ev := ⟨0, 0, w, 0, 0, 0⟩
theorem live23_w {S : St} : Sp (g_l23_live []) S fun v _ => v = vB true := by
  unfold Sp
  rw [g_l23_live_eq]
  simp only [wps]
  have hp : S <+: S ++ [AObj.cells ([ev3 3, ev3 4, ev3 5].flatMap Ev.cells) 55 none] := List.prefix_append _ _
  refine (thin_w (n := 3) (l := [ev3 3, ev3 4, ev3 5]) (ar_lit _ get_new rfl rfl) (by omega)).use ?_
  rintro _ S1 h1 ⟨a, rfl, har⟩
  have ht : thin [ev3 3, ev3 4, ev3 5] = [ev3 3, ev3 5] := by decide +kernel
  rw [ht] at har ⊢
  have hp2 := List.prefix_append S1 [AObj.cells ([ev3 3, ev3 5].flatMap Ev.cells) 55 none]
  simp only [wps]
  have := r10same_w (c := 2) (d := 2) (har.mono hp2) (ar_lit [ev3 3, ev3 5] (get_new (S := S1)) rfl rfl) (by simp)
  simp only [decide_true] at this
  refine (Gv.wp this _).mpr ?_
  simp only [wps]
  exact hp.trans (h1.trans hp2)
theorem few23_w {S : St} {q : Req} {a1 a4 a5 : Option Addr} {c1 c4 c5 n c : Nat} {p : Option Addr} {m : Int} (h : QA S q a1 a4 a5) (hm : 0 ≤ m ∧ m ≤ 1000) :
    Sp (g_l23_few [qv q a1 c1 a4 c4 a5 c5, .slice p n c, vI m]) S fun v _ => v = vB (few17 q m && decide ((q.X.length : Int) ≤ 3 * m) && decide (n ≤ 40)) := by
  unfold Sp
  rw [g_l23_few_eq]
  simp only [wps]
  have hp : S <+: S ++ [AObj.cells (qc q a1 c1 a4 c4 a5 c5) 44 none] := List.prefix_append _ _
  refine (r17few_w (c1 := c1) (c4 := c4) (c5 := c5) (h.mono hp) hm).use ?_
  rintro _ S1 h1 rfl
  have hb1 := pre_get h1 get_new
  simp only [wps, cell_blk hb1]
  rw [wI_ (n := 3 * m) (by omega) (by omega)]
  refine ⟨fun e1 => ⟨fun e2 => ⟨hp.trans h1, ?_⟩, fun e2 => ⟨hp.trans h1, ?_⟩⟩, fun e1 => ⟨hp.trans h1, ?_⟩⟩
  · simp [e1, e2]; omega
  · simp [e1, e2]
  · simp [e1]
theorem sure_more {q : Req} {l : List Ev} {x : Ev} (hl : l.length ≤ 1000) (hx : x.ma = 0) : sureV q (l ++ [x]) = sureV q l := by
  have : liveV q (l ++ [x]) = liveV q l := by
    unfold liveV
    split
    · rw [if_neg (by simp; omega), if_neg (by omega), List.filter_append]
      have : liveE q (winsV q).1 (makeV q.P q.axes q.inv).1.W x = false := by unfold liveE; simp [hx]
      simp [this]
    · rfl
  unfold sureV
  rw [this]
theorem sure_nil {q : Req} (h : (sureV q []).2 = 0) : (sureV q []).1 = decide (1 ≤ q.retry) := by
  unfold sureV liveV at h ⊢
  by_cases hc : checkV q = 0
  · simp only [if_pos hc, List.length_nil, if_neg (show ¬ 1024 < 0 by omega), List.filter_nil, if_true]
    have : sparseB [] = true := rfl
    rw [this, Bool.true_and]
  · simp only [if_neg hc] at h
    exact absurd h hc
theorem sure_err {q : Req} {l : List Ev} (h : (sureV q l).2 ≠ 0) : (sureV q l).1 = false := by
  unfold sureV at h ⊢
  split
  · rename_i hc; rw [if_pos hc] at h; exact absurd rfl h
  · rfl
theorem sure_less {q : Req} {l l' : List Ev} (hr : ∀ x ∈ l, i64r x.wi) (hs : l'.Sublist l) (h2 : (sureV q l).2 = 0) (h1 : (sureV q l).1 = true) : sureV q l' = (true, 0) := by
  unfold sureV liveV at h1 h2 ⊢
  by_cases hc : checkV q = 0
  · simp only [if_pos hc] at h1 h2 ⊢
    by_cases hl : 1024 < l.length
    · simp [if_pos hl] at h2
    · have hl' : ¬ 1024 < l'.length := by have := hs.length_le; omega
      simp only [if_neg hl, if_neg hl', if_true, Bool.and_eq_true] at h1 ⊢
      have hf := hs.filter (liveE q (winsV q).1 (makeV q.P q.axes q.inv).1.W)
      have hr1 : ∀ x ∈ l.filter (liveE q (winsV q).1 (makeV q.P q.axes q.inv).1.W), i64r x.wi := fun x hx => hr x (List.mem_filter.1 hx).1
      have := (sparse_iff _ hr1).1 h1.1
      rw [(sparse_iff _ (fun x hx => hr1 x (hf.mem hx))).2 (this.sublist hf), h1.2]
      rfl
  · simp only [if_neg hc] at h2
    exact absurd h2 hc
theorem cut_sub {α : Type} (l : List α) (k : Nat) : (l.take k ++ l.drop (k + 1)).Sublist l := by
  conv => rhs; rw [← List.take_append_drop k l]
  exact (List.Sublist.refl _).append (by rw [← List.drop_drop]; exact List.drop_sublist _ _)
set_option maxRecDepth 20000 in
theorem less_law {S : St} {q : Req} {a1 a4 a5 p : Option Addr} {c1 c4 c5 n c : Nat} {l : List Ev} {at' : Int} {x : Ev} (h : QA S q a1 a4 a5) (hl : Ar S p n 6 Ev.cells l) (hc : n ≤ c) (hr : ∀ x ∈ l, i64r x.wi) (hat : 0 ≤ at' ∧ at' < 256) :
    Sp (g_l23_SparseLess [qv q a1 c1 a4 c4 a5 c5, .slice p n c, .int .u8 at', x.val]) S fun v _ => v = vB true := by
  have hln := hl.1
  unfold Sp
  rw [g_l23_SparseLess_eq]
  simp only [wps]
  have hA : S <+: S ++ [AObj.cells (qc q a1 c1 a4 c4 a5 c5) 44 none] := List.prefix_append _ _
  have hB := List.prefix_append (S ++ [AObj.cells (qc q a1 c1 a4 c4 a5 c5) 44 none]) [AObj.cells x.cells 55 none]
  have hBx := get_new (S := S ++ [AObj.cells (qc q a1 c1 a4 c4 a5 c5) 44 none]) (o := AObj.cells x.cells 55 none)
  refine live23_w.use ?_
  rintro _ S1 h1 rfl
  have h01 := hA.trans (hB.trans h1)
  have hb1 := pre_get (hB.trans h1) (get_new (S := S))
  have hx1 := pre_get h1 hBx
  have hlx : (S ++ [AObj.cells (qc q a1 c1 a4 c4 a5 c5) 44 none]).length = S.length + 1 := by simp
  rw [hlx] at hx1 ⊢
  simp only [wps, cell_blk hb1]
  refine (few23_w (c := c) (p := p) (n := n) (c1 := c1) (c4 := c4) (c5 := c5) (h.mono h01) (by omega)).use ?_
  rintro _ S2 h2 rfl
  have hb2 := pre_get h2 hb1
  have h02 := h01.trans h2
  simp only [wps, cell_blk hb2]
  refine ⟨fun hf => h02, fun hf => ?_⟩
  have hn40 : n ≤ 40 := by simp at hf; exact hf.2
  refine (sure_w (c := c) (c1 := c1) (c4 := c4) (c5 := c5) (h.mono h02) (hl.mono h02) (by omega)).use ?_
  rintro _ S3 h3 rfl
  have hb3 := pre_get h3 hb2
  have hx3 := pre_get (h2.trans h3) hx1
  have h03 := h02.trans h3
  simp only [wps, hx3]
  refine ⟨fun he => ⟨h03, by rw [sure_err he]; rfl⟩, fun he => ⟨by simp [Ev.cells], ?_⟩⟩
  have hS4 : S ++ [AObj.cells (qc q a1 c1 a4 c4 a5 c5) 44 none] <+: S3.set (S.length + 1) (.cells [vI x.it, vI x.tr, vI x.wi, vI x.ti, vI x.ad, vU 0] 55 none) :=
    pre_set' (hB.trans (h1.trans (h2.trans h3))) (by simp)
  have hsp : splice x.cells 5 [vU 0] = [vI x.it, vI x.tr, vI x.wi, vI x.ti, vI x.ad, vU 0] := rfl
  rw [hsp]
  have hx4 : (S3.set (S.length + 1) (.cells [vI x.it, vI x.tr, vI x.wi, vI x.ti, vI x.ad, vU 0] 55 none))[S.length + 1]? = some (.cells [vI x.it, vI x.tr, vI x.wi, vI x.ti, vI x.ad, vU 0] 55 none) := by
    rw [List.getElem?_set_self (pre_lt hx3)]
  generalize S3.set (S.length + 1) (.cells [vI x.it, vI x.tr, vI x.wi, vI x.ti, vI x.ad, vU 0] 55 none) = S4 at hS4 hx4 ⊢
  have hb4 := pre_get hS4 (get_new (S := S))
  have h04 := hA.trans hS4
  simp only [wps, cell_blk hb4, cell_blk hx4]
  have hp5 := List.prefix_append S4 [AObj.cells [vI x.it, vI x.tr, vI x.wi, vI x.ti, vI x.ad, vU 0] 55 none]
  refine wp_rdA (hl.mono (h04.trans hp5)) (fun _ => rfl) ?_
  have hfl := flat_len (e := Ev.cells) (w := 6) (fun _ => rfl) l
  have hlf : ∀ l : List Ev, (l.flatMap Ev.cells).all leafV = true := fun l => by
    induction l with
    | nil => rfl
    | cons y l ih => rw [List.flatMap_cons, List.all_append, ih]; rfl
  refine wp_apps (m := n) Ap.nil (by rw [hfl]; omega) (by omega) (by omega) (by omega) (hlf l) ?_
  intro a6 S6 ha6
  rw [List.nil_append] at ha6
  have h46 := hp5.trans ha6.pre
  have hb6 := pre_get h46 hb4
  have hx6 := pre_get h46 hx4
  have hy6 := pre_get ha6.pre (get_new (S := S4) (o := AObj.cells [vI x.it, vI x.tr, vI x.wi, vI x.ti, vI x.ad, vU 0] 55 none))
  simp only [wps, cell_blk hb6, cell_blk hx6]
  refine wp_rdN hy6 rfl (by simp) ?_
  rw [Nat.zero_add] at ha6
  refine wp_app (m := 1) ha6 rfl (by omega) (by omega) (by omega) rfl ?_
  intro b7 S7 ha7
  have h57 := ha7.pre
  have h47 := hp5.trans h57
  have hb7 := pre_get h47 hb4
  simp only [wps, cell_blk hb7]
  have e7 : l.flatMap Ev.cells ++ ([vI x.it, vI x.tr, vI x.wi, vI x.ti, vI x.ad, vU 0].drop 0).take 6 = (l ++ [(⟨x.it, x.tr, x.wi, x.ti, x.ad, 0⟩ : Ev)]).flatMap Ev.cells := by rw [List.flatMap_append]; rfl
  have e7' := e7
  simp only [List.drop_zero] at e7'
  have har7 := ha7
  first | rw [e7] at har7 | rw [e7'] at har7
  have har := har7.ar (fun _ => rfl) (by decide)
  refine (sure_w (c := n + 1) (c1 := c1) (c4 := c4) (c5 := c5) (h.mono (h04.trans h47)) har (by omega)).use ?_
  rintro _ S8 h8 rfl
  have hb8 := pre_get h8 hb7
  have h08 := h04.trans (h47.trans h8)
  have hmore : sureV q (l ++ [(⟨x.it, x.tr, x.wi, x.ti, x.ad, 0⟩ : Ev)]) = sureV q l := sure_more (by omega) rfl
  rw [hmore]
  simp only [wps, he, cell_blk hb8]
  simp only [beq_self_eq_true, Bool.true_eq_false, false_implies, true_and, true_implies]
  refine ⟨fun h0 => ⟨fun _ => h08, fun _ => ⟨h08, ?_⟩⟩, fun h0 => ⟨fun _ => ⟨fun _ => h08, fun hz => absurd (show 0 < (n : Int) by omega) hz⟩, fun hsu => ⟨h0, ?_⟩⟩⟩
  · obtain rfl : l = [] := List.eq_nil_of_length_eq_zero (by omega)
    rw [sure_nil he, beq_self_eq_true]
  have hwat : wI at' = at' := wI_ (by omega) (by omega)
  have hn0 : 0 < (n : Int) := by omega
  have htm : (wI at').tmod (n : Int) = at' % (n : Int) := by rw [hwat, Int.tmod_eq_emod_of_nonneg hat.1]
  have hk0 := Int.emod_nonneg at' h0
  have hk1 := Int.emod_lt_of_pos at' hn0
  rw [htm]
  generalize hK : at' % (n : Int) = K at hk0 hk1 ⊢
  rw [wI_ (n := K + 1) (by omega) (by omega)]
  refine cut_ar (hl.mono h08) (fun _ => rfl) (by decide) (by omega) (by omega) (by omega) hc ?_
  intro p9 k9 hk9 h9
  refine cut_ar (hl.mono h08) (fun _ => rfl) (by decide) (by omega) (by omega) (by omega) hc ?_
  intro p10 k10 hk10 h10
  simp only [Int.toNat_zero, Nat.sub_zero, List.drop_zero] at h9
  have eT : ((n : Int)).toNat - (K + 1).toNat = n - (K.toNat + 1) := by omega
  have eT2 : (K + 1).toNat = K.toNat + 1 := by omega
  have eD : (l.drop (K.toNat + 1)).take (n - (K.toNat + 1)) = l.drop (K.toNat + 1) := List.take_of_length_le (by rw [List.length_drop]; omega)
  rw [eT2] at h10
  rw [show ((n : Int)).toNat - (K.toNat + 1) = n - (K.toNat + 1) by omega, eD] at h10
  simp only [wps, eT2, show ((n : Int)).toNat - (K.toNat + 1) = n - (K.toNat + 1) by omega]
  refine wp_rdA h9 (fun _ => rfl) ?_
  have f9 := flat_len (e := Ev.cells) (w := 6) (fun _ => rfl) (l.take K.toNat)
  have l9 := h9.1
  refine wp_apps (m := K.toNat) Ap.nil (by rw [f9, ← l9]) (by omega) (by omega) (by omega) (hlf _) ?_
  intro a11 S11 ha11
  rw [List.nil_append, Nat.zero_add] at ha11
  have hb11 := pre_get ha11.pre hb8
  simp only [wps, cell_blk hb11]
  refine wp_rdA (h10.mono ha11.pre) (fun _ => rfl) ?_
  have f10 := flat_len (e := Ev.cells) (w := 6) (fun _ => rfl) (l.drop (K.toNat + 1))
  have l10 := h10.1
  refine wp_apps (m := n - (K.toNat + 1)) ha11 (by rw [f10, ← l10]) (by omega) (by omega) (by omega) (hlf _) ?_
  intro a12 S12 ha12
  have hb12 := pre_get ha12.pre hb8
  rw [← List.flatMap_append] at ha12
  have har12 := ha12.ar (fun _ => rfl) (by decide)
  simp only [wps, cell_blk hb12]
  have h12 := h08.trans ha12.pre
  refine (sure_w (c1 := c1) (c4 := c4) (c5 := c5) (h.mono h12) har12 (by omega)).use ?_
  rintro _ S13 h13 rfl
  have hfin := sure_less (q := q) hr (cut_sub l K.toNat) he hsu
  rw [hfin]
  simp only [wps]
  exact h12.trans h13
end Go.AM
