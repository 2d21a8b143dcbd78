import Derived.Test.YtcilfgedcnehfaaDoorQGrid
set_option linter.unusedVariables false
set_option linter.unusedSimpArgs false
namespace Go.Proofs.YtcilfgedcnehfaaDoor.PCP
open Go.RowKit Go.Proofs.YtcilfgedcnehfaaDoorW.PrintWords Go.Proofs.YtcilfgedcnehfaaDoorW.PrintLast Go.Proofs.YtcilfgedcnehfaaDoorW.PrintMore

/-! ### powers in order, what undoes a number -/
def powsV (p a : Int) (m : Nat) : List Int := (List.range m).map fun i => powM p a i
theorem powsV_len (p a : Int) (m : Nat) : (powsV p a m).length = m := by simp [powsV]
theorem powM_zero {p : Int} (a : Int) (h : known p = true) : powM p a 0 = 1 := by
  unfold powM; rw [if_pos h, Int.pow_zero]
  rcases known_cases h with rfl | rfl | rfl <;> decide
theorem powers_loop (p a : Int) (ha : 0 ≤ a) (ha2 : a < 18446744073709551616) (n : Nat) (hn : n ≤ 65536) : ∀ (d j : Nat), d + j = n → Ev (fun k => power_Powers.l0 k p a (powsV p a j ++ List.replicate d 0) (powM p a j) (n : Int) (j : Int)) (powsV p a n, 0)
  | 0, j, h => Ev.step (f := fun _ => some (powsV p a n, 0)) (fun k => by
      simp only [power_Powers.l0]; rw [if_neg (by omega), List.replicate_zero, List.append_nil, show j = n by omega]) (Ev.now _)
  | d + 1, j, h => by
    obtain ⟨r0, r1⟩ := powM_range p a j
    have hm : field_Mul.f p (powM p a j) a = some (powM p a (j + 1)) := by unfold field_Mul.f; rw [if_pos ⟨r0, r1, ha, ha2⟩, mulF_powM1]
    refine Ev.step (f := fun k => power_Powers.l0 k p a (powsV p a (j + 1) ++ List.replicate d 0) (powM p a (j + 1)) (n : Int) ((j + 1 : Nat) : Int)) (fun k => ?_) (powers_loop p a ha ha2 n hn d (j + 1) (by omega))
    simp only [power_Powers.l0]
    rw [if_pos (by omega), hm]
    simp only [Option.bind_some]
    rw [if_pos (by omega), if_pos (by rw [List.length_append, powsV_len]; simp; omega), wrap_next j n (by omega) (by omega)]
    rw [Int.toNat_natCast, List.set_append_right _ _ (by rw [powsV_len]; exact Nat.le_refl _), powsV_len, Nat.sub_self, List.replicate_succ, List.set_cons_zero]
    congr 1
    unfold powsV
    rw [List.range_succ]; simp
theorem powers_ev {p : Int} (hk : known p = true) (a : Int) (ha : 0 ≤ a) (ha2 : a < 18446744073709551616) (n : Nat) (hn : n ≤ 65536) : Ev (fun k => power_Powers.f k p a (n : Int)) (powsV p a n, 0) := by
  unfold power_Powers.f field_Known.f
  simp only [Option.bind_some, hk, if_true]
  have := powers_loop p a ha ha2 n hn n 0 (by omega)
  rw [powM_zero a hk] at this
  refine Ev.congr (fun k => ?_) this
  rw [if_neg (by omega), if_neg (by omega), if_pos (by omega), if_pos (by omega), Int.toNat_natCast]
  simp [powsV]
def invV (p a : Int) : Int × Int := if known p = true then (if red p a = 0 then (0, 9) else (powM p a (p - 2).toNat, 0)) else (0, 2)
theorem inv_ev (p a : Int) (ha : 0 ≤ a) (ha2 : a < 18446744073709551616) : Ev (fun k => power_Inv.f k p a) (invV p a) := by
  unfold power_Inv.f invV field_Known.f
  simp only [Option.bind_some]
  cases hk : known p with
  | false => simp only [Bool.false_eq_true, if_false]; exact Ev.now _
  | true =>
    simp only [if_true]
    have hp : 2 ≤ p ∧ p < 18446744073709551616 := by rcases known_cases hk with rfl | rfl | rfl <;> decide
    have hr : field_Reduce.f p a = some (red p a) := by unfold field_Reduce.f; rw [if_pos ⟨ha, ha2⟩]
    simp only [hr, Option.bind_some]
    by_cases h0 : red p a = 0
    · simp only [if_pos h0]; exact Ev.now _
    · simp only [if_neg h0]
      have := pow_ev p a (p - 2).toNat (by omega) ha ha2
      rw [Int.toNat_of_nonneg (by omega)] at this
      have hw : IntKind.u64.wrap (p - 2) = p - 2 := by rw [u64_wrap]; omega
      simp only [hw]
      exact Ev.bind this (Ev.now _)
def backV (p n : Int) : Int × Int := if (rootV p n).2 = 0 then invV p (rootV p n).1 else (0, (rootV p n).2)
theorem rootV_range (p n : Int) : 0 ≤ (rootV p n).1 ∧ (rootV p n).1 < 18446744073709551616 := by
  unfold rootV
  split
  · split
    · simp
    · split
      · simp
      · exact powM_range _ _ _
  · simp
theorem back_ev (p n : Int) : Ev (fun k => root_Back.f k p n) (backV p n) := by
  unfold root_Back.f backV
  refine Ev.bind (root_ev p n) ?_
  by_cases h : (rootV p n).2 = 0
  · simp only [if_pos h]
    exact Ev.bind (inv_ev p _ (rootV_range p n).1 (rootV_range p n).2) (Ev.now _)
  · simp only [if_neg h]; exact Ev.now _
/-- the number whose powers a step's factors are -/
def baseV (p : Int) (a : Ax) (inv : Bool) (s : Sp) : Int × Int :=
  if s.f1 = true ∧ a.f1 = false then (1, 0) else
  if inv = true then backV p (if s.f1 = true then wrap64 (2 * a.f0) else wrap64 (s.f2.f0 * s.f2.f2)) else rootV p (if s.f1 = true then wrap64 (2 * a.f0) else wrap64 (s.f2.f0 * s.f2.f2))
theorem base_ev (p : Int) (a : Ax) (inv : Bool) (s : Sp) : Ev (fun k => step_base.f k p a.f0 a.f1 inv s.f0 s.f1 s.f2.f0 s.f2.f1 s.f2.f2) (baseV p a inv s) := by
  have h1 : ∀ o, Ev (fun k => step_base.j1 k p inv o) (if inv = true then backV p o else rootV p o) := by
    intro o
    cases inv with
    | true => exact Ev.step (f := fun k => (root_Back.f k p o).bind fun b => some (b.1, b.2)) (fun k => by simp only [step_base.j1]; simp) (Ev.bind (back_ev p o) (Ev.now _))
    | false => exact Ev.step (f := fun k => (root_Root.f k p o).bind fun b => some (b.1, b.2)) (fun k => by simp only [step_base.j1]; simp) (Ev.bind (root_ev p o) (Ev.now _))
  unfold step_base.f baseV
  cases hs : s.f1 with
  | true =>
    cases ha : a.f1 with
    | false =>
      simp only [if_true, and_self]
      exact Ev.step (f := fun _ => some (1, 0)) (fun k => by simp only [step_base.j0]; simp) (Ev.now _)
    | true =>
      simp only [if_true]
      exact Ev.step (f := fun k => step_base.j1 k p inv (wrap64 (2 * a.f0))) (fun k => by simp only [step_base.j0]; simp) (h1 _)
  | false =>
    simp only [Bool.false_eq_true, if_false, false_and]
    exact Ev.step (f := fun k => step_base.j1 k p inv (wrap64 (s.f2.f0 * s.f2.f2))) (fun k => by simp only [step_base.j0]; simp) (h1 _)
/-! ### a step's factors -/
theorem mulF_range {p : Int} (hk : known p = true) (a b : Int) : 0 ≤ mulF p a b ∧ mulF p a b < 18446744073709551616 := by
  have hp := known_pos hk
  unfold mulF; rw [if_pos hk]
  exact ⟨Int.emod_nonneg _ (by omega), by have := Int.emod_lt_of_pos (a * b) (b := p) (by omega); omega⟩
def inU (x : Int) : Prop := 0 ≤ x ∧ x < 18446744073709551616
theorem sc_val (p f : Int) (hf : inU f) : ∀ l : List Int, (∀ x ∈ l, inU x) → step_Table.sc p f l = some (l.map fun x => mulF p x f)
  | [], _ => rfl
  | x :: l, h => by
    have hx := h x List.mem_cons_self
    unfold step_Table.sc field_Mul.f
    rw [if_pos ⟨hx.1, hx.2, hf.1, hf.2⟩, sc_val p f hf l (fun y hy => h y (List.mem_cons_of_mem _ hy))]
    rfl
/-- the rows of a stage: row m has the powers of w^m -/
def rowsV (p w : Int) (R : Nat) : Nat → List Int
  | 0 => []
  | m + 1 => rowsV p w R m ++ powsV p (powM p w m) R
theorem rowsV_len (p w : Int) (R : Nat) : ∀ m, (rowsV p w R m).length = m * R
  | 0 => by simp [rowsV]
  | m + 1 => by rw [rowsV, List.length_append, rowsV_len p w R m, powsV_len, Nat.succ_mul]
theorem rows_loop {p : Int} (hk : known p = true) (w : Int) (hw : inU w) (R M : Nat) (hR : 1 ≤ R) (hR2 : R ≤ 4096) : ∀ (d m : Nat), d + m = M → Ev (fun k => step_Table.l0 k p w (R : Int) (M : Int) (rowsV p w R m) (powM p w m)) (rowsV p w R M, 0)
  | 0, m, h => Ev.step (f := fun _ => some (rowsV p w R M, 0)) (fun k => by
      obtain rfl : m = M := by omega
      unfold step_Table.l0
      rw [if_neg (by rw [rowsV_len]; simp)]) (Ev.now _)
  | d + 1, m, h => by
    obtain ⟨r0, r1⟩ := powM_range p w m
    have hm : field_Mul.f p (powM p w m) w = some (powM p w (m + 1)) := by unfold field_Mul.f; rw [if_pos ⟨r0, r1, hw.1, hw.2⟩, mulF_powM1]
    refine Ev.step (f := fun k => (power_Powers.f k p (powM p w m) (R : Int)).bind fun o => if o.2 = 0 then (if o.1.length ≤ 65536 then (field_Mul.f p (powM p w m) w).bind fun s2 => step_Table.l0 k p w (R : Int) (M : Int) (rowsV p w R m ++ o.1) s2 else none) else some ([], o.2)) (fun k => ?_) ?_
    · rw [step_Table.l0, if_pos]
      rw [rowsV_len]
      have : m * R < M * R := Nat.mul_lt_mul_of_pos_right (by omega) (by omega)
      exact_mod_cast this
    · refine Ev.bind (powers_ev hk _ r0 r1 R (by omega)) ?_
      simp only [if_true, powsV_len, hm, Option.bind_some]
      simp only [if_pos (show R ≤ 65536 by omega)]
      exact rows_loop hk w hw R M hR hR2 d (m + 1) (by omega)

/-- a step of a transform: the twist of an axis, or a stage of it -/
def IsStep (l : List Ax) (s : Sp) : Prop := ∃ k : Nat, ∃ h : k < l.length, s.f0 = (k : Int) ∧ (s.f1 = true ∧ s.f2 = ⟨0, 0, 0⟩ ∨ s.f1 = false ∧ (stagesV l[k].f0).2 = 0 ∧ s.f2 ∈ (stagesV l[k].f0).1)
theorem hasS_mem {l : List Sg} {x : Sg} (h : x ∈ l) : hasS l x.f0 x.f1 x.f2 = true := by
  unfold hasS; rw [List.any_eq_true]; exact ⟨x, h, by simp⟩
theorem stepV_ok (p : Int) (l : List Ax) (s : Sp) (hg : gridV p l = 0) (h : IsStep l s) : stepV p l s = 0 := by
  obtain ⟨k, hk, h0, h1⟩ := h
  unfold stepV
  rw [if_pos hg, h0, if_pos ⟨by omega, by omega⟩]
  rcases h1 with ⟨h1, h2⟩ | ⟨h1, h2, h3⟩
  · rw [if_pos h1, h2, if_pos (hasS_mem (x := ⟨0, 0, 0⟩) (by simp))]
  · rw [if_neg (by rw [h1]; simp), show rdAx l (k : Int) = l[k] from rdAx_nat l k hk, if_pos h2, if_pos (hasS_mem h3)]
/-- what a grid that may be says of its axes -/
theorem gGo_five (p : Int) : ∀ l : List Ax, gGo p 5 l ≠ 0
  | [] => by unfold gGo; decide
  | a :: r => by
    unfold gGo
    split
    · split <;> exact gGo_five p r
    · decide
theorem gGo_ok (p : Int) : ∀ l : List Ax, gGo p 0 l = 0 → ∀ a ∈ l, smoothV a.f0 = true ∧ (rootV p (ordW a)).2 = 0
  | [], _, a, ha => by simp at ha
  | x :: r, h, a, ha => by
    unfold gGo at h
    split at h
    · rename_i h1
      split at h
      · rename_i h2
        rcases List.mem_cons.1 ha with rfl | ha
        · exact ⟨h1, h2⟩
        · exact gGo_ok p r h a ha
      · exact absurd h (gGo_five p r)
    · simp at h
theorem grid_ok {p : Int} {l : List Ax} (h : gridV p l = 0) : known p = true ∧ (allV (dimsOf l)).2 = 0 ∧ ∀ a ∈ l, (radV a.f0).2 = 0 ∧ (rootV p (ordW a)).2 = 0 := by
  unfold gridV at h
  split at h
  · rename_i hk
    split at h
    · rename_i ha
      refine ⟨hk, ha, fun a hm => ?_⟩
      obtain ⟨h1, h2⟩ := gGo_ok p l h a hm
      exact ⟨by unfold smoothV at h1; exact beq_iff_eq.1 h1, h2⟩
    · simp at h
  · simp at h
theorem root_ok {p n : Int} (h : (rootV p n).2 = 0) : known p = true ∧ 1 ≤ n ∧ n ≤ 8192 ∧ (p - 1) % n = 0 ∧ rootV p n = (powM p (genF p) ((p - 1) / n).toNat, 0) := by
  unfold rootV at h ⊢
  split at h
  · rename_i hk
    split at h
    · simp at h
    · rename_i h1
      split at h
      · simp at h
      · rename_i h2
        have hn := Int.emod_nonneg (p - 1) (show n ≠ 0 by omega)
        exact ⟨hk, by omega, by omega, by omega, by rw [if_pos hk, if_neg h1, if_neg h2]⟩
  · simp at h
theorem root_mk {p n : Int} (hk : known p = true) (h1 : 1 ≤ n) (h2 : n ≤ 8192) (h3 : (p - 1) % n = 0) : (rootV p n).2 = 0 := by
  unfold rootV
  rw [if_pos hk, if_neg (by omega), if_neg (by omega)]
theorem root_dvd {p n m : Int} (h : (rootV p n).2 = 0) (hm : 1 ≤ m) (hd : m ∣ n) : (rootV p m).2 = 0 := by
  obtain ⟨hk, h1, h2, h3, _⟩ := root_ok h
  have : m ≤ n := Int.le_of_dvd (by omega) hd
  exact root_mk hk hm (by omega) (Int.emod_eq_zero_of_dvd (Int.dvd_trans hd (Int.dvd_of_emod_eq_zero h3)))
/-- no power of a prime's generator is nothing -/
def ginv (p : Int) : Int := if p = P0 then 2635249152773512046 else if p = P1 then 332748118 else 64944062
theorem pow_one_mod {p x : Int} (hp : 1 % p = 1) (h : x % p = 1) : ∀ e : Nat, x ^ e % p = 1
  | 0 => by rw [Int.pow_zero]; exact hp
  | e + 1 => by rw [Int.pow_succ, Int.mul_emod, pow_one_mod hp h e, h, Int.one_mul]; exact hp
theorem gen_pow {p : Int} (hk : known p = true) (e : Nat) : powM p (genF p) e ≠ 0 := by
  have h1 : 1 % p = 1 := by rcases known_cases hk with rfl | rfl | rfl <;> decide
  have h2 : genF p * ginv p % p = 1 := by rcases known_cases hk with rfl | rfl | rfl <;> decide
  intro h
  unfold powM at h
  rw [if_pos hk] at h
  have h3 := pow_one_mod h1 h2 e
  rw [Int.mul_pow, Int.mul_emod, h, Int.zero_mul, Int.zero_emod] at h3
  omega
theorem red_powM {p : Int} (hk : known p = true) (a : Int) (n : Nat) : red p (powM p a n) = powM p a n := by
  unfold red powM; rw [if_pos hk, if_pos hk, Int.emod_emod_of_dvd _ (Int.dvd_refl p)]
theorem inv_ok {p a : Int} (hk : known p = true) (h : red p a ≠ 0) : (invV p a).2 = 0 ∧ inU (invV p a).1 := by
  unfold invV; rw [if_pos hk, if_neg h]; exact ⟨rfl, powM_range _ _ _⟩
theorem back_ok {p n : Int} (h : (rootV p n).2 = 0) : (backV p n).2 = 0 ∧ inU (backV p n).1 := by
  obtain ⟨hk, h1, h2, h3, h4⟩ := root_ok h
  unfold backV
  rw [if_pos h]
  refine inv_ok hk ?_
  rw [h4]
  show red p (powM p _ _) ≠ 0
  rw [red_powM hk]
  exact gen_pow hk _
theorem stGo_ok (n : Int) : ∀ (rs : List Int) (a : Int), 1 ≤ a → (∀ r ∈ rs, 1 ≤ r) → n = a * rs.foldr (· * ·) 1 → ∀ s ∈ stGo n a rs, s.f0 ∈ rs ∧ 1 ≤ s.f1 ∧ 1 ≤ s.f2 ∧ n = s.f1 * (s.f0 * s.f2)
  | [], _, _, _, _, s, h => by simp [stGo] at h
  | r :: l, a, ha, hr, hn, s, h => by
    have hr0 := hr r List.mem_cons_self
    rw [List.foldr_cons] at hn
    have hpos : ∀ l : List Int, (∀ r ∈ l, 1 ≤ r) → 1 ≤ l.foldr (· * ·) 1 := by
      intro l
      induction l with
      | nil => intro _; simp
      | cons x l ih =>
        intro hx
        have h3 := ih (fun r hr => hx r (List.mem_cons_of_mem _ hr))
        have h4 := hx x List.mem_cons_self
        rw [List.foldr_cons]
        have := Int.mul_le_mul h4 h3 (by omega) (by omega)
        omega
    unfold stGo at h
    rcases List.mem_cons.1 h with rfl | h
    · have e : n / a / r = l.foldr (· * ·) 1 := by
        rw [hn, Int.mul_ediv_cancel_left _ (by omega), Int.mul_ediv_cancel_left _ (by omega)]
      refine ⟨List.mem_cons_self, ha, ?_, ?_⟩
      · show 1 ≤ n / a / r; rw [e]; exact hpos l (fun r hr' => hr r (List.mem_cons_of_mem _ hr'))
      · show n = a * (r * (n / a / r)); rw [e]; exact hn
    · obtain ⟨g1, g2⟩ := stGo_ok n l (a * r) (by have := Int.mul_le_mul ha hr0 (by omega) (by omega); omega) (fun r hr' => hr r (List.mem_cons_of_mem _ hr')) (by rw [hn, Int.mul_assoc]) s h
      exact ⟨List.mem_cons_of_mem _ g1, g2⟩
theorem stages_ok {n : Int} (h : (stagesV n).2 = 0) {s : Sg} (hs : s ∈ (stagesV n).1) : 2 ≤ s.f0 ∧ s.f0 ≤ 5 ∧ 1 ≤ s.f1 ∧ 1 ≤ s.f2 ∧ n = s.f1 * (s.f0 * s.f2) ∧ n ≤ 4096 := by
  unfold stagesV at h hs
  by_cases c : (radV n).2 = 0
  · rw [if_pos c] at hs
    obtain ⟨h1, h2, h3, h4, h5⟩ := radV_facts c
    obtain ⟨g1, g2, g3, g4⟩ := stGo_ok n (radV n).1 1 (by omega) (fun r hr => by have := (h3 r hr).1; omega) (by rw [h4, Int.one_mul]) s hs
    exact ⟨(h3 _ g1).1, (h3 _ g1).2, g2, g3, g4, h2⟩
  · rw [if_neg c] at hs; simp at hs
theorem prod_bound {n a b : Int} (ha : 1 ≤ a) (hb : 1 ≤ b) (h : n = a * b) (hn : n ≤ 4096) : b ≤ 4096 := by
  have : 1 * b ≤ a * b := Int.mul_le_mul_of_nonneg_right ha (by omega)
  omega
theorem base_ok {p : Int} {l : List Ax} {s : Sp} (hg : gridV p l = 0) (hs : IsStep l s) (inv : Bool) : (baseV p (rdAx l s.f0) inv s).2 = 0 ∧ inU (baseV p (rdAx l s.f0) inv s).1 := by
  obtain ⟨hk, _, hall⟩ := grid_ok hg
  obtain ⟨k, hkl, h0, h1⟩ := hs
  rw [h0, show rdAx l (k : Int) = l[k] from rdAx_nat l k hkl]
  obtain ⟨hr, ho⟩ := hall l[k] (List.getElem_mem hkl)
  obtain ⟨n1, n2, _⟩ := radV_facts hr
  unfold baseV
  have key : ∀ o, (rootV p o).2 = 0 → (if inv = true then backV p o else rootV p o).2 = 0 ∧ inU (if inv = true then backV p o else rootV p o).1 := by
    intro o h
    cases inv with
    | true => exact back_ok h
    | false => exact ⟨h, rootV_range p o⟩
  rcases h1 with ⟨h1, h2⟩ | ⟨h1, h2, h3⟩
  · cases ha : l[k].f1 with
    | false => rw [if_pos ⟨h1, rfl⟩]; exact ⟨rfl, by unfold inU; decide⟩
    | true =>
      rw [if_neg (by simp), if_pos h1]
      refine key _ ?_
      unfold ordW at ho
      rw [if_pos ha] at ho
      rw [Int.mul_comm]; exact ho
  · have e : (if s.f1 = true then wrap64 (2 * l[k].f0) else wrap64 (s.f2.f0 * s.f2.f2)) = wrap64 (s.f2.f0 * s.f2.f2) := if_neg (by rw [h1]; simp)
    rw [if_neg (by rw [h1]; simp), e]
    refine key _ ?_
    obtain ⟨g1, g2, g3, g4, g5, g6⟩ := stages_ok h2 h3
    have hp1 : 1 ≤ s.f2.f0 * s.f2.f2 := by have := Int.mul_le_mul (show 1 ≤ s.f2.f0 by omega) g4 (by omega) (by omega); omega
    have hp2 := prod_bound g3 hp1 g5 g6
    rw [wrap_small (by omega) (by omega)]
    have hN : (rootV p l[k].f0).2 = 0 := by
      unfold ordW at ho
      by_cases ha : l[k].f1 = true
      · rw [if_pos ha, wrap_small (by omega) (by omega)] at ho
        exact root_dvd ho n1 ⟨2, rfl⟩
      · rw [if_neg ha] at ho; exact ho
    exact root_dvd hN hp1 ⟨s.f2.f1, by rw [Int.mul_comm]; exact g5⟩
/-- a step's factors -/
def tabV (p : Int) (l : List Ax) (inv : Bool) (s : Sp) : List Int :=
  if s.f1 = true then (if inv = true then (powsV p (baseV p (rdAx l s.f0) inv s).1 (rdAx l s.f0).f0.toNat).map fun x => mulF p x (invV p (rdAx l s.f0).f0).1 else powsV p (baseV p (rdAx l s.f0) inv s).1 (rdAx l s.f0).f0.toNat)
  else rowsV p (baseV p (rdAx l s.f0) inv s).1 s.f2.f0.toNat s.f2.f2.toNat
theorem tab_ev {p : Int} {l : List Ax} (hl : l.length ≤ 8796093022208) (inv : Bool) {s : Sp} (hg : gridV p l = 0) (hs : IsStep l s) : Ev (fun k => step_Table.f k p l inv s.f0 s.f1 s.f2.f0 s.f2.f1 s.f2.f2) (tabV p l inv s, 0) := by
  have hsv := stepV_ok p l s hg hs
  obtain ⟨hb0, hb1⟩ := base_ok hg hs inv
  obtain ⟨hk, _, hall⟩ := grid_ok hg
  obtain ⟨k, hkl, h0, h1⟩ := hs
  have hrd : rdAx l s.f0 = l[k] := by rw [h0]; exact rdAx_nat l k hkl
  obtain ⟨hr, ho⟩ := hall l[k] (List.getElem_mem hkl)
  obtain ⟨n1, n2, _⟩ := radV_facts hr
  unfold step_Table.f tabV
  refine Ev.bind (step_ev p l hl s) ?_
  simp only [hsv, if_true]
  have hin : 0 ≤ s.f0 ∧ s.f0 < (l.length : Int) := by omega
  simp only [if_pos hin]
  refine Ev.bind (base_ev p (rdAx l s.f0) inv s) ?_
  simp only [if_pos hb0]
  rw [hrd] at hb1 ⊢
  rcases h1 with ⟨h1, h2⟩ | ⟨h1, h2, h3⟩
  · simp only [h1, Bool.true_eq_false, if_false, if_true]
    obtain ⟨N, hN⟩ := Int.eq_ofNat_of_zero_le (show 0 ≤ l[k].f0 by omega)
    rw [show rd_T33 l s.f0 = l[k] from hrd, hN, Int.toNat_natCast]
    refine Ev.bind (powers_ev hk _ hb1.1 hb1.2 N (by omega)) ?_
    simp only [if_true]
    cases inv with
    | false => simp only [Bool.false_eq_true, if_false]; exact Ev.now _
    | true =>
      simp only [if_true]
      have hc : 0 ≤ (N : Int) ∧ (N : Int) ≤ 4096 := by omega
      simp only [if_pos hc]
      have hp := known_pos hk
      have hred : red p (N : Int) ≠ 0 := by
        unfold red; rw [if_pos hk]
        have : (N : Int) < p := by rcases known_cases hk with rfl | rfl | rfl <;> simp only [P0, P1, P2] <;> omega
        rw [Int.emod_eq_of_lt (by omega) this]; omega
      obtain ⟨i0, i1⟩ := inv_ok hk hred
      refine Ev.bind (inv_ev p (N : Int) (by omega) (by omega)) ?_
      simp only [if_pos i0, powsV_len, if_pos (show N ≤ 65536 by omega)]
      rw [sc_val p _ i1 _ (fun x hx => by unfold powsV at hx; obtain ⟨j, _, rfl⟩ := List.mem_map.1 hx; exact powM_range _ _ _)]
      exact Ev.now _
  · obtain ⟨g1, g2, g3, g4, g5, g6⟩ := stages_ok h2 h3
    have hp1 : 1 ≤ s.f2.f0 * s.f2.f2 := by have := Int.mul_le_mul (show 1 ≤ s.f2.f0 by omega) g4 (by omega) (by omega); omega
    have hp2 := prod_bound g3 hp1 g5 g6
    have hM : s.f2.f2 ≤ 4096 := prod_bound (show 1 ≤ s.f2.f0 by omega) g4 rfl hp2
    simp only [h1, if_true, Bool.false_eq_true, if_false]
    have hc : 0 ≤ s.f2.f0 ∧ s.f2.f0 ≤ 4096 ∧ 0 ≤ s.f2.f2 ∧ s.f2.f2 ≤ 4096 := by omega
    simp only [if_pos hc]
    have := rows_loop hk (baseV p l[k] inv s).1 hb1 s.f2.f0.toNat s.f2.f2.toNat (by omega) (by omega) s.f2.f2.toNat 0 (by omega)
    rw [Int.toNat_of_nonneg (by omega), Int.toNat_of_nonneg (by omega), powM_zero _ hk] at this
    exact this
theorem tab_len {p : Int} {l : List Ax} (inv : Bool) {s : Sp} (hg : gridV p l = 0) (hs : IsStep l s) : (tabV p l inv s).length ≤ 4096 := by
  obtain ⟨hk, _, hall⟩ := grid_ok hg
  obtain ⟨k, hkl, h0, h1⟩ := hs
  have hrd : rdAx l s.f0 = l[k] := by rw [h0]; exact rdAx_nat l k hkl
  obtain ⟨hr, ho⟩ := hall l[k] (List.getElem_mem hkl)
  obtain ⟨n1, n2, _⟩ := radV_facts hr
  unfold tabV
  rcases h1 with ⟨h1, h2⟩ | ⟨h1, h2, h3⟩
  · rw [if_pos h1]
    split
    · rw [List.length_map, powsV_len, hrd]; omega
    · rw [powsV_len, hrd]; omega
  · rw [if_neg (by rw [h1]; simp), rowsV_len]
    obtain ⟨g1, g2, g3, g4, g5, g6⟩ := stages_ok h2 h3
    have hp1 : 1 ≤ s.f2.f0 * s.f2.f2 := by have := Int.mul_le_mul (show 1 ≤ s.f2.f0 by omega) g4 (by omega) (by omega); omega
    have hp2 := prod_bound g3 hp1 g5 g6
    have e : ((s.f2.f2.toNat * s.f2.f0.toNat : Nat) : Int) = s.f2.f0 * s.f2.f2 := by
      rw [Int.natCast_mul, Int.toNat_of_nonneg (by omega), Int.toNat_of_nonneg (by omega), Int.mul_comm]
    omega
end Go.Proofs.YtcilfgedcnehfaaDoor.PCP
