/-
  Part of the proof of a law: what the functions compute. Conditions: none.
-/
import Derived.Test.YtcilfgedcnehfaaVF1
import Derived.Test.YtcilfgedcnehfaaVX1
import Derived.Test.YtcilfgedcnehfaaVP1
set_option linter.unusedVariables false
set_option linter.unusedSectionVars false
set_option linter.unusedSimpArgs false
set_option linter.deprecated false
set_option linter.unusedVariables false
set_option linter.unusedSimpArgs false
namespace Go.AM
open Go Go.Proofs.Ytcilfgedcnehfaa
theorem chk10_w {S : St} {a : Option Addr} {n c : Nat} : Gv (g_script_Check [.slice a n c]) S (vI (if 1024 < n then 1 else 0)) := by
  refine .of ?_
  rw [g_script_Check_eq]
  simp only [wps]
  refine ⟨fun h => by rw [if_pos (by omega)], fun h => by rw [if_neg (by omega)]⟩
theorem sparse_w {S : St} {p : Option Addr} {n c : Nat} {l : List Ev} (h : Ar S p n 6 Ev.cells l) (hn : n ≤ 1024) : Gv (g_script_Sparse [.slice p n c]) S (vT [vB (sparseB l), vI 0]) := by
  refine .of ?_
  unfold g_script_Sparse sparG readV
  simp only [wps]
  refine wp_rdA h (fun _ => rfl) ?_
  have : sparR n (l.flatMap Ev.cells) = some [.bool (sparseB l), .int .i64 0] := by
    unfold sparR
    simp only [evOf_evs, if_pos hn]
  rw [this]
  simp only [wps]
theorem ar_lit {S : St} {b : Nat} {t : TypeId} {g : Option Nat} (l : List Ev) {n : Nat} {cs : List Value} (hb : S[b]? = some (.cells cs t g)) (hn : n = l.length) (hc : cs = l.flatMap Ev.cells) : Ar S (some ⟨b, 0, none⟩) n 6 Ev.cells l := by
  subst hn
  exact Ar.blk hb (fun _ _ => rfl) hc
theorem sparse_big_w {S : St} {p : Option Addr} {n c : Nat} {l : List Ev} (h : Ar S p n 6 Ev.cells l) (hn : 1024 < n) (hn2 : n ≤ 2000) : Gv (g_script_Sparse [.slice p n c]) S (vT [vB false, vI 1]) := by
  refine .of ?_
  unfold g_script_Sparse sparG readV
  simp only [wps]
  refine wp_rdA h (fun _ => rfl) ?_
  have : sparR n (l.flatMap Ev.cells) = some [.bool false, .int .i64 1] := by
    unfold sparR
    simp only [evOf_evs, if_neg (show ¬ n ≤ 1024 by omega), if_pos hn2]
  rw [this]
  simp only [wps]
end Go.AM
set_option linter.unusedVariables false
set_option linter.unusedSimpArgs false
namespace Go.AM
open Go Go.Proofs.Ytcilfgedcnehfaa
theorem r01same_w {S : St} {p r : Option Addr} {n m c d : Nat} {x y : List Int} (h : Ar S p n 1 eU x) (k : Ar S r m 1 eU y) (hn : n ≤ 140737488355328) :
    Gv (g_r01_Same [.slice p n c, .slice r m d]) S (vB (decide (x = y))) := by
  have h1 := h.1
  have k1 := k.1
  refine .of ?_
  rw [g_r01_Same_eq]
  simp only [wps]
  refine ⟨fun e => ?_, fun e => ?_⟩
  · have : x ≠ y := fun q => e (by rw [h1, k1, q])
    simp [this]
  refine wp_loop (fun st S' t => ∃ j : Nat, st = [vI j] ∧ j ≤ n ∧ t = n - j ∧ S' = S ∧ x.take j = y.take j) ?_ n _ _ ⟨0, rfl, by omega, by omega, rfl, rfl⟩
  rintro st S' t ⟨j, rfl, hj, rfl, rfl, ht⟩
  simp only [wps]
  refine ⟨fun h3 => ⟨h3, ?_⟩, fun h3 => ?_⟩
  · have hx : j < x.length := by omega
    have hy : j < y.length := by omega
    obtain ⟨a, rfl, c0⟩ := h.getU hx
    obtain ⟨b, rfl, d0⟩ := k.getU hy
    simp only [wps, c0, d0]
    rw [wI_ (n := (j : Int) + 1) (by omega) (by omega)]
    refine ⟨by omega, fun e3 => ?_, fun e3 => ?_⟩
    · have : x ≠ y := fun q => e3 (by subst q; rfl)
      simp [this]
    · exact ⟨n - (j + 1), by omega, j + 1, rfl, by omega, rfl, take_eq_step ht hx hy e3⟩
  · rw [List.take_of_length_le (by omega), List.take_of_length_le (by omega)] at ht
    simp [ht]
theorem nothing_w {S : St} {x : Ev} {n : Int} : Sp (g_script_nothing [x.val, vI n]) S fun v _ => v = vB (x.nothing n) := by
  unfold Sp
  rw [g_script_nothing_eq]
  simp only [wps]
  have hp := List.prefix_append S [AObj.cells [vI x.it, vI x.tr, vI x.wi, vI x.ti, vI x.ad, vU x.ma] 26 none]
  unfold Ev.nothing
  refine ⟨fun h1 => ⟨hp, by simp [h1]⟩, fun h1 => ⟨fun h2 => ⟨hp, by simp [h2]⟩, fun h2 => ⟨hp, ?_⟩⟩⟩
  have : (x.ma == 0) = false := by simpa using h1
  simp only [this, h2, decide_false, Bool.false_or]
def quietV (l : List Ev) (n : Int) : Bool × Int := if 1024 < l.length then (false, 1) else (quietB l n, 0)
theorem all_take {l : List Ev} {f : Ev → Bool} {j : Nat} (hj : j < l.length) : (l.take (j + 1)).all f = ((l.take j).all f && f l[j]) := by
  rw [take_snoc hj, List.all_append]; simp
theorem all_false {l : List Ev} {f : Ev → Bool} {j : Nat} (hj : j < l.length) (h : f l[j] = false) : l.all f = false := by
  rw [List.all_eq_false]
  exact ⟨l[j], List.getElem_mem hj, by simp [h]⟩
theorem quiet_w {S : St} {p : Option Addr} {n c : Nat} {l : List Ev} {w : Int} (h : Ar S p n 6 Ev.cells l) :
    Sp (g_script_Quiet [.slice p n c, vI w]) S fun v _ => v = vT [vB (quietV l w).1, vI (quietV l w).2] := by
  have hl := h.1
  unfold Sp quietV
  rw [g_script_Quiet_eq]
  by_cases hc : 1024 < n
  · simp only [wps, chk10_w.wp, if_pos hc, if_pos (show 1024 < l.length by omega)]
    exact ⟨fun _ => List.prefix_rfl, fun h => absurd h (by decide)⟩
  · simp only [wps, chk10_w.wp, if_neg hc, if_neg (show ¬ 1024 < l.length by omega)]
    refine wp_loop (fun st S' m => ∃ j : Nat, st = [vI j] ∧ j ≤ n ∧ m = n - j ∧ S <+: S' ∧ (l.take j).all (fun x => x.nothing w) = true) ?_ n _ _ ⟨0, rfl, by omega, rfl, List.prefix_rfl, rfl⟩
    rintro st S1 m ⟨j, rfl, hj, rfl, h1, ht⟩
    simp only [wps]
    refine ⟨fun h3 => ⟨h3, ?_⟩, fun h3 => ?_⟩
    · have hj' : j < l.length := by omega
      obtain ⟨x, rfl, d0, d1, d2, d3, d4, d5⟩ := (h.mono h1).getEv hj'
      have hp2 := List.prefix_append S1 [AObj.cells [vI l[j].it, vI l[j].tr, vI l[j].wi, vI l[j].ti, vI l[j].ad, vU l[j].ma] 26 none]
      simp only [wps, d0, d1, d2, d3, d4, d5]
      refine nothing_w.use ?_
      rintro _ S2 h4 rfl
      simp only [wps]
      rw [wI_ (n := (j : Int) + 1) (by omega) (by omega)]
      refine ⟨fun hq => ⟨h1.trans (hp2.trans h4), ?_⟩, fun hq => ⟨n - (j + 1), by omega, j + 1, rfl, by omega, rfl, h1.trans (hp2.trans h4), ?_⟩⟩
      · unfold quietB; rw [all_false hj' hq]
      · rw [all_take hj', ht, hq]; rfl
    · rw [List.take_of_length_le (by omega)] at ht
      refine ⟨h1, ?_⟩
      unfold quietB; rw [ht]
end Go.AM
set_option linter.unusedVariables false
set_option linter.unusedSimpArgs false
namespace Go.AM
open Go Go.Proofs.Ytcilfgedcnehfaa
def OwnW (S S' : St) (a : Option Addr) (ws : List Int) : Prop := S <+: S' ∧ (ws = [] ∨ ∃ b t g, a = some ⟨b, 0, none⟩ ∧ S.length ≤ b ∧ S'[b]? = some (.cells (ws.flatMap eU) t g))
theorem OwnW.ar {S S' : St} {a : Option Addr} {ws : List Int} (h : OwnW S S' a ws) : Ar S' a ws.length 1 eU ws := by
  rcases h.2 with rfl | ⟨b, t, g, rfl, _, h1⟩
  · exact .nil
  · exact Ar.blk h1 (fun _ _ => rfl) rfl
theorem OwnW.more {S S' S2 : St} {a : Option Addr} {ws : List Int} (h : OwnW S S' a ws) (hs : S' <+: S2) : OwnW S S2 a ws :=
  ⟨h.1.trans hs, h.2.imp id fun ⟨b, t, g, h1, h2, h3⟩ => ⟨b, t, g, h1, h2, pre_get hs h3⟩⟩
theorem OwnW.base {S0 S S' : St} {a : Option Addr} {ws : List Int} (h : OwnW S S' a ws) (hs : S0 <+: S) : OwnW S0 S' a ws :=
  ⟨hs.trans h.1, h.2.imp id fun ⟨b, t, g, h1, h2, h3⟩ => ⟨b, t, g, h1, Nat.le_trans hs.length_le h2, h3⟩⟩
theorem clone_w {S : St} {p : Option Addr} {n c : Nat} {ws : List Int} (h : Ar S p n 1 eU ws) (hn : n ≤ 17592186044416) :
    WP (g_slices_Clone_uint64_uint64 [.slice p n c]) S fun v S' => ∃ a, v = .slice a n n ∧ OwnW S S' a ws := by
  have hl := h.1
  rw [g_slices_Clone_uint64_uint64_eq]
  simp only [wps]
  refine ⟨fun h1 => ?_, fun h1 => ?_⟩
  · have : p = none := by simpa using h1
    subst this
    have h0 : ws = [] := by
      rcases Nat.eq_zero_or_pos ws.length with h0 | h0
      · exact List.eq_nil_of_length_eq_zero h0
      · obtain ⟨a, ha, _⟩ := h.2 0 h0
        cases ha
    subst h0
    have : n = 0 := by simpa using hl
    subst this
    exact ⟨none, rfl, List.prefix_rfl, .inl rfl⟩
  · have hp := List.prefix_append S [AObj.cells [] 24 none]
    have hr := wp_rdA (h.mono hp) (fun _ => rfl) (Q := fun xs S' => xs = ws.flatMap eU ∧ S' = S ++ [AObj.cells [] 24 none]) ⟨rfl, rfl⟩
    rw [Nat.mul_one] at hr
    refine hr.mono ?_
    rintro _ _ ⟨rfl, rfl⟩
    have hfl := flat_len (e := eU) (w := 1) (fun _ => rfl) ws
    unfold appM
    rcases Nat.eq_zero_or_pos n with h0 | h0
    · have hw : ws = [] := List.eq_nil_of_length_eq_zero (by omega)
      subst hw h0
      simp only [Nat.add_zero, Nat.le_refl, if_true, wps]
      have hz := get_new (S := S) (o := AObj.cells [] 24 none)
      simp only [wps, List.flatMap_nil, List.length_nil, Nat.le_refl]
      exact ⟨_, rfl, hp, .inl rfl⟩
    · rw [if_neg (by omega), if_pos ⟨by omega, by omega⟩]
      have hz := get_new (S := S) (o := AObj.cells [] 24 none)
      simp only [Nat.zero_mul, wp_bind, wp_rdN0, hz]
      refine ⟨_, _, by dsimp only; rw [hz], ?_⟩
      simp only [wps]
      exact ⟨_, rfl, pre_add hp _, .inr ⟨_, _, _, rfl, by simp, get_new⟩⟩
def strikeV (l : List Ev) (ws : List Int) : List Int × Int := if 1024 < l.length then ([], 1) else if 16384 < ws.length then ([], 1) else (strike l ws, 0)
theorem xor_term (a b : Int) : wU ((BitVec.ofInt IntKind.u64.bits a ^^^ BitVec.ofInt IntKind.u64.bits b).toNat : Int) = bits .xor .u64 a b := rfl
theorem strike_step {l : List Ev} {ws : List Int} {j : Nat} (hj : j < l.length) : strike (l.take (j + 1)) ws = hit (strike (l.take j) ws) l[j] := by
  unfold strike; rw [take_snoc hj, List.foldl_append]; rfl
theorem hit_own {S S1 S2 : St} {a : Option Addr} {cur : List Int} {x : Ev} {b : Nat} (ho : OwnW S S2 a cur) (hn : x.nothing cur.length = false) : 0 ≤ x.ad ∧ x.ad < cur.length ∧ ∃ b t g, a = some ⟨b, 0, none⟩ ∧ S.length ≤ b ∧ S2[b]? = some (.cells (cur.flatMap eU) t g) := by
  unfold Ev.nothing at hn
  simp only [Bool.or_eq_false_iff, decide_eq_false_iff_not] at hn
  refine ⟨by omega, by omega, ?_⟩
  rcases ho.2 with rfl | h
  · simp at hn; omega
  · exact h
theorem OwnW.hit {S S2 : St} {b : Nat} {t : TypeId} {g : Option Nat} {cur : List Int} {x : Ev} (ho : S <+: S2) (hb : S.length ≤ b) (h : S2[b]? = some (.cells (cur.flatMap eU) t g)) (hn : x.nothing cur.length = false) (h0 : 0 ≤ x.ad) (h1 : x.ad < cur.length) :
    OwnW S (S2.set b (.cells (splice (cur.flatMap eU) x.ad.toNat [vU (bits .xor .u64 (cur[x.ad.toNat]'(by omega)) x.ma)]) t g)) (some ⟨b, 0, none⟩) (hit cur x) := by
  have hput := (Ob.refl (e := eU) h).put (w := 1) (fun _ => rfl) (i := x.ad.toNat) (by omega) (bits .xor .u64 (cur[x.ad.toNat]'(by omega)) x.ma)
  rw [Nat.mul_one] at hput
  have e : Go.Proofs.Ytcilfgedcnehfaa.hit cur x = cur.set x.ad.toNat (bits .xor .u64 (cur[x.ad.toNat]'(by omega)) x.ma) := by
    unfold Go.Proofs.Ytcilfgedcnehfaa.hit
    rw [hn]
    simp only [Bool.false_eq_true, if_false]
    rw [List.getD_eq_getElem?_getD, List.getElem?_eq_getElem (by omega)]; rfl
  rw [e]
  exact ⟨pre_set' ho hb, .inr ⟨b, t, g, rfl, hb, hput.at_⟩⟩
theorem hit_nothing {cur : List Int} {x : Ev} (h : x.nothing cur.length = true) : hit cur x = cur := by unfold hit; rw [if_pos h]
set_option maxHeartbeats 1000000 in
theorem strike_w {S : St} {p r : Option Addr} {n c m d : Nat} {l : List Ev} {ws : List Int} (h : Ar S p n 6 Ev.cells l) (k : Ar S r m 1 eU ws) :
    WP (g_script_Strike [.slice p n c, .slice r m d]) S fun v S' => ∃ a, v = vT [.slice a (strikeV l ws).1.length (strikeV l ws).1.length, vI (strikeV l ws).2] ∧ OwnW S S' a (strikeV l ws).1 := by
  have hl := h.1
  have hm := k.1
  unfold strikeV
  rw [g_script_Strike_eq]
  by_cases hc : 1024 < n
  · simp only [wps, chk10_w.wp, if_pos hc, if_pos (show 1024 < l.length by omega)]
    exact ⟨fun _ => ⟨none, rfl, List.prefix_rfl, .inl rfl⟩, fun h => absurd h (by decide)⟩
  · simp only [wps, chk10_w.wp, if_neg hc, if_neg (show ¬ 1024 < l.length by omega)]
    refine ⟨fun h1 => ?_, fun h1 => ?_⟩
    · rw [if_pos (by omega)]; exact ⟨none, rfl, List.prefix_rfl, .inl rfl⟩
    rw [if_neg (by omega)]
    refine (clone_w (c := d) k (by omega)).mono ?_
    rintro _ S1 ⟨a, rfl, h2⟩
    simp only [wps]
    refine wp_loop (fun st S' t => ∃ j : Nat, st = [vI j] ∧ j ≤ n ∧ t = n - j ∧ OwnW S S' a (strike (l.take j) ws)) ?_ n _ _ ⟨0, rfl, by omega, rfl, h2⟩
    rintro st S2 t ⟨j, rfl, hj, rfl, ho⟩
    simp only [wps]
    have hsl := strike_len (l.take j) ws
    refine ⟨fun h3 => ⟨h3, ?_⟩, fun h3 => ?_⟩
    · have hj' : j < l.length := by omega
      obtain ⟨x, rfl, d0, d1, d2, d3, d4, d5⟩ := (h.mono ho.1).getEv hj'
      have hp2 := List.prefix_append S2 [AObj.cells [vI l[j].it, vI l[j].tr, vI l[j].wi, vI l[j].ti, vI l[j].ad, vU l[j].ma] 26 none]
      have hb2 := get_new (S := S2) (o := AObj.cells [vI l[j].it, vI l[j].tr, vI l[j].wi, vI l[j].ti, vI l[j].ad, vU l[j].ma] 26 none)
      simp only [wps, d0, d1, d2, d3, d4, d5]
      refine nothing_w.use ?_
      rintro _ S3 h4 rfl
      have ho3 := ho.more (hp2.trans h4)
      have hb3 := pre_get h4 hb2
      have hst := strike_step (ws := ws) hj'
      simp only [wps, cell_blk hb3]
      rw [wI_ (n := (j : Int) + 1) (by omega) (by omega)]
      have hml : (m : Int) = ((strike (l.take j) ws).length : Int) := by rw [hsl, hm]
      rw [hml]
      refine ⟨fun hq => ?_, fun hq => ⟨n - (j + 1), by omega, j + 1, rfl, by omega, rfl, ?_⟩⟩
      · obtain ⟨g0, g1, b, t, g, rfl, hbS, hb⟩ := hit_own (S1 := S) (b := 0) ho3 hq
        have hg := (Ob.refl (e := eU) hb).u (i := l[j].ad.toNat) (by omega)
        have hfin := OwnW.hit ho3.1 hbS hb hq g0 g1
        simp only [wps, cell_blk hb3, hg, hb, xor_term]
        refine ⟨⟨g0, g1⟩, ⟨g0, g1⟩, ?_, n - (j + 1), by omega, j + 1, rfl, by omega, rfl, ?_⟩
        · have := flat_len (e := eU) (w := 1) (fun _ => rfl) (strike (l.take j) ws); omega
        · rw [hst]; exact hfin
      · rw [hst, hit_nothing hq]; exact ho3
    · rw [List.take_of_length_le (by omega)] at ho hsl
      exact ⟨a, by rw [hsl, ← hm], ho⟩
end Go.AM
set_option linter.unusedVariables false
set_option linter.unusedSimpArgs false
namespace Go.AM
open Go Go.Proofs.Ytcilfgedcnehfaa
theorem evc_len (l : List Ev) : (l.flatMap Ev.cells).length = l.length * 6 := flat_len (e := Ev.cells) (w := 6) (fun _ => rfl) l
theorem evc_at : ∀ (l : List Ev) (i j : Nat) (hi : i < l.length) (v : Value), l[i].cells[j]? = some v → (l.flatMap Ev.cells)[i * 6 + j]? = some v
  | [], i, j, hi, v, h => by simp at hi
  | x :: l, 0, j, hi, v, h => by
    have hj : j < x.cells.length := by
      rcases Nat.lt_or_ge j x.cells.length with h' | h'
      · exact h'
      · simp at h; rw [List.getElem?_eq_none h'] at h; cases h
    rw [List.flatMap_cons, Nat.zero_mul, Nat.zero_add, List.getElem?_append_left hj]; exact h
  | x :: l, i + 1, j, hi, v, h => by
    have : x.cells.length = 6 := rfl
    rw [List.flatMap_cons, List.getElem?_append_right (by omega), this, show (i + 1) * 6 + j - 6 = i * 6 + j by omega]
    exact evc_at l i j (by simpa using hi) v (by simpa using h)
theorem evc_set : ∀ (l : List Ev) (i : Nat) (x : Ev), i < l.length → splice (l.flatMap Ev.cells) (i * 6) x.cells = (l.set i x).flatMap Ev.cells
  | [], i, x, h => by simp at h
  | y :: l, 0, x, h => by
    rw [List.set_cons_zero, List.flatMap_cons, List.flatMap_cons, Nat.zero_mul]
    unfold splice
    have : x.cells.length = y.cells.length := rfl
    simp [this]
  | y :: l, i + 1, x, h => by
    have ih := evc_set l i x (by simpa using h)
    rw [List.set_cons_succ, List.flatMap_cons, List.flatMap_cons, ← ih]
    have h6 : y.cells.length = 6 := rfl
    unfold splice
    rw [show (i + 1) * 6 = 6 + i * 6 by omega, show 6 = y.cells.length from rfl, List.take_length_add_append, Nat.add_assoc, List.drop_length_add_append]
    simp
structure Od (S : St) (b : Nat) (t : TypeId) (g : Option Nat) (l : List Ev) (S' : St) : Prop where
  len : S.length ≤ S'.length
  keep : ∀ i, i < S.length → i ≠ b → S'[i]? = S[i]?
  at_ : S'[b]? = some (.cells (l.flatMap Ev.cells) t g)
section
variable {S S1 S2 : St} {b : Nat} {t : TypeId} {g : Option Nat} {l l' : List Ev}
theorem Od.refl (h : S[b]? = some (.cells (l.flatMap Ev.cells) t g)) : Od S b t g l S := ⟨Nat.le_refl _, fun _ _ _ => rfl, h⟩
theorem Od.trans (h : Od S b t g l S1) (k : Od S1 b t g l' S2) : Od S b t g l' S2 :=
  ⟨Nat.le_trans h.len k.len, fun i hi hne => by rw [k.keep i (Nat.lt_of_lt_of_le hi h.len) hne, h.keep i hi hne], k.at_⟩
theorem Od.more (h : Od S b t g l S1) (hs : S1 <+: S2) : Od S b t g l S2 :=
  ⟨Nat.le_trans h.len hs.length_le, fun i hi hne => by rw [pre_at hs (Nat.lt_of_lt_of_le hi h.len), h.keep i hi hne], pre_get hs h.at_⟩
theorem Od.ev (h : Od S b t g l S1) {i : Nat} (hi : i < l.length) : S1.cell ⟨b, i * 6, none⟩ = some (vI l[i].it) ∧ S1.cell ⟨b, i * 6 + 1, none⟩ = some (vI l[i].tr) ∧ S1.cell ⟨b, i * 6 + 2, none⟩ = some (vI l[i].wi) ∧
    S1.cell ⟨b, i * 6 + 3, none⟩ = some (vI l[i].ti) ∧ S1.cell ⟨b, i * 6 + 4, none⟩ = some (vI l[i].ad) ∧ S1.cell ⟨b, i * 6 + 5, none⟩ = some (vU l[i].ma) := by
  have k := cell_blk h.at_
  refine ⟨?_, ?_, ?_, ?_, ?_, ?_⟩ <;> rw [k]
  · exact evc_at l i 0 hi _ rfl
  · exact evc_at l i 1 hi _ rfl
  · exact evc_at l i 2 hi _ rfl
  · exact evc_at l i 3 hi _ rfl
  · exact evc_at l i 4 hi _ rfl
  · exact evc_at l i 5 hi _ rfl
theorem Od.put (h : Od S b t g l S1) {i : Nat} (hi : i < l.length) (x : Ev) : Od S b t g (l.set i x) (S1.set b (.cells (splice (l.flatMap Ev.cells) (i * 6) x.cells) t g)) :=
  ⟨by rw [List.length_set]; exact h.len, fun j hj hne => by rw [List.getElem?_set_ne (fun e => hne e.symm), h.keep j hj hne], by rw [List.getElem?_set_self (pre_lt h.at_), evc_set l i x hi]⟩
def swp (l : List Ev) (i j : Nat) (hi : i < l.length) (hj : j < l.length) : List Ev := (l.set i l[j]).set j l[i]
end
theorem sw1 {S0 S : St} {b : Nat} {t : TypeId} {g : Option Nat} {L : List Ev} {i j : Nat} (h : Od S0 b t g L S) (hi : i < L.length) (hj : j < L.length) :
    i * 6 + (1 + 1 + 1 + 1 + 1 + 1) ≤ (L.flatMap Ev.cells).length ∧ (List.set S b (AObj.cells (splice (L.flatMap Ev.cells) (i * 6) [vI L[j].it, vI L[j].tr, vI L[j].wi, vI L[j].ti, vI L[j].ad, vU L[j].ma]) t g))[b]? = some (.cells ((L.set i L[j]).flatMap Ev.cells) t g) ∧
      j * 6 + (1 + 1 + 1 + 1 + 1 + 1) ≤ ((L.set i L[j]).flatMap Ev.cells).length ∧
      Od S0 b t g (swp L i j hi hj) (List.set (List.set S b (AObj.cells (splice (L.flatMap Ev.cells) (i * 6) [vI L[j].it, vI L[j].tr, vI L[j].wi, vI L[j].ti, vI L[j].ad, vU L[j].ma]) t g)) b
        (AObj.cells (splice ((L.set i L[j]).flatMap Ev.cells) (j * 6) [vI L[i].it, vI L[i].tr, vI L[i].wi, vI L[i].ti, vI L[i].ad, vU L[i].ma]) t g)) := by
  have h1 := h.put hi L[j]
  have h2 := h1.put (i := j) (by simpa using hj) L[i]
  exact ⟨by rw [evc_len]; omega, h1.at_, by rw [evc_len, List.length_set]; omega, h2⟩
theorem swp_at {p q s : List Ev} {x y : Ev} {i j : Nat} (hi : i = p.length) (hj : j = p.length + 1 + q.length) (h1 : i < (p ++ x :: (q ++ y :: s)).length) (h2 : j < (p ++ x :: (q ++ y :: s)).length) :
    swp (p ++ x :: (q ++ y :: s)) i j h1 h2 = p ++ y :: (q ++ x :: s) := by
  subst hi hj
  unfold swp
  have e1 : (p ++ x :: (q ++ y :: s))[p.length]'h1 = x := by simp
  have e2 : (p ++ x :: (q ++ y :: s))[p.length + 1 + q.length]'h2 = y := by
    rw [List.getElem_append_right (by omega)]
    simp [show p.length + 1 + q.length - p.length = q.length + 1 by omega]
  rw [e1, e2, List.set_append_right _ _ (by omega), Nat.sub_self, List.set_cons_zero, List.set_append_right _ _ (by omega), show p.length + 1 + q.length - p.length = q.length + 1 by omega, List.set_cons_succ, List.set_append_right _ _ (by omega), Nat.sub_self, List.set_cons_zero]
theorem swapRange_w {S0 S : St} {b n c i j : Nat} {t : TypeId} {g : Option Nat} {cmp : Value} : ∀ {p x q y s : List Ev}, x.length = y.length → p.length = i → (p ++ (x ++ q)).length = j → (p ++ (x ++ (q ++ (y ++ s)))).length = n → n ≤ 1000000 →
    Od S0 b t g (p ++ (x ++ (q ++ (y ++ s)))) S →
    WP (g_slices_swapRangeCmpFunc_api_Event [.slice (some ⟨b, 0, none⟩) n c, vI i, vI j, vI x.length, cmp]) S fun v S' => v = vT [] ∧ Od S0 b t g (p ++ (y ++ (q ++ (x ++ s)))) S' := by
  intro p x q y s hxy hi hj hn hbig h
  rw [g_slices_swapRangeCmpFunc_api_Event_eq]
  simp only [wps]
  have hL : ∀ k, k ≤ x.length → (p ++ (y.take k ++ x.drop k ++ (q ++ (x.take k ++ y.drop k ++ s)))).length = n := by
    intro k hk
    rw [← hn]
    simp [List.length_append, List.length_take, List.length_drop, hxy]; omega
  refine wp_loop (fun st S' m => ∃ k : Nat, st = [vI k] ∧ k ≤ x.length ∧ m = x.length - k ∧ Od S0 b t g (p ++ (y.take k ++ x.drop k ++ (q ++ (x.take k ++ y.drop k ++ s)))) S') ?_ x.length _ _
    ⟨0, rfl, by omega, by omega, by simpa using h⟩
  rintro st S' m ⟨k, rfl, hk, rfl, ho⟩
  simp only [wps]
  refine ⟨fun h3 => ?_, fun h3 => ?_⟩
  · have hk' : k < x.length := by omega
    have hLk := hL k (by omega)
    have e1 : wI ((j : Int) + (k : Int)) = ((j + k : Nat) : Int) := by rw [wI_ (by omega) (by simp at hj hn; omega)]; omega
    have e2 : wI ((i : Int) + (k : Int)) = ((i + k : Nat) : Int) := by rw [wI_ (by omega) (by simp at hj hn; omega)]; omega
    have hjk : j + k < (p ++ (y.take k ++ x.drop k ++ (q ++ (x.take k ++ y.drop k ++ s)))).length := by rw [hLk]; simp at hj hn; omega
    have hik : i + k < (p ++ (y.take k ++ x.drop k ++ (q ++ (x.take k ++ y.drop k ++ s)))).length := by rw [hLk]; simp at hj hn; omega
    obtain ⟨c0, c1, c2, c3, c4, c5⟩ := ho.ev hjk
    obtain ⟨d0, d1, d2, d3, d4, d5⟩ := ho.ev hik
    have gj : ((j + k : Nat) : Int) < (n : Int) := by rw [hLk] at hjk; omega
    have gi : ((i + k : Nat) : Int) < (n : Int) := by rw [hLk] at hik; omega
    simp only [e1, e2, wps, c0, c1, c2, c3, c4, c5, d0, d1, d2, d3, d4, d5, ho.at_, gj, gi]
    obtain ⟨w1, w2, w3, h9⟩ := sw1 ho hik hjk
    refine ⟨w1, _, _, _, w2, w3, ?_⟩
    rw [wI_ (n := (k : Int) + 1) (by omega) (by omega)]
    refine ⟨x.length - (k + 1), by omega, k + 1, rfl, by omega, rfl, ?_⟩
    have ky : k < y.length := by omega
    have E : p ++ (y.take k ++ x.drop k ++ (q ++ (x.take k ++ y.drop k ++ s))) = (p ++ y.take k) ++ x[k] :: ((x.drop (k + 1) ++ (q ++ x.take k)) ++ y[k] :: (y.drop (k + 1) ++ s)) := by
      rw [List.drop_eq_getElem_cons hk', List.drop_eq_getElem_cons ky]; simp only [List.append_assoc, List.cons_append]
    have E2 : p ++ (y.take (k + 1) ++ x.drop (k + 1) ++ (q ++ (x.take (k + 1) ++ y.drop (k + 1) ++ s))) = (p ++ y.take k) ++ y[k] :: ((x.drop (k + 1) ++ (q ++ x.take k)) ++ x[k] :: (y.drop (k + 1) ++ s)) := by
      rw [take_snoc hk', take_snoc ky]; simp only [List.append_assoc, List.cons_append, List.nil_append]
    rw [E2]
    have hsw : ∀ (L : List Ev) (hL : L = (p ++ y.take k) ++ x[k] :: ((x.drop (k + 1) ++ (q ++ x.take k)) ++ y[k] :: (y.drop (k + 1) ++ s))) (h1 : i + k < L.length) (h2 : j + k < L.length),
        swp L (i + k) (j + k) h1 h2 = (p ++ y.take k) ++ y[k] :: ((x.drop (k + 1) ++ (q ++ x.take k)) ++ x[k] :: (y.drop (k + 1) ++ s)) := by
      intro L hL h1 h2
      subst hL
      refine swp_at ?_ ?_ _ _
      · simp; omega
      · simp at hj ⊢; omega
    rw [hsw _ E] at h9
    exact h9
  · have : k = x.length := by omega
    subst this
    simp only [List.take_of_length_le (Nat.le_of_eq hxy.symm), List.drop_length, List.append_nil, List.take_length, List.drop_of_length_le (Nat.le_of_eq hxy.symm)] at ho
    exact ho
theorem rotate_w {S0 S : St} {b n c a m e : Nat} {t : TypeId} {g : Option Nat} {cmp : Value} {p u v s : List Ev} (hu : 0 < u.length) (hv : 0 < v.length) (ha : p.length = a) (hm : a + u.length = m) (he : m + v.length = e)
    (hn : (p ++ (u ++ (v ++ s))).length = n) (hbig : n ≤ 1000000) (h : Od S0 b t g (p ++ (u ++ (v ++ s))) S) :
    WP (g_slices_rotateCmpFunc_api_Event [.slice (some ⟨b, 0, none⟩) n c, vI a, vI m, vI e, cmp]) S fun r S' => r = vT [] ∧ Od S0 b t g (p ++ (v ++ (u ++ s))) S' := by
  have hmn : e + s.length = n := by rw [← hn]; simp; omega
  rw [g_slices_rotateCmpFunc_api_Event_eq]
  simp only [wps]
  have e1 : wI ((m : Int) - (a : Int)) = (u.length : Int) := by rw [wI_ (by omega) (by omega)]; omega
  have e2 : wI ((e : Int) - (m : Int)) = (v.length : Int) := by rw [wI_ (by omega) (by omega)]; omega
  rw [e1, e2]
  refine wp_loop (fun st S' k => ∃ A X Y B : List Ev, st = [vI X.length, vI Y.length] ∧ 0 < X.length ∧ 0 < Y.length ∧ k = X.length + Y.length ∧ A ++ (Y ++ (X ++ B)) = v ++ u ∧ (p ++ (A ++ X)).length = m ∧
    Od S0 b t g (p ++ (A ++ (X ++ (Y ++ (B ++ s))))) S') ?_ (u.length + v.length) _ _ ⟨[], u, v, [], rfl, hu, hv, rfl, by simp, by simp; omega, by simpa using h⟩
  rintro st S' k ⟨A, X, Y, B, rfl, hX, hY, rfl, hAB, hAX, ho⟩
  have hlen : A.length + (Y.length + (X.length + B.length)) = v.length + u.length := by simpa using congrArg List.length hAB
  simp only [List.length_append] at hAX
  simp only [wps]
  have hN : ∀ x q y s' : List Ev, (A ++ (X ++ (Y ++ B))).length = (x ++ (q ++ (y ++ s'))).length → (p ++ (x ++ (q ++ (y ++ (s' ++ s))))).length = n := by
    intro x q y s' hh
    simp only [List.length_append] at hh ⊢
    omega
  refine ⟨fun h1 => ?_, fun h1 => ?_⟩
  · refine ⟨fun h2 => ?_, fun h2 => ?_⟩
    · have hlt : Y.length < X.length := by omega
      have e3 : wI ((m : Int) - (X.length : Int)) = ((p.length + A.length : Nat) : Int) := by rw [wI_ (by omega) (by omega)]; omega
      rw [e3]
      have hl : (X.take Y.length).length = Y.length := by rw [List.length_take]; omega
      have hsw := swapRange_w (S := S') (S0 := S0) (b := b) (n := n) (c := c) (i := p.length + A.length) (j := m) (t := t) (g := g) (cmp := cmp) (p := p ++ A) (x := X.take Y.length) (q := X.drop Y.length) (y := Y) (s := B ++ s) hl (by simp)
        (by simp; omega) (by simp; omega) hbig (by
          have : X.take Y.length ++ (X.drop Y.length ++ (Y ++ (B ++ s))) = X ++ (Y ++ (B ++ s)) := by rw [← List.append_assoc, List.take_append_drop]
          rw [this]; simpa using ho)
      rw [hl] at hsw
      refine hsw.mono ?_
      rintro _ S2 ⟨rfl, h3⟩
      simp only [wps]
      rw [wI_ (n := (X.length : Int) - (Y.length : Int)) (by omega) (by omega)]
      refine ⟨(X.length - Y.length) + Y.length, by omega, A ++ Y, X.drop Y.length, X.take Y.length, B, ?_, by simp; omega, by omega, by simp; omega, ?_, by simp; omega, by simpa using h3⟩
      · rw [List.length_drop, hl]; congr 2; omega
      · rw [← hAB]; simp only [List.append_assoc]; rw [← List.append_assoc (X.take _), List.take_append_drop]
    · have hlt : X.length < Y.length := by omega
      have e3 : wI ((m : Int) - (X.length : Int)) = ((p.length + A.length : Nat) : Int) := by rw [wI_ (by omega) (by omega)]; omega
      have e4 : wI (wI ((m : Int) + (Y.length : Int)) - (X.length : Int)) = ((m + Y.length - X.length : Nat) : Int) := by rw [wI_ (n := (m : Int) + (Y.length : Int)) (by omega) (by omega), wI_ (by omega) (by omega)]; omega
      rw [e3, e4]
      have hl : X.length = (Y.drop (Y.length - X.length)).length := by rw [List.length_drop]; omega
      have hsw := swapRange_w (S := S') (S0 := S0) (b := b) (n := n) (c := c) (i := p.length + A.length) (j := m + Y.length - X.length) (t := t) (g := g) (cmp := cmp) (p := p ++ A) (x := X) (q := Y.take (Y.length - X.length)) (y := Y.drop (Y.length - X.length)) (s := B ++ s) hl (by simp)
        (by simp; omega) (by simp; omega) hbig (by
          have : Y.take (Y.length - X.length) ++ (Y.drop (Y.length - X.length) ++ (B ++ s)) = Y ++ (B ++ s) := by rw [← List.append_assoc, List.take_append_drop]
          rw [this]; simpa using ho)
      refine hsw.mono ?_
      rintro _ S2 ⟨rfl, h3⟩
      simp only [wps]
      rw [wI_ (n := (Y.length : Int) - (X.length : Int)) (by omega) (by omega)]
      refine ⟨X.length + (Y.length - X.length), by omega, A, Y.drop (Y.length - X.length), Y.take (Y.length - X.length), X ++ B, ?_, by omega, by simp; omega, by simp; omega, ?_, by simp; omega, by simpa using h3⟩
      · rw [← hl, List.length_take]; congr 3; omega
      · rw [← hAB]; rw [← List.append_assoc (Y.take _), List.take_append_drop]
  · have h1 : X.length = Y.length := by omega
    have e3 : wI ((m : Int) - (X.length : Int)) = ((p.length + A.length : Nat) : Int) := by rw [wI_ (by omega) (by omega)]; omega
    rw [e3]
    refine (swapRange_w (S := S') (S0 := S0) (b := b) (n := n) (c := c) (i := p.length + A.length) (j := m) (t := t) (g := g) (cmp := cmp) (p := p ++ A) (x := X) (q := []) (y := Y) (s := B ++ s) h1 (by simp) (by simp; omega) (by simp; omega) hbig (by simpa using ho)).mono ?_
    rintro _ S2 ⟨rfl, h3⟩
    simp only [wps]
    have e5 : p ++ (v ++ (u ++ s)) = p ++ A ++ (Y ++ ([] ++ (X ++ (B ++ s)))) := by
      rw [← List.append_assoc v, ← hAB]; simp
    rw [e5]; exact h3
end Go.AM
set_option linter.unusedVariables false
set_option linter.unusedSimpArgs false
namespace Go.AM
open Go Go.Proofs.Ytcilfgedcnehfaa
def CmpOK (C : FuncId → List Value → M Value) (cmp : Value) : Prop := ∀ S (x y : Ev), Sp (callV C cmp [x.val, y.val]) S fun v _ => ∃ d, v = vI d ∧ (d < 0 ↔ x.ti < y.ti)
theorem half_ {x y : Nat} (h : x + y ≤ 10000000) : wI ((wU (wI ((x : Int) + (y : Int)))).fdiv (2 ^ min 1 IntKind.u64.bits)) = (((x + y) / 2 : Nat) : Int) := by
  rw [wI_ (n := (x : Int) + (y : Int)) (by omega) (by omega), wU_ (by omega) (by omega)]
  have e : (2 : Int) ^ min 1 IntKind.u64.bits = 2 := rfl
  rw [e, Int.fdiv_eq_ediv_of_nonneg _ (by omega), wI_ (by omega) (by omega)]
  omega
theorem get_mid {α : Type} {p q : List α} {x : α} {i : Nat} (h : i = p.length) (hi : i < (p ++ x :: q).length) : (p ++ x :: q)[i] = x := by
  subst h; simp
theorem insertion_w {C : FuncId → List Value → M Value} {cmp : Value} (hC : CmpOK C cmp) {S0 S : St} {b n c a e : Nat} {t : TypeId} {g : Option Nat} {p u s : List Ev} (ha : p.length = a) (he : a + u.length = e)
    (hn : (p ++ (u ++ s)).length = n) (hbig : n ≤ 1000000) (h : Od S0 b t g (p ++ (u ++ s)) S) :
    WP (g_slices_insertionSortCmpFunc_api_Event C [.slice (some ⟨b, 0, none⟩) n c, vI a, vI e, cmp]) S fun r S' => r = vT [] ∧ ∃ w, Stab Ev.ti u w ∧ Od S0 b t g (p ++ (w ++ s)) S' := by
  have hen : e + s.length = n := by rw [← hn]; simp; omega
  rw [g_slices_insertionSortCmpFunc_api_Event_eq]
  simp only [wps]
  rw [wI_ (n := (a : Int) + 1) (by omega) (by omega)]
  rcases Nat.eq_zero_or_pos u.length with hu0 | hu0
  · have hu : u = [] := List.eq_nil_of_length_eq_zero hu0
    subst hu
    refine wp_round ?_
    simp only [wps]
    refine ⟨fun hf => by simp at he; omega, fun _ => ⟨[], Stab.self .nil, h⟩⟩
  refine wp_loop (fun st S' m => ∃ (k : Nat) (w : List Ev), st = [vI ((a + k : Nat) : Int)] ∧ 1 ≤ k ∧ k ≤ u.length ∧ m = u.length - k ∧ Stab Ev.ti (u.take k) w ∧ Od S0 b t g (p ++ (w ++ (u.drop k ++ s))) S') ?_ (u.length - 1) _ _
    ⟨1, u.take 1, by simp, by omega, hu0, rfl, ?_, ?_⟩
  rotate_left
  · refine Stab.self ?_
    match u, hu0 with
    | x :: u, _ => simp
  · rw [← List.append_assoc (u.take 1), List.take_append_drop]; exact h
  rintro st S' m ⟨k, w, rfl, hk1, hk, rfl, hst, ho⟩
  have hwl := hst.len
  rw [List.length_take] at hwl
  simp only [wps]
  refine ⟨fun hf => ?_, fun hf => ?_⟩
  rotate_left
  · have : k = u.length := by omega
    subst this
    rw [List.take_length] at hst
    rw [List.drop_length, List.nil_append] at ho
    exact ⟨w, hst, ho⟩
  have hk' : k < u.length := by omega
  refine wp_loop (fun st S' m => ∃ (r1 r2 : List Ev), w = r1 ++ r2 ∧ st = [vI ((a + r1.length : Nat) : Int)] ∧ m = r1.length ∧ (∀ y ∈ r2, u[k].ti < y.ti) ∧ Od S0 b t g (p ++ (r1 ++ u[k] :: (r2 ++ (u.drop (k + 1) ++ s)))) S') ?_ w.length _ _
    ⟨w, [], by simp, by simp; omega, rfl, by simp, by rw [List.drop_eq_getElem_cons hk'] at ho; simp only [List.nil_append]; exact ho⟩
  rintro st S2 m ⟨r1, r2, rfl, rfl, rfl, hr2, ho2⟩
  have hl12 : r1.length + r2.length = k := by rw [List.length_append] at hwl; omega
  have hlen2 : (p ++ (r1 ++ u[k] :: (r2 ++ (u.drop (k + 1) ++ s)))).length = n := by simp; omega
  unfold k_slices_insertionSortCmpFunc_api_Event_1
  simp only [wps]
  have stop : ∀ S3, Od S0 b t g (p ++ (r1 ++ u[k] :: (r2 ++ (u.drop (k + 1) ++ s)))) S3 → (∀ y ∈ r1, y.ti ≤ u[k].ti) →
      ∃ n' < u.length - k, ∃ (k' : Nat) (w : List Ev), [vI (wI (((a + k : Nat) : Int) + 1))] = [vI ((a + k' : Nat) : Int)] ∧ 1 ≤ k' ∧ k' ≤ u.length ∧ n' = u.length - k' ∧ Stab Ev.ti (u.take k') w ∧ Od S0 b t g (p ++ (w ++ (u.drop k' ++ s))) S3 := by
    intro S3 h3 hle
    refine ⟨u.length - (k + 1), by omega, k + 1, r1 ++ u[k] :: r2, ?_, by omega, by omega, rfl, ?_, by simpa using h3⟩
    · rw [wI_ (by omega) (by omega)]; congr 2
    · rw [take_snoc hk']; exact hst.ins hle hr2
  rcases List.eq_nil_or_concat r1 with hr1 | ⟨r0, z, hr1⟩
  · subst hr1
    refine ⟨fun hf => absurd hf (by simp), fun _ => ?_⟩
    exact stop _ ho2 (by simp)
  · subst hr1
    have eL : p ++ (r0.concat z ++ u[k] :: (r2 ++ (u.drop (k + 1) ++ s))) = (p ++ r0) ++ z :: ([] ++ u[k] :: (r2 ++ (u.drop (k + 1) ++ s))) := by simp
    have lz : (r0.concat z).length = r0.length + 1 := by simp
    rw [eL] at ho2 hlen2
    rw [lz] at hl12 ⊢
    have e2 : wI (((a + (r0.length + 1) : Nat) : Int) - 1) = ((a + r0.length : Nat) : Int) := by rw [wI_ (by omega) (by omega)]; omega
    have hi : a + (r0.length + 1) < ((p ++ r0) ++ z :: ([] ++ u[k] :: (r2 ++ (u.drop (k + 1) ++ s)))).length := by rw [hlen2]; omega
    have hj : a + r0.length < ((p ++ r0) ++ z :: ([] ++ u[k] :: (r2 ++ (u.drop (k + 1) ++ s)))).length := by rw [hlen2]; omega
    have gi : ((a + (r0.length + 1) : Nat) : Int) < (n : Int) := by omega
    have gj : ((a + r0.length : Nat) : Int) < (n : Int) := by omega
    have ga : (a : Int) < ((a + (r0.length + 1) : Nat) : Int) := by omega
    have xi : ((p ++ r0) ++ z :: ([] ++ u[k] :: (r2 ++ (u.drop (k + 1) ++ s))))[a + (r0.length + 1)] = u[k] := by
      rw [List.getElem_append_right (by simp; omega)]
      simp only [List.length_append, show a + (r0.length + 1) - (p.length + r0.length) = 1 by omega]
      rfl
    have xj : ((p ++ r0) ++ z :: ([] ++ u[k] :: (r2 ++ (u.drop (k + 1) ++ s))))[a + r0.length] = z := get_mid (by simp; omega) _
    obtain ⟨c0, c1, c2, c3, c4, c5⟩ := ho2.ev hi
    obtain ⟨d0, d1, d2, d3, d4, d5⟩ := ho2.ev hj
    rw [xi] at c0 c1 c2 c3 c4 c5
    rw [xj] at d0 d1 d2 d3 d4 d5
    simp only [e2, wps, c0, c1, c2, c3, c4, c5, d0, d1, d2, d3, d4, d5, gi, gj, ga]
    refine (hC S2 u[k] z).use ?_
    rintro _ S3 h3 ⟨d, rfl, hd⟩
    have ho3 := ho2.more h3
    obtain ⟨c0, c1, c2, c3, c4, c5⟩ := ho3.ev hi
    obtain ⟨d0, d1, d2, d3, d4, d5⟩ := ho3.ev hj
    obtain ⟨w1, w2, w3, h9⟩ := sw1 ho3 hi hj
    rw [xi] at c0 c1 c2 c3 c4 c5
    rw [xj] at d0 d1 d2 d3 d4 d5
    simp only [xi, xj] at w1 w2 w3 h9
    simp only [e2, wps, c0, c1, c2, c3, c4, c5, d0, d1, d2, d3, d4, d5, gi, gj, ho3.at_]
    refine ⟨fun hlt => ⟨w1, _, _, _, w2, w3, ?_⟩, fun hlt => ?_⟩
    · refine ⟨r0.length, by omega, r0, z :: r2, by simp, rfl, rfl, ?_, ?_⟩
      · intro y hy
        rcases List.mem_cons.1 hy with rfl | hy
        · exact hd.1 hlt
        · exact hr2 y hy
      · have hs : swp ((p ++ r0) ++ z :: ([] ++ u[k] :: (r2 ++ (u.drop (k + 1) ++ s)))) (a + (r0.length + 1)) (a + r0.length) hi hj = (p ++ r0) ++ u[k] :: ([] ++ z :: (r2 ++ (u.drop (k + 1) ++ s))) := by
          have := swp_at (p := p ++ r0) (q := []) (s := r2 ++ (u.drop (k + 1) ++ s)) (x := z) (y := u[k]) (i := a + r0.length) (j := a + (r0.length + 1)) (by simp; omega) (by simp; omega) hj hi
          rw [← this]
          unfold swp
          rw [List.set_comm _ _ (by omega)]
        rw [hs] at h9
        simpa using h9
    · refine stop S3 (by rw [eL]; exact ho3) ?_
      intro y hy
      have hz : z.ti ≤ u[k].ti := by
        rcases Int.lt_or_le u[k].ti z.ti with h' | h'
        · exact absurd (hd.2 h') hlt
        · exact h'
      rcases List.mem_append.1 (by simpa using hy : y ∈ r0 ++ [z]) with hy | hy
      · have h7 := (List.pairwise_append.1 hst.ord).1
        rw [List.concat_eq_append] at h7
        have h8 := List.pairwise_append.1 h7
        have := h8.2.2 y hy z (by simp)
        omega
      · simp at hy; subst hy; exact hz
end Go.AM
set_option linter.unusedVariables false
set_option linter.unusedSimpArgs false
namespace Go.AM
open Go Go.Proofs.Ytcilfgedcnehfaa
theorem get_in {α : Type} {p v s : List α} {i k : Nat} (hk : k < v.length) (hi : i = p.length + k) (h : i < (p ++ (v ++ s)).length) : (p ++ (v ++ s))[i] = v[k] := by
  subst hi
  rw [List.getElem_append_right (by omega)]
  simp only [Nat.add_sub_cancel_left]
  rw [List.getElem_append_left hk]
theorem up_w {S0 S : St} {b n : Nat} {t : TypeId} {g : Option Nat} {body : List Value → M (Nat × List Value)} {Q : Nat × List Value → St → Prop} {x : Ev} (a : Nat) {p s : List Ev} (ha : p.length = a) :
    ∀ (v1 v2 : List Ev), (p ++ (x :: (v1 ++ v2) ++ s)).length = n → Od S0 b t g (p ++ (x :: (v1 ++ v2) ++ s)) S →
    (∀ (k : Nat) S' (L : List Ev), L.length = n → k < v1.length → Od S0 b t g L S' → ∀ (h1 : a + k < L.length) (h2 : a + k + 1 < L.length), WP (body [vI ((a + k : Nat) : Int)]) S' fun q S'' => q = (0, [vI ((a + k + 1 : Nat) : Int)]) ∧ Od S0 b t g (swp L (a + k) (a + k + 1) h1 h2) S'') →
    (∀ S' , Od S0 b t g (p ++ (v1 ++ x :: v2 ++ s)) S' → WP (body [vI ((a + v1.length : Nat) : Int)]) S' fun q S'' => q.1 ≠ 0 ∧ Q q S'') →
    WP (loopM body [vI (a : Int)]) S Q := by
  intro v1 v2 hn h hstep hend
  refine wp_loop (fun st S' m => ∃ k : Nat, st = [vI ((a + k : Nat) : Int)] ∧ k ≤ v1.length ∧ m = v1.length - k ∧ Od S0 b t g (p ++ (v1.take k ++ x :: (v1.drop k ++ v2) ++ s)) S') ?_ v1.length _ _ ⟨0, rfl, by omega, rfl, by simpa using h⟩
  rintro st S' m ⟨k, rfl, hk, rfl, ho⟩
  rcases Nat.lt_or_ge k v1.length with hk' | hk'
  · have hlen : (p ++ (v1.take k ++ x :: (v1.drop k ++ v2) ++ s)).length = n := by
      rw [← hn]; simp; omega
    refine (hstep k S' _ hlen hk' ho (by rw [hlen, ← hn]; simp; omega) (by rw [hlen, ← hn]; simp; omega)).mono ?_
    rintro q S'' ⟨rfl, h9⟩
    refine ⟨v1.length - (k + 1), by omega, k + 1, by congr 2, by omega, rfl, ?_⟩
    have e1 : p ++ (v1.take k ++ x :: (v1.drop k ++ v2) ++ s) = (p ++ v1.take k) ++ x :: ([] ++ v1[k] :: (v1.drop (k + 1) ++ v2 ++ s)) := by
      rw [List.drop_eq_getElem_cons hk']; simp only [List.append_assoc, List.cons_append, List.nil_append]
    have e2 : p ++ (v1.take (k + 1) ++ x :: (v1.drop (k + 1) ++ v2) ++ s) = (p ++ v1.take k) ++ v1[k] :: ([] ++ x :: (v1.drop (k + 1) ++ v2 ++ s)) := by
      rw [take_snoc hk']; simp only [List.append_assoc, List.cons_append, List.nil_append]
    have key : ∀ (L : List Ev) (hL : L = (p ++ v1.take k) ++ x :: ([] ++ v1[k] :: (v1.drop (k + 1) ++ v2 ++ s))) (h1 : a + k < L.length) (h2 : a + k + 1 < L.length), swp L (a + k) (a + k + 1) h1 h2 = (p ++ v1.take k) ++ v1[k] :: ([] ++ x :: (v1.drop (k + 1) ++ v2 ++ s)) := by
      intro L hL h1 h2
      subst hL
      exact swp_at (by simp; omega) (by simp; omega) _ _
    rw [key _ e1] at h9
    rw [e2]; exact h9
  · have : k = v1.length := by omega
    subst this
    rw [List.take_length, List.drop_length, List.nil_append] at ho
    refine (hend S' ho).mono ?_
    rintro ⟨i, l⟩ S'' ⟨h1, h2⟩
    cases i with
    | zero => exact absurd rfl h1
    | succ i => exact h2
theorem down_w {S0 S : St} {b n : Nat} {t : TypeId} {g : Option Nat} {body : List Value → M (Nat × List Value)} {Q : Nat × List Value → St → Prop} {x : Ev} (a : Nat) {p s : List Ev} (ha : p.length = a) :
    ∀ (u1 u2 : List Ev), (p ++ (u1 ++ u2 ++ x :: s)).length = n → Od S0 b t g (p ++ (u1 ++ u2 ++ x :: s)) S →
    (∀ (k : Nat) S' (L : List Ev), L.length = n → u1.length < k → k ≤ u1.length + u2.length → Od S0 b t g L S' → ∀ (h1 : a + k < L.length) (h2 : a + k - 1 < L.length), WP (body [vI ((a + k : Nat) : Int)]) S' fun q S'' => q = (0, [vI ((a + k - 1 : Nat) : Int)]) ∧ Od S0 b t g (swp L (a + k - 1) (a + k) h2 h1) S'') →
    (∀ S' , Od S0 b t g (p ++ (u1 ++ x :: u2 ++ s)) S' → WP (body [vI ((a + u1.length : Nat) : Int)]) S' fun q S'' => q.1 ≠ 0 ∧ Q q S'') →
    WP (loopM body [vI ((a + (u1.length + u2.length) : Nat) : Int)]) S Q := by
  intro u1 u2 hn h hstep hend
  refine wp_loop (fun st S' m => ∃ k : Nat, st = [vI ((a + (u1.length + k) : Nat) : Int)] ∧ k ≤ u2.length ∧ m = k ∧ Od S0 b t g (p ++ (u1 ++ u2.take k ++ x :: (u2.drop k ++ s))) S') ?_ u2.length _ _ ⟨u2.length, rfl, by omega, rfl, by simpa using h⟩
  rintro st S' k ⟨_, rfl, hk, rfl, ho⟩
  rcases k with _ | k
  · simp only [List.take_zero, List.drop_zero, List.append_nil] at ho
    refine (hend S' (by simpa using ho)).mono ?_
    rintro ⟨i, l⟩ S'' ⟨h1, h2⟩
    cases i with
    | zero => exact absurd rfl h1
    | succ i => exact h2
  · have hk' : k < u2.length := by omega
    have hlen : (p ++ (u1 ++ u2.take (k + 1) ++ x :: (u2.drop (k + 1) ++ s))).length = n := by
      rw [← hn]; simp; omega
    have hst := hstep (u1.length + (k + 1)) S' _ hlen (by omega) (by omega) ho (by rw [hlen, ← hn]; simp; omega) (by rw [hlen, ← hn]; simp; omega)
    refine hst.mono ?_
    rintro q S'' ⟨rfl, h9⟩
    refine ⟨k, by omega, k, by congr 2, by omega, rfl, ?_⟩
    have e1 : p ++ (u1 ++ u2.take (k + 1) ++ x :: (u2.drop (k + 1) ++ s)) = (p ++ (u1 ++ u2.take k)) ++ u2[k] :: ([] ++ x :: (u2.drop (k + 1) ++ s)) := by
      rw [take_snoc hk']; simp only [List.append_assoc, List.cons_append, List.nil_append]
    have e2 : p ++ (u1 ++ u2.take k ++ x :: (u2.drop k ++ s)) = (p ++ (u1 ++ u2.take k)) ++ x :: ([] ++ u2[k] :: (u2.drop (k + 1) ++ s)) := by
      rw [List.drop_eq_getElem_cons hk']; simp only [List.append_assoc, List.cons_append, List.nil_append]
    have key : ∀ (L : List Ev) (hL : L = (p ++ (u1 ++ u2.take k)) ++ u2[k] :: ([] ++ x :: (u2.drop (k + 1) ++ s))) (h1 : a + (u1.length + (k + 1)) - 1 < L.length) (h2 : a + (u1.length + (k + 1)) < L.length),
        swp L (a + (u1.length + (k + 1)) - 1) (a + (u1.length + (k + 1))) h1 h2 = (p ++ (u1 ++ u2.take k)) ++ x :: ([] ++ u2[k] :: (u2.drop (k + 1) ++ s)) := by
      intro L hL h1 h2
      subst hL
      exact swp_at (by simp; omega) (by simp; omega) _ _
    rw [key _ e1] at h9
    rw [e2]; exact h9
end Go.AM
set_option linter.unusedVariables false
set_option linter.unusedSimpArgs false
namespace Go.AM
open Go Go.Proofs.Ytcilfgedcnehfaa
theorem bs_w {S0 : St} {b : Nat} {t : TypeId} {g : Option Nat} {L : List Ev} {body : List Value → M (Nat × List Value)} {Q : Nat × List Value → St → Prop} {lo hi : Nat} (P : Nat → Prop) (hlh : lo ≤ hi)
    (hmono : ∀ c c', lo ≤ c' → c' ≤ c → c < hi → P c → P c')
    (hbody : ∀ i j S', lo ≤ i → i < j → j ≤ hi → Od S0 b t g L S' → WP (body [vI (i : Nat), vI (j : Nat)]) S' fun q S'' => Od S0 b t g L S'' ∧ ((q = (0, [vI (((i + j) / 2 + 1 : Nat) : Int), vI (j : Nat)]) ∧ P ((i + j) / 2)) ∨ (q = (0, [vI (i : Nat), vI (((i + j) / 2 : Nat) : Int)]) ∧ ¬ P ((i + j) / 2))))
    (hend : ∀ i S', lo ≤ i → i ≤ hi → (∀ c, lo ≤ c → c < i → P c) → (∀ c, i ≤ c → c < hi → ¬ P c) → Od S0 b t g L S' → WP (body [vI (i : Nat), vI (i : Nat)]) S' fun q S'' => q.1 ≠ 0 ∧ Q q S'') :
    ∀ {S}, Od S0 b t g L S → WP (loopM body [vI (lo : Nat), vI (hi : Nat)]) S Q := by
  intro S h
  refine wp_loop (fun st S' m => ∃ i j : Nat, st = [vI (i : Nat), vI (j : Nat)] ∧ lo ≤ i ∧ i ≤ j ∧ j ≤ hi ∧ m = j - i ∧ (∀ c, lo ≤ c → c < i → P c) ∧ (∀ c, j ≤ c → c < hi → ¬ P c) ∧ Od S0 b t g L S') ?_ (hi - lo) _ _
    ⟨lo, hi, rfl, Nat.le_refl _, hlh, Nat.le_refl _, rfl, fun c h1 h2 => by omega, fun c h1 h2 => by omega, h⟩
  rintro st S' m ⟨i, j, rfl, h1, h2, h3, rfl, h4, h5, ho⟩
  rcases Nat.lt_or_ge i j with hij | hij
  · refine (hbody i j S' h1 hij h3 ho).mono ?_
    rintro q S'' ⟨ho2, ⟨rfl, hp⟩ | ⟨rfl, hp⟩⟩
    · exact ⟨j - ((i + j) / 2 + 1), by omega, (i + j) / 2 + 1, j, rfl, by omega, by omega, h3, rfl, fun c hc1 hc2 => hmono _ c hc1 (by omega) (by omega) hp, h5, ho2⟩
    · exact ⟨(i + j) / 2 - i, by omega, i, (i + j) / 2, rfl, h1, by omega, by omega, rfl, h4, fun c hc1 hc2 hpc => hp (hmono c _ (by omega) hc1 hc2 hpc), ho2⟩
  · obtain rfl : i = j := by omega
    refine (hend i S' h1 h3 h4 h5 ho).mono ?_
    rintro ⟨k, l⟩ S'' ⟨g1, g2⟩
    cases k with
    | zero => exact absurd rfl g1
    | succ k => exact g2
theorem swp_comm {L : List Ev} {i j : Nat} (hi : i < L.length) (hj : j < L.length) (hne : i ≠ j) : swp L i j hi hj = swp L j i hj hi := by
  unfold swp
  rw [List.set_comm _ _ hne]
theorem sorted_le {u : List Ev} (hu : u.Pairwise fun a b => a.ti ≤ b.ti) {i j : Nat} (h : i ≤ j) (hj : j < u.length) : (u[i]'(by omega)).ti ≤ u[j].ti := by
  rcases Nat.lt_or_ge i j with h' | h'
  · exact List.pairwise_iff_getElem.1 hu _ _ (by omega) hj h'
  · have : i = j := by omega
    subst this; exact Int.le_refl _
def SymQ (S0 : St) (b : Nat) (t : TypeId) (g : Option Nat) (p u v s : List Ev) (r : Value) (S' : St) : Prop := r = vT [] ∧ ∃ w, Stab Ev.ti (u ++ v) w ∧ Od S0 b t g (p ++ (w ++ s)) S'
variable {C : FuncId → List Value → M Value} {cmp : Value}
set_option maxRecDepth 20000 in
theorem sym1_w (hC : ∀ g1 g2, CmpOK (lookD [(68, g1), (62, g2)] C) cmp) {gR : List Value → M Value} {S0 S : St} {b n c a e : Nat} {t : TypeId} {g : Option Nat} {p v s : List Ev} {x : Ev} (ha : p.length = a) (he : a + 1 + v.length = e)
    (hv0 : 0 < v.length) (hn : (p ++ (([x] ++ v) ++ s)).length = n) (hbig : n ≤ 1000000) (hv : v.Pairwise fun a b => a.ti ≤ b.ti) (h : Od S0 b t g (p ++ (([x] ++ v) ++ s)) S) :
    WP (s_slices_symMergeCmpFunc_api_Event C gR [.slice (some ⟨b, 0, none⟩) n c, vI a, vI ((a + 1 : Nat) : Int), vI e, cmp]) S (SymQ S0 b t g p [x] v s) := by
  have hen : e + s.length = n := by rw [← hn]; simp; omega
  rw [g_slices_symMergeCmpFunc_api_Event_eq]
  have e1 : wI (((a + 1 : Nat) : Int) - (a : Int)) = 1 := by rw [wI_ (by omega) (by omega)]; omega
  simp only [wps, e1]
  have hLv : ∀ k (hk : k < v.length) (h : a + 1 + k < (p ++ (([x] ++ v) ++ s)).length), (p ++ (([x] ++ v) ++ s))[a + 1 + k] = v[k] := by
    intro k hk h
    have e : p ++ (([x] ++ v) ++ s) = (p ++ [x]) ++ (v ++ s) := by simp
    simp only [e]
    exact get_in hk (by simp; omega) _
  have hLx : ∀ (h : a < (p ++ (([x] ++ v) ++ s)).length), (p ++ (([x] ++ v) ++ s))[a] = x := fun h => get_mid ha.symm h
  refine bs_w (S0 := S0) (b := b) (t := t) (g := g) (L := p ++ (([x] ++ v) ++ s)) (lo := a + 1) (hi := e) (fun c => ∃ h : c - (a + 1) < v.length, v[c - (a + 1)].ti < x.ti) (by omega) ?_ ?_ ?_ h
  · rintro c c' h1 h2 h3 ⟨h4, h5⟩
    refine ⟨by omega, ?_⟩
    have := sorted_le hv (i := c' - (a + 1)) (j := c - (a + 1)) (by omega) h4
    omega
  · intro i j S' h1 h2 h3 ho
    have hh := half_ (x := i) (y := j) (by omega)
    have hd : (i + j) / 2 - (a + 1) < v.length := by omega
    have g1 : (((i + j) / 2 : Nat) : Int) < (n : Int) := by omega
    have g2 : (a : Int) < (n : Int) := by omega
    have g3 : (i : Int) < (j : Int) := by omega
    have k1 : (i + j) / 2 < (p ++ (([x] ++ v) ++ s)).length := by rw [hn]; omega
    have k2 : a < (p ++ (([x] ++ v) ++ s)).length := by rw [hn]; omega
    have x1 : (p ++ (([x] ++ v) ++ s))[(i + j) / 2] = v[(i + j) / 2 - (a + 1)] := by
      have := hLv ((i + j) / 2 - (a + 1)) hd (by rw [hn]; omega)
      rw [← this]; congr 1; omega
    obtain ⟨c0, c1, c2, c3, c4, c5⟩ := ho.ev k1
    obtain ⟨d0, d1, d2, d3, d4, d5⟩ := ho.ev k2
    rw [x1] at c0 c1 c2 c3 c4 c5
    rw [hLx k2] at d0 d1 d2 d3 d4 d5
    simp only [wps, hh, g1, g2, g3, c0, c1, c2, c3, c4, c5, d0, d1, d2, d3, d4, d5]
    refine (hC _ _ S' v[(i + j) / 2 - (a + 1)] x).use ?_
    rintro _ S3 h3' ⟨d, rfl, hd'⟩
    simp only [wps]
    refine ⟨fun hlt => ⟨ho.more h3', .inl ⟨?_, hd, hd'.1 hlt⟩⟩, fun hlt => ⟨ho.more h3', .inr ?_⟩⟩
    · rw [wI_ (n := (((i + j) / 2 : Nat) : Int) + 1) (by omega) (by omega)]; rfl
    · rintro ⟨_, h6⟩; exact hlt (hd'.2 h6)
  · intro i S' h1 h2 h3 h4 ho
    have g3 : ¬ (i : Int) < (i : Int) := by omega
    simp only [wps, g3]
    have e2 : wI ((i : Int) - 1) = ((i - 1 : Nat) : Int) := by rw [wI_ (by omega) (by omega)]; omega
    have evs_ : v.take (i - (a + 1)) ++ v.drop (i - (a + 1)) = v := List.take_append_drop _ _
    have hl1 : (v.take (i - (a + 1))).length = i - (a + 1) := by rw [List.length_take]; omega
    refine ⟨by omega, up_w (n := n) (S0 := S0) (b := b) (t := t) (g := g) (x := x) (p := p) (s := s) a ha (v.take (i - (a + 1))) (v.drop (i - (a + 1))) ?_ ?_ ?_ ?_⟩
    · rw [evs_]; exact hn
    · rw [evs_]; exact ho
    · intro k S2 L hL hk ho2 k1 k2
      have f1 : wI (((a + k : Nat) : Int) + 1) = ((a + k + 1 : Nat) : Int) := by rw [wI_ (by omega) (by omega)]; omega
      have f2 : ((a + k : Nat) : Int) < ((i - 1 : Nat) : Int) := by omega
      have f3 : ((a + k + 1 : Nat) : Int) < (n : Int) := by omega
      have f4 : ((a + k : Nat) : Int) < (n : Int) := by omega
      obtain ⟨c0, c1, c2, c3, c4, c5⟩ := ho2.ev k1
      obtain ⟨d0, d1, d2, d3, d4, d5⟩ := ho2.ev k2
      obtain ⟨w1, w2, w3, h9⟩ := sw1 ho2 k1 k2
      simp only [wps, e2, f1, f2, f3, f4, c0, c1, c2, c3, c4, c5, d0, d1, d2, d3, d4, d5, ho2.at_]
      exact ⟨w1, _, _, _, w2, w3, h9⟩
    · intro S2 ho2
      have f2 : ¬ ((a + (v.take (i - (a + 1))).length : Nat) : Int) < ((i - 1 : Nat) : Int) := by omega
      simp only [wps, e2, f2]
      refine ⟨by omega, rfl, v.take (i - (a + 1)) ++ x :: v.drop (i - (a + 1)), ?_, ho2⟩
      have hS := Stab.front (key := Ev.ti) (x := x) (v1 := v.take (i - (a + 1))) (v2 := v.drop (i - (a + 1))) (by rw [evs_]; exact hv) ?_ ?_
      · rw [evs_] at hS; exact hS
      · intro y hy
        obtain ⟨k, hk, rfl⟩ := List.mem_iff_getElem.1 hy
        rw [List.getElem_take]
        rw [hl1] at hk
        obtain ⟨_, h6⟩ := h3 (a + 1 + k) (by omega) (by omega)
        simpa using h6
      · intro y hy
        obtain ⟨k, hk, rfl⟩ := List.mem_iff_getElem.1 hy
        rw [List.length_drop] at hk
        rw [List.getElem_drop]
        have h6 := h4 (i + k) (by omega) (by omega)
        have e7 : i + k - (a + 1) = i - (a + 1) + k := by omega
        rcases Int.lt_or_le (v[i - (a + 1) + k]'(by omega)).ti x.ti with h8 | h8
        · exact absurd ⟨by omega, by simpa only [e7] using h8⟩ h6
        · exact h8
set_option maxRecDepth 20000 in
theorem sym2_w (hC : ∀ g1 g2, CmpOK (lookD [(68, g1), (62, g2)] C) cmp) {gR : List Value → M Value} {S0 S : St} {b n c a m : Nat} {t : TypeId} {g : Option Nat} {p u s : List Ev} {x : Ev} (ha : p.length = a) (hm : a + u.length = m)
    (hu0 : 1 < u.length) (hn : (p ++ ((u ++ [x]) ++ s)).length = n) (hbig : n ≤ 1000000) (hu : u.Pairwise fun a b => a.ti ≤ b.ti) (h : Od S0 b t g (p ++ ((u ++ [x]) ++ s)) S) :
    WP (s_slices_symMergeCmpFunc_api_Event C gR [.slice (some ⟨b, 0, none⟩) n c, vI a, vI m, vI ((m + 1 : Nat) : Int), cmp]) S (SymQ S0 b t g p u [x] s) := by
  have hen : m + 1 + s.length = n := by rw [← hn]; simp; omega
  rw [g_slices_symMergeCmpFunc_api_Event_eq]
  have e0 : wI ((m : Int) - (a : Int)) = ((u.length : Nat) : Int) := by rw [wI_ (by omega) (by omega)]; omega
  have e1 : wI (((m + 1 : Nat) : Int) - (m : Int)) = 1 := by rw [wI_ (by omega) (by omega)]; omega
  have e0' : ¬ ((u.length : Nat) : Int) = 1 := by omega
  simp only [wps, e0, e1, e0']
  have hLu : ∀ k (hk : k < u.length) (h : a + k < (p ++ ((u ++ [x]) ++ s)).length), (p ++ ((u ++ [x]) ++ s))[a + k] = u[k] := by
    intro k hk h
    have e : p ++ ((u ++ [x]) ++ s) = p ++ (u ++ ([x] ++ s)) := by simp
    simp only [e]
    exact get_in hk (by omega) _
  have hLx : ∀ (h : m < (p ++ ((u ++ [x]) ++ s)).length), (p ++ ((u ++ [x]) ++ s))[m] = x := fun h => by
    have e : p ++ ((u ++ [x]) ++ s) = (p ++ u) ++ x :: s := by simp
    simp only [e]
    exact get_mid (by simp; omega) _
  intro _
  refine bs_w (S0 := S0) (b := b) (t := t) (g := g) (L := p ++ ((u ++ [x]) ++ s)) (lo := a) (hi := m) (fun c => ∃ h : c - a < u.length, u[c - a].ti ≤ x.ti) (by omega) ?_ ?_ ?_ h
  · rintro c c' h1 h2 h3 ⟨h4, h5⟩
    refine ⟨by omega, ?_⟩
    have := sorted_le hu (i := c' - a) (j := c - a) (by omega) h4
    omega
  · intro i j S' h1 h2 h3 ho
    have hh := half_ (x := i) (y := j) (by omega)
    have hd : (i + j) / 2 - a < u.length := by omega
    have g1 : (((i + j) / 2 : Nat) : Int) < (n : Int) := by omega
    have g2 : (m : Int) < (n : Int) := by omega
    have g3 : (i : Int) < (j : Int) := by omega
    have k1 : (i + j) / 2 < (p ++ ((u ++ [x]) ++ s)).length := by rw [hn]; omega
    have k2 : m < (p ++ ((u ++ [x]) ++ s)).length := by rw [hn]; omega
    have x1 : (p ++ ((u ++ [x]) ++ s))[(i + j) / 2] = u[(i + j) / 2 - a] := by
      have := hLu ((i + j) / 2 - a) hd (by rw [hn]; omega)
      rw [← this]; congr 1; omega
    obtain ⟨c0, c1, c2, c3, c4, c5⟩ := ho.ev k1
    obtain ⟨d0, d1, d2, d3, d4, d5⟩ := ho.ev k2
    rw [x1] at c0 c1 c2 c3 c4 c5
    rw [hLx k2] at d0 d1 d2 d3 d4 d5
    simp only [wps, hh, g1, g2, g3, c0, c1, c2, c3, c4, c5, d0, d1, d2, d3, d4, d5]
    refine (hC _ _ S' x u[(i + j) / 2 - a]).use ?_
    rintro _ S3 h3' ⟨d, rfl, hd'⟩
    simp only [wps]
    refine ⟨fun hlt => ⟨ho.more h3', .inl ⟨?_, hd, ?_⟩⟩, fun hlt => ⟨ho.more h3', .inr ?_⟩⟩
    · rw [wI_ (n := (((i + j) / 2 : Nat) : Int) + 1) (by omega) (by omega)]; rfl
    · rcases Int.lt_or_le x.ti u[(i + j) / 2 - a].ti with h8 | h8
      · exact absurd (hd'.2 h8) hlt
      · exact h8
    · rintro ⟨_, h6⟩
      have := hd'.1 hlt
      omega
  · intro i S' h1 h2 h3 h4 ho
    have g3 : ¬ (i : Int) < (i : Int) := by omega
    simp only [wps, g3]
    have evs_ : u.take (i - a) ++ u.drop (i - a) = u := List.take_append_drop _ _
    have hl1 : (u.take (i - a)).length = i - a := by rw [List.length_take]; omega
    have hl2 : (u.drop (i - a)).length = u.length - (i - a) := by rw [List.length_drop]
    have hm2 : (m : Int) = ((a + ((u.take (i - a)).length + (u.drop (i - a)).length) : Nat) : Int) := by rw [hl1, hl2]; omega
    rw [hm2]
    refine ⟨by omega, down_w (n := n) (S0 := S0) (b := b) (t := t) (g := g) (x := x) (p := p) (s := s) a ha (u.take (i - a)) (u.drop (i - a)) ?_ ?_ ?_ ?_⟩
    · rw [evs_]; simpa using hn
    · rw [evs_]; simpa using ho
    · intro k S2 L hL hk hk2 ho2 k1 k2
      have f1 : wI (((a + k : Nat) : Int) - 1) = ((a + k - 1 : Nat) : Int) := by rw [wI_ (by omega) (by omega)]; omega
      have f2 : (i : Int) < ((a + k : Nat) : Int) := by omega
      have f3 : ((a + k - 1 : Nat) : Int) < (n : Int) := by omega
      have f4 : ((a + k : Nat) : Int) < (n : Int) := by omega
      obtain ⟨c0, c1, c2, c3, c4, c5⟩ := ho2.ev k1
      obtain ⟨d0, d1, d2, d3, d4, d5⟩ := ho2.ev k2
      obtain ⟨w1, w2, w3, h9⟩ := sw1 ho2 k1 k2
      rw [swp_comm k1 k2 (by omega)] at h9
      simp only [wps, f1, f2, f3, f4, c0, c1, c2, c3, c4, c5, d0, d1, d2, d3, d4, d5, ho2.at_]
      exact ⟨w1, _, _, _, w2, w3, h9⟩
    · intro S2 ho2
      have f2 : ¬ (i : Int) < ((a + (u.take (i - a)).length : Nat) : Int) := by omega
      simp only [wps, f2]
      refine ⟨by omega, rfl, u.take (i - a) ++ x :: u.drop (i - a), ?_, ho2⟩
      have hS := Stab.ins (key := Ev.ti) (l := u) (x := x) (r1 := u.take (i - a)) (r2 := u.drop (i - a)) (by rw [evs_]; exact Stab.self hu) ?_ ?_
      · exact hS
      · intro y hy
        obtain ⟨k, hk, rfl⟩ := List.mem_iff_getElem.1 hy
        rw [List.getElem_take]
        rw [hl1] at hk
        obtain ⟨_, h6⟩ := h3 (a + k) (by omega) (by omega)
        simpa using h6
      · intro y hy
        obtain ⟨k, hk, rfl⟩ := List.mem_iff_getElem.1 hy
        rw [List.length_drop] at hk
        rw [List.getElem_drop]
        have h6 := h4 (i + k) (by omega) (by omega)
        have e7 : i + k - a = i - a + k := by omega
        rcases Int.lt_or_le x.ti (u[i - a + k]'(by omega)).ti with h8 | h8
        · exact h8
        · exact absurd ⟨by omega, by simpa only [e7] using h8⟩ h6
end Go.AM
set_option linter.unusedVariables false
set_option linter.unusedSimpArgs false
namespace Go.AM
open Go Go.Proofs.Ytcilfgedcnehfaa
variable {C : FuncId → List Value → M Value} {cmp : Value}
def SymR (gR : List Value → M Value) (S0 : St) (b n c : Nat) (t : TypeId) (g : Option Nat) (cmp : Value) (N : Nat) : Prop :=
  ∀ (S : St) (p u v s : List Ev) (a m e : Nat), u.length + v.length < N → 0 < u.length → 0 < v.length → p.length = a → a + u.length = m → m + v.length = e → (p ++ ((u ++ v) ++ s)).length = n →
    (u.Pairwise fun a b => a.ti ≤ b.ti) → (v.Pairwise fun a b => a.ti ≤ b.ti) → Od S0 b t g (p ++ ((u ++ v) ++ s)) S →
    WP (gR [.slice (some ⟨b, 0, none⟩) n c, vI a, vI m, vI e, cmp]) S (SymQ S0 b t g p u v s)
theorem k1_w {gR : List Value → M Value} {S0 S : St} {b n c a m e i mid : Nat} {t : TypeId} {g : Option Nat} {p w1 u2 v2 s : List Ev} {N : Nat} {R : Nat × List Value → St → Prop} (hR : SymR gR S0 b n c t g cmp N) (hbig : n ≤ 1000000)
    (hmid : mid = (a + e) / 2) (hae : e ≤ n) (ham : a ≤ n) (hmn : m ≤ n) (hp : p.length + w1.length = mid) (h1 : mid + u2.length = mid + m - i) (h2 : mid + m - i + v2.length = e) (hN : u2.length + v2.length < N) (hn : (p ++ (w1 ++ ((u2 ++ v2) ++ s))).length = n) (hi : i ≤ m)
    (hu : u2.Pairwise fun a b => a.ti ≤ b.ti) (hv : v2.Pairwise fun a b => a.ti ≤ b.ti) (h : Od S0 b t g (p ++ (w1 ++ ((u2 ++ v2) ++ s))) S)
    (q : ∀ w2 S', Stab Ev.ti (u2 ++ v2) w2 → Od S0 b t g (p ++ (w1 ++ (w2 ++ s))) S' → R (0, [vT []]) S') :
    WP (k_slices_symMergeCmpFunc_api_Event_1 gR (some ⟨b, 0, none⟩) n c a m e cmp (i : Nat) (0, [])) S R := by
  unfold k_slices_symMergeCmpFunc_api_Event_1
  have hh := half_ (x := a) (y := e) (by omega)
  rw [← hmid] at hh
  have e1 : wI ((mid : Int) + (m : Int)) = ((mid + m : Nat) : Int) := by rw [wI_ (by omega) (by omega)]; omega
  have e2 : wI (((mid + m : Nat) : Int) - (i : Int)) = ((mid + m - i : Nat) : Int) := by rw [wI_ (by omega) (by omega)]; omega
  simp only [wps, hh, e1, e2]
  have triv : (u2 = [] ∨ v2 = []) → R (0, [vT []]) S := by
    intro h0
    refine q (u2 ++ v2) S (Stab.self ?_) h
    rcases h0 with rfl | rfl
    · exact hv
    · rw [List.append_nil]; exact hu
  refine ⟨fun g1 => ⟨fun g2 => ?_, fun g2 => ?_⟩, fun g1 => ?_⟩
  · refine (hR S (p ++ w1) u2 v2 s mid (mid + m - i) e hN (by omega) (by omega) (by simp; omega) h1 h2 (by rw [← hn]; simp) hu hv (by simpa using h)).mono ?_
    rintro _ S' ⟨rfl, w2, h3, h4⟩
    simp only [wps]
    exact q w2 S' h3 (by simpa using h4)
  · exact triv (.inr (List.eq_nil_of_length_eq_zero (by omega)))
  · exact triv (.inl (List.eq_nil_of_length_eq_zero (by omega)))
theorem k2_w {gR : List Value → M Value} {S0 S : St} {b n c a m e i mid : Nat} {t : TypeId} {g : Option Nat} {p u1 v1 u2 v2 s : List Ev} {N : Nat} {R : Nat × List Value → St → Prop} (hR : SymR gR S0 b n c t g cmp N) (hbig : n ≤ 1000000)
    (hmid : mid = (a + e) / 2) (hae : e ≤ n) (ham : a ≤ n) (hmn : m ≤ n) (ha : p.length = a) (h0 : a + u1.length = i) (h00 : i + v1.length = mid) (h1 : mid + u2.length = mid + m - i) (h2 : mid + m - i + v2.length = e) (hN : u2.length + v2.length < N) (hN' : u1.length + v1.length < N) (hi : i ≤ m)
    (hn : (p ++ ((u1 ++ v1) ++ ((u2 ++ v2) ++ s))).length = n)
    (hu : u2.Pairwise fun a b => a.ti ≤ b.ti) (hv : v2.Pairwise fun a b => a.ti ≤ b.ti) (hu1 : u1.Pairwise fun a b => a.ti ≤ b.ti) (hv1 : v1.Pairwise fun a b => a.ti ≤ b.ti) (h : Od S0 b t g (p ++ ((u1 ++ v1) ++ ((u2 ++ v2) ++ s))) S)
    (q : ∀ w1 w2 S', Stab Ev.ti (u1 ++ v1) w1 → Stab Ev.ti (u2 ++ v2) w2 → Od S0 b t g (p ++ (w1 ++ (w2 ++ s))) S' → R (0, [vT []]) S') :
    WP (k_slices_symMergeCmpFunc_api_Event_2 gR (some ⟨b, 0, none⟩) n c a m e cmp (i : Nat) (0, [])) S R := by
  unfold k_slices_symMergeCmpFunc_api_Event_2
  have hh := half_ (x := a) (y := e) (by omega)
  rw [← hmid] at hh
  have next : ∀ S1 w1, Stab Ev.ti (u1 ++ v1) w1 → Od S0 b t g (p ++ (w1 ++ ((u2 ++ v2) ++ s))) S1 → WP (k_slices_symMergeCmpFunc_api_Event_1 gR (some ⟨b, 0, none⟩) n c a m e cmp (i : Nat) (0, [])) S1 R := by
    intro S1 w1 h3 h4
    have hl := h3.len
    simp only [List.length_append] at hl
    exact k1_w hR hbig hmid hae ham hmn (by omega) h1 h2 hN (by rw [← hn]; simp; omega) hi hu hv h4 fun w2 S' h5 h6 => q w1 w2 S' h3 h5 h6
  simp only [wps, hh]
  have triv : (u1 = [] ∨ v1 = []) → WP (k_slices_symMergeCmpFunc_api_Event_1 gR (some ⟨b, 0, none⟩) n c a m e cmp (i : Nat) (0, [])) S R := by
    intro h0
    refine next S (u1 ++ v1) (Stab.self ?_) h
    rcases h0 with rfl | rfl
    · exact hv1
    · rw [List.append_nil]; exact hu1
  refine ⟨fun g1 => ⟨fun g2 => ?_, fun g2 => ?_⟩, fun g1 => ?_⟩
  · refine (hR S p u1 v1 ((u2 ++ v2) ++ s) a i mid hN' (by omega) (by omega) ha h0 h00 hn hu1 hv1 h).mono ?_
    rintro _ S' ⟨rfl, w1, h3, h4⟩
    simp only [wps]
    exact next S' w1 h3 h4
  · exact triv (.inr (List.eq_nil_of_length_eq_zero (by omega)))
  · exact triv (.inl (List.eq_nil_of_length_eq_zero (by omega)))
theorem k3_w (hC : ∀ g1 g2, CmpOK (lookD [(68, g1), (62, g2)] C) cmp) {gR : List Value → M Value} {S0 S : St} {b n c a m e mid lo hi : Nat} {t : TypeId} {g : Option Nat} {p u v s : List Ev} {N : Nat} {R : Nat × List Value → St → Prop} (hR : SymR gR S0 b n c t g cmp N)
    (hN : u.length + v.length ≤ N) (hbig : n ≤ 1000000) (hmid : mid = (a + e) / 2) (ha : p.length = a) (hm : a + u.length = m) (he : m + v.length = e) (hu0 : 1 < u.length) (hv0 : 1 < v.length) (hn : (p ++ ((u ++ v) ++ s)).length = n)
    (hu : u.Pairwise fun a b => a.ti ≤ b.ti) (hv : v.Pairwise fun a b => a.ti ≤ b.ti) (h : Od S0 b t g (p ++ ((u ++ v) ++ s)) S) (hlo : lo = if mid < m then mid + m - e else a) (hhi : hi = if mid < m then mid else m)
    (q : ∀ w S', Stab Ev.ti (u ++ v) w → Od S0 b t g (p ++ (w ++ s)) S' → R (0, [vT []]) S') :
    WP (k_slices_symMergeCmpFunc_api_Event_3 C gR (some ⟨b, 0, none⟩) n c a m e cmp (0, [vI (lo : Nat), vI (hi : Nat)])) S R := by
  have hen : e + s.length = n := by rw [← hn]; simp; omega
  unfold k_slices_symMergeCmpFunc_api_Event_3
  have hh := half_ (x := a) (y := e) (by omega)
  rw [← hmid] at hh
  have e1 : wI ((mid : Int) + (m : Int)) = ((mid + m : Nat) : Int) := by rw [wI_ (by omega) (by omega)]; omega
  have e2 : wI (((mid + m : Nat) : Int) - 1) = ((mid + m - 1 : Nat) : Int) := by rw [wI_ (by omega) (by omega)]; omega
  have bnd : a ≤ lo ∧ lo ≤ hi ∧ hi ≤ m ∧ ∀ c, lo ≤ c → c < hi → m ≤ mid + m - 1 - c ∧ mid + m - 1 - c < e := by
    by_cases hc : mid < m
    · rw [if_pos hc] at hlo hhi; refine ⟨by omega, by omega, by omega, fun c h1 h2 => by omega⟩
    · rw [if_neg hc] at hlo hhi; refine ⟨by omega, by omega, by omega, fun c h1 h2 => by omega⟩
  obtain ⟨b1, b2, b3, b4⟩ := bnd
  have hLu : ∀ k (hk : k < u.length) (h : a + k < (p ++ ((u ++ v) ++ s)).length), (p ++ ((u ++ v) ++ s))[a + k] = u[k] := by
    intro k hk h
    have e : p ++ ((u ++ v) ++ s) = p ++ (u ++ (v ++ s)) := by simp
    simp only [e]
    exact get_in hk (by omega) _
  have hLv : ∀ k (hk : k < v.length) (h : m + k < (p ++ ((u ++ v) ++ s)).length), (p ++ ((u ++ v) ++ s))[m + k] = v[k] := by
    intro k hk h
    have e : p ++ ((u ++ v) ++ s) = (p ++ u) ++ (v ++ s) := by simp
    simp only [e]
    exact get_in hk (by simp; omega) _
  simp only [wps, hh, e1, e2]
  refine bs_w (S0 := S0) (b := b) (t := t) (g := g) (L := p ++ ((u ++ v) ++ s)) (lo := lo) (hi := hi) (fun c => ∃ (h : c - a < u.length) (h' : mid + m - 1 - c - m < v.length), u[c - a].ti ≤ v[mid + m - 1 - c - m].ti) b2 ?_ ?_ ?_ h
  · rintro c c' h1 h2 h3 ⟨h4, h5, h6⟩
    have b5 := b4 c' h1 (by omega)
    refine ⟨by omega, by omega, ?_⟩
    have l1 := sorted_le hu (i := c' - a) (j := c - a) (by omega) h4
    have l2 := sorted_le hv (i := mid + m - 1 - c - m) (j := mid + m - 1 - c' - m) (by omega) (by omega)
    omega
  · intro i j S' h1 h2 h3 ho
    have hh2 := half_ (x := i) (y := j) (by omega)
    have b5 := b4 ((i + j) / 2) (by omega) (by omega)
    have hd : (i + j) / 2 - a < u.length := by omega
    have hd2 : mid + m - 1 - (i + j) / 2 - m < v.length := by omega
    have e3 : wI (((mid + m - 1 : Nat) : Int) - (((i + j) / 2 : Nat) : Int)) = ((mid + m - 1 - (i + j) / 2 : Nat) : Int) := by rw [wI_ (by omega) (by omega)]; omega
    have g1 : (((i + j) / 2 : Nat) : Int) < (n : Int) := by omega
    have g2 : ((mid + m - 1 - (i + j) / 2 : Nat) : Int) < (n : Int) := by omega
    have g3 : (i : Int) < (j : Int) := by omega
    have k1 : (i + j) / 2 < (p ++ ((u ++ v) ++ s)).length := by rw [hn]; omega
    have k2 : mid + m - 1 - (i + j) / 2 < (p ++ ((u ++ v) ++ s)).length := by rw [hn]; omega
    have x1 : (p ++ ((u ++ v) ++ s))[(i + j) / 2] = u[(i + j) / 2 - a] := by
      have := hLu ((i + j) / 2 - a) hd (by rw [hn]; omega)
      rw [← this]; congr 1; omega
    have x2 : (p ++ ((u ++ v) ++ s))[mid + m - 1 - (i + j) / 2] = v[mid + m - 1 - (i + j) / 2 - m] := by
      have := hLv (mid + m - 1 - (i + j) / 2 - m) hd2 (by rw [hn]; omega)
      rw [← this]; congr 1; omega
    obtain ⟨c0, c1, c2, c3, c4, c5⟩ := ho.ev k1
    obtain ⟨d0, d1, d2, d3, d4, d5⟩ := ho.ev k2
    rw [x1] at c0 c1 c2 c3 c4 c5
    rw [x2] at d0 d1 d2 d3 d4 d5
    simp only [wps, hh, e1, e2, hh2, e3, g1, g2, g3, c0, c1, c2, c3, c4, c5, d0, d1, d2, d3, d4, d5]
    refine (hC _ _ S' v[mid + m - 1 - (i + j) / 2 - m] u[(i + j) / 2 - a]).use ?_
    rintro _ S3 h3' ⟨d, rfl, hd'⟩
    simp only [wps]
    refine ⟨fun hlt => ⟨ho.more h3', .inl ⟨?_, hd, hd2, ?_⟩⟩, fun hlt => ⟨ho.more h3', .inr ?_⟩⟩
    · rw [wI_ (n := (((i + j) / 2 : Nat) : Int) + 1) (by omega) (by omega)]; rfl
    · rcases Int.lt_or_le v[mid + m - 1 - (i + j) / 2 - m].ti u[(i + j) / 2 - a].ti with h8 | h8
      · exact absurd (hd'.2 h8) hlt
      · exact h8
    · rintro ⟨_, _, h6⟩
      have := hd'.1 hlt
      omega
  · intro i S' h1 h2 h3 h4 ho
    have g3 : ¬ (i : Int) < (i : Int) := by omega
    have e4 : wI (((mid + m : Nat) : Int) - (i : Int)) = ((mid + m - i : Nat) : Int) := by rw [wI_ (by omega) (by omega)]; omega
    obtain ⟨u1, u2, v1, v2, hu12, hv12, l1, l2, i1, i2, i3, i4, f1, f2⟩ := split_facts Ev.ti u v a m e mid i lo hi hm.symm he.symm hmid hu0 hv0 hlo hhi h1 h2 hu hv
      (fun c h5 h6 h7 h8 => by obtain ⟨_, _, h9⟩ := h3 c h7 h8; exact h9)
      (fun c h5 h6 h7 h8 => by
        have := h4 c h7 h8
        rcases Int.lt_or_le v[mid + m - 1 - c - m].ti u[c - a].ti with h9 | h9
        · exact h9
        · exact absurd ⟨h5, h6, h9⟩ this)
    subst hu12 hv12
    simp only [List.length_append] at hm he hu0 hv0 hN
    obtain ⟨su1, su2, _⟩ := List.pairwise_append.1 hu
    obtain ⟨sv1, sv2, _⟩ := List.pairwise_append.1 hv
    have next : ∀ S1, Od S0 b t g (p ++ ((u1 ++ v1) ++ ((u2 ++ v2) ++ s))) S1 → WP (k_slices_symMergeCmpFunc_api_Event_2 gR (some ⟨b, 0, none⟩) n c a m e cmp (i : Nat) (0, [])) S1 R := by
      intro S1 h9
      have hsm : u2.length + v2.length < N ∧ u1.length + v1.length < N := by omega
      refine k2_w hR hbig hmid (by omega) (by omega) (by omega) ha (by omega) (by omega) (by omega) (by omega) hsm.1 hsm.2 i2 (by rw [← hn]; simp; omega) su2 sv2 su1 sv1 h9 fun w1 w2 S2 h10 h11 h12 => ?_
      refine q (w1 ++ w2) S2 (Stab.join h10 h11 hu hv f1 f2) (by simpa using h12)
    simp only [wps, g3, e4]
    refine ⟨by omega, ⟨fun g1 => ⟨fun g2 => ?_, fun g2 => ?_⟩, fun g1 => ?_⟩⟩
    · refine (rotate_w (S0 := S0) (S := S') (b := b) (n := n) (c := c) (a := i) (m := m) (e := mid + m - i) (t := t) (g := g) (cmp := cmp) (p := p ++ u1) (u := u2) (v := v1) (s := v2 ++ s) (by omega) (by omega) (by simp; omega) (by omega) (by omega) (by rw [← hn]; simp) hbig (by simpa using ho)).mono ?_
      rintro _ S2 ⟨rfl, h9⟩
      simp only [wps]
      exact next S2 (by simpa using h9)
    · have : v1 = [] := List.eq_nil_of_length_eq_zero (by omega)
      subst this
      exact next S' (by simpa using ho)
    · have : u2 = [] := List.eq_nil_of_length_eq_zero (by omega)
      subst this
      exact next S' (by simpa using ho)
set_option maxRecDepth 20000 in
theorem sym_w (hC : ∀ g1 g2, CmpOK (lookD [(68, g1), (62, g2)] C) cmp) {S0 : St} {b n c : Nat} {t : TypeId} {g : Option Nat} (hbig : n ≤ 1000000) :
    ∀ f, SymR (r_slices_symMergeCmpFunc_api_Event C f) S0 b n c t g cmp f := by
  intro f
  induction f with
  | zero => intro S p u v s a m e h1; omega
  | succ f ih =>
    intro S p u v s a m e hN hu0 hv0 ha hm he hn hu hv h
    have hen : e + s.length = n := by rw [← hn]; simp; omega
    show WP (s_slices_symMergeCmpFunc_api_Event C (r_slices_symMergeCmpFunc_api_Event C f) _) S _
    rcases Nat.lt_or_ge 1 u.length with hu1 | hu1
    · rcases Nat.lt_or_ge 1 v.length with hv1 | hv1
      · rw [g_slices_symMergeCmpFunc_api_Event_eq]
        have e0 : wI ((m : Int) - (a : Int)) = ((u.length : Nat) : Int) := by rw [wI_ (by omega) (by omega)]; omega
        have e1 : wI ((e : Int) - (m : Int)) = ((v.length : Nat) : Int) := by rw [wI_ (by omega) (by omega)]; omega
        have e0' : ¬ ((u.length : Nat) : Int) = 1 := by omega
        have e1' : ¬ ((v.length : Nat) : Int) = 1 := by omega
        have hh := half_ (x := a) (y := e) (by omega)
        have e2 : wI ((((a + e) / 2 : Nat) : Int) + (m : Int)) = (((a + e) / 2 + m : Nat) : Int) := by rw [wI_ (by omega) (by omega)]; omega
        simp only [wps, e0, e1, e0', e1', hh, e2]
        intro _ _
        refine ⟨fun g1 => ?_, fun g1 => ?_⟩
        · have e3 : wI ((((a + e) / 2 + m : Nat) : Int) - (e : Int)) = (((a + e) / 2 + m - e : Nat) : Int) := by rw [wI_ (by omega) (by omega)]; omega
          rw [e3]
          refine k3_w hC ih (by omega) hbig rfl ha hm he hu1 hv1 hn hu hv h (by rw [if_pos (by omega)]) (by rw [if_pos (by omega)]) fun w S' h3 h4 => ?_
          simp only [wps]
          exact ⟨rfl, w, h3, h4⟩
        · refine k3_w hC ih (by omega) hbig rfl ha hm he hu1 hv1 hn hu hv h (by rw [if_neg (by omega)]) (by rw [if_neg (by omega)]) fun w S' h3 h4 => ?_
          simp only [wps]
          exact ⟨rfl, w, h3, h4⟩
      · obtain ⟨x, rfl⟩ := List.length_eq_one_iff.1 (show v.length = 1 by omega)
        obtain rfl : e = m + 1 := by simpa using he.symm
        exact sym2_w hC ha hm hu1 hn hbig hu h
    · obtain ⟨x, rfl⟩ := List.length_eq_one_iff.1 (show u.length = 1 by omega)
      obtain rfl : m = a + 1 := by simpa using hm.symm
      exact sym1_w hC ha he hv0 hn hbig hv h
end Go.AM
set_option linter.unusedVariables false
set_option linter.unusedSimpArgs false
namespace Go.AM
open Go Go.Proofs.Ytcilfgedcnehfaa
variable {C : FuncId → List Value → M Value} {cmp : Value}
theorem chk_at {α : Type} {key : α → Int} {b a k : Nat} {l : List α} (h : Chk key b l) (ha : a = k * b) : ((l.drop a).take b).Pairwise fun x y => key x ≤ key y := by
  subst ha; exact h k
theorem same_app {l1 l2 r1 r2 : List Ev} (h1 : ∀ x, at_key Ev.ti x r1 = at_key Ev.ti x l1) (h2 : ∀ x, at_key Ev.ti x r2 = at_key Ev.ti x l2) : ∀ x, at_key Ev.ti x (r1 ++ r2) = at_key Ev.ti x (l1 ++ l2) := fun x => by
  rw [at_key_append, at_key_append, h1, h2]
theorem take_add_ {α : Type} (l : List α) (a b : Nat) : l.take (a + b) = l.take a ++ (l.drop a).take b := List.take_add
theorem merge_w (hC : ∀ g1 g2, CmpOK (lookD [(68, g1), (62, g2)] C) cmp) {S0 : St} {b n c : Nat} {t : TypeId} {g : Option Nat} {L : List Ev} {blk : Nat} (hb0 : 0 < blk) (hbn : blk < n) (hL : L.length = n) (hbig : n ≤ 900) (hc : Chk Ev.ti blk L)
    {Q : Nat × List Value → St → Prop} (hQ : ∀ (q a : Nat) (D : List Ev) S', a = q * (2 * blk) → a ≤ n → n < a + 2 * blk → D.length = a → Chk Ev.ti (2 * blk) D → (∀ x, at_key Ev.ti x D = at_key Ev.ti x (L.take a)) → Od S0 b t g (D ++ L.drop a) S' → Q (1, [vI (a : Nat)]) S') :
    ∀ {S}, Od S0 b t g L S → WP (loopM (fun st => guardM (st.length = 2) ((aI (st.headD topV)).bind fun n_3 => (aI (st.tail.headD topV)).bind fun n_4 => bif decide (n_4 ≤ (n : Int)) then
      (g_slices_symMergeCmpFunc_api_Event C [Value.slice (some ⟨b, 0, none⟩) n c, vI n_3, vI (wI (n_3 + (blk : Int))), vI n_4, cmp]).bind fun v => (asT v).bind fun vs => guardM (vs.length = 0) (retQ 0 [vI n_4, vI (wI (n_4 + wI (2 * (blk : Int))))]) else retQ 1 [vI n_3])) [vI 0, vI (wI (2 * (blk : Int)))]) S Q := by
  intro S h
  have e2 : wI (2 * (blk : Int)) = ((2 * blk : Nat) : Int) := by rw [wI_ (by omega) (by omega)]; omega
  rw [e2]
  refine wp_loop (fun st S' m => ∃ (q a : Nat) (D : List Ev), st = [vI a, vI ((a + 2 * blk : Nat) : Int)] ∧ a = q * (2 * blk) ∧ a ≤ n ∧ m = n - a ∧ D.length = a ∧ Chk Ev.ti (2 * blk) D ∧ (∀ x, at_key Ev.ti x D = at_key Ev.ti x (L.take a)) ∧ Od S0 b t g (D ++ L.drop a) S') ?_ n _ _
    ⟨0, 0, [], by simp, by omega, by omega, by omega, rfl, .nil, fun x => by simp [at_key], by simpa using h⟩
  rintro st S' m ⟨q, a, D, rfl, ha, han, rfl, hD, hcD, hsD, ho⟩
  simp only [wps]
  refine ⟨fun h1 => ?_, fun h1 => ?_⟩
  · have e3 : wI ((a : Int) + (blk : Int)) = ((a + blk : Nat) : Int) := by rw [wI_ (by omega) (by omega)]; omega
    have e4 : wI (((a + 2 * blk : Nat) : Int) + ((2 * blk : Nat) : Int)) = ((a + 2 * blk + 2 * blk : Nat) : Int) := by rw [wI_ (by omega) (by omega)]; omega
    rw [e3, e4]
    have hu := chk_at (a := a) (k := 2 * q) hc (by rw [ha, Nat.mul_comm 2 q, Nat.mul_assoc])
    have hv := chk_at (a := a + blk) (k := 2 * q + 1) hc (by rw [ha, Nat.add_mul, Nat.mul_comm 2 q, Nat.mul_assoc]; omega)
    have lu : ((L.drop a).take blk).length = blk := by rw [List.length_take, List.length_drop]; omega
    have lv : ((L.drop (a + blk)).take blk).length = blk := by rw [List.length_take, List.length_drop]; omega
    have eL : D ++ L.drop a = D ++ (((L.drop a).take blk ++ (L.drop (a + blk)).take blk) ++ L.drop (a + 2 * blk)) := by
      congr 1
      rw [List.append_assoc]
      conv => lhs; rw [← List.take_append_drop blk (L.drop a)]
      congr 1
      rw [List.drop_drop]
      conv => lhs; rw [← List.take_append_drop blk (L.drop (a + blk))]
      congr 1
      rw [List.drop_drop]; congr 1; omega
    rw [eL] at ho
    have hw := sym_w (n := n) (c := c) (S0 := S0) (b := b) (t := t) (g := g) hC (by omega) 1000 S' D _ _ _ a (a + blk) (a + 2 * blk) (by rw [lu, lv]; omega) (by omega) (by omega) hD (by omega) (by omega) (by simp; omega) hu hv ho
    refine WP.mono hw ?_
    rintro _ S2 ⟨rfl, w, h3, h4⟩
    have hwl := h3.len
    rw [List.length_append, lu, lv] at hwl
    simp only [wps]
    refine ⟨n - (a + 2 * blk), by omega, q + 1, a + 2 * blk, D ++ w, rfl, by rw [ha]; exact (Nat.succ_mul q (2 * blk)).symm, by omega, rfl, by simp; omega, hcD.snoc (by rw [hD, ha]) h3.ord (by omega), ?_, by simpa using h4⟩
    have e5 : L.take (a + 2 * blk) = L.take a ++ ((L.drop a).take blk ++ (L.drop (a + blk)).take blk) := by
      rw [show a + 2 * blk = a + (blk + blk) by omega, take_add_, take_add_ (L.drop a), List.drop_drop]
    rw [e5]
    exact same_app hsD h3.same
  · exact hQ q a D S' ha han (by omega) hD hcD hsD ho
theorem stable_w (hC1 : CmpOK C cmp) (hC : ∀ g1 g2, CmpOK (lookD [(68, g1), (62, g2)] C) cmp) {S0 S : St} {b n c : Nat} {t : TypeId} {g : Option Nat} {l : List Ev} (hn : l.length = n) (hbig : n ≤ 900) (h : Od S0 b t g l S) :
    WP (g_slices_stableCmpFunc_api_Event C [.slice (some ⟨b, 0, none⟩) n c, vI n, cmp]) S fun r S' => r = vT [] ∧ ∃ w, Stab Ev.ti l w ∧ Od S0 b t g w S' := by
  rw [g_slices_stableCmpFunc_api_Event_eq]
  simp only [wps]
  refine wp_loop (fun st S' m => ∃ (q a : Nat) (D : List Ev), st = [vI a, vI ((a + 20 : Nat) : Int)] ∧ a = q * 20 ∧ a ≤ n ∧ m = n - a ∧ D.length = a ∧ Chk Ev.ti 20 D ∧ (∀ x, at_key Ev.ti x D = at_key Ev.ti x (l.take a)) ∧ Od S0 b t g (D ++ l.drop a) S') ?_ n _ _
    ⟨0, 0, [], rfl, rfl, by omega, by omega, rfl, .nil, fun x => by simp [at_key], by simpa using h⟩
  rintro st S' m ⟨q, a, D, rfl, ha, han, rfl, hD, hcD, hsD, ho⟩
  simp only [wps]
  refine ⟨fun h1 => ?_, fun h1 => ?_⟩
  · have lu : ((l.drop a).take 20).length = 20 := by rw [List.length_take, List.length_drop]; omega
    have e4 : wI (((a + 20 : Nat) : Int) + 20) = ((a + 20 + 20 : Nat) : Int) := by rw [wI_ (by omega) (by omega)]; omega
    rw [e4]
    have eL : D ++ l.drop a = D ++ ((l.drop a).take 20 ++ l.drop (a + 20)) := by
      congr 1
      conv => lhs; rw [← List.take_append_drop 20 (l.drop a)]
      rw [List.drop_drop]
    rw [eL] at ho
    refine (insertion_w (n := n) (c := c) hC1 hD (by omega) (by simp; omega) (by omega) ho).mono ?_
    rintro _ S2 ⟨rfl, w, h3, h4⟩
    have hwl := h3.len
    simp only [wps]
    refine ⟨n - (a + 20), by omega, q + 1, a + 20, D ++ w, rfl, by omega, by omega, rfl, by simp; omega, hcD.snoc (by rw [hD, ha]) h3.ord (by omega), ?_, by simpa using h4⟩
    rw [take_add_]
    exact same_app hsD h3.same
  · refine (insertion_w (n := n) (c := c) (s := []) hC1 hD (e := n) (u := l.drop a) (by rw [List.length_drop]; omega) (by simp; omega) (by omega) (by simpa using ho)).mono ?_
    rintro _ S2 ⟨rfl, w, h3, h4⟩
    have hwl := h3.len
    rw [List.length_drop] at hwl
    simp only [wps]
    refine wp_loop (fun st S' m => ∃ (blk : Nat) (L : List Ev), st = [vI blk] ∧ 0 < blk ∧ m = n - blk ∧ blk ≤ 2000 ∧ L.length = n ∧ Chk Ev.ti blk L ∧ (∀ x, at_key Ev.ti x L = at_key Ev.ti x l) ∧ Od S0 b t g L S') ?_ (n - 20) _ _
      ⟨20, D ++ w, rfl, by omega, rfl, by omega, by simp; omega, hcD.snoc (by rw [hD, ha]) h3.ord (by omega), ?_, by simpa using h4⟩
    rotate_left
    · have := same_app hsD h3.same
      rwa [List.take_append_drop] at this
    rintro st S3 m ⟨blk, L, rfl, hb0, rfl, hb2, hL, hc, hs, ho3⟩
    simp only [wps]
    refine ⟨fun h5 => ?_, fun h5 => ?_⟩
    rotate_left
    · exact ⟨L, ⟨hc.all (by omega), hs⟩, ho3⟩
    have e9 : wI ((blk : Int) * 2) = ((2 * blk : Nat) : Int) := by rw [wI_ (by omega) (by omega)]; omega
    refine merge_w (S0 := S0) hC hb0 (by omega) hL hbig hc ?_ ho3
    intro q2 a2 D2 S4 ha2 han2 hna2 hD2 hcD2 hsD2 ho4
    have e3 : wI ((a2 : Int) + (blk : Int)) = ((a2 + blk : Nat) : Int) := by rw [wI_ (by omega) (by omega)]; omega
    have hu := chk_at (a := a2) (k := 2 * q2) hc (by rw [ha2, Nat.mul_comm 2 q2, Nat.mul_assoc])
    simp only [wps, e3, e9]
    refine ⟨fun h6 => ?_, fun h6 => ?_⟩
    · have hv := chk_at (a := a2 + blk) (k := 2 * q2 + 1) hc (by rw [ha2, Nat.add_mul, Nat.mul_comm 2 q2, Nat.mul_assoc]; omega)
      rw [List.take_of_length_le (by rw [List.length_drop]; omega)] at hv
      have lu : ((L.drop a2).take blk).length = blk := by rw [List.length_take, List.length_drop]; omega
      have lv : (L.drop (a2 + blk)).length = n - (a2 + blk) := by rw [List.length_drop]; omega
      have eL : D2 ++ L.drop a2 = D2 ++ (((L.drop a2).take blk ++ L.drop (a2 + blk)) ++ []) := by
        congr 1
        rw [List.append_nil]
        conv => lhs; rw [← List.take_append_drop blk (L.drop a2)]
        rw [List.drop_drop]
      rw [eL] at ho4
      refine WP.mono (sym_w (n := n) (c := c) (S0 := S0) (b := b) (t := t) (g := g) hC (by omega) 1000 S4 D2 _ _ _ a2 (a2 + blk) n (by rw [lu, lv]; omega) (by omega) (by omega) hD2 (by omega) (by omega) (by simp; omega) hu hv ho4) ?_
      rintro _ S5 ⟨rfl, w, h7, h8⟩
      have hwl := h7.len
      rw [List.length_append, lu, lv] at hwl
      simp only [wps]
      refine ⟨n - 2 * blk, by omega, 2 * blk, D2 ++ w, rfl, by omega, rfl, by omega, by simp; omega, hcD2.snoc (by rw [hD2, ha2]) h7.ord (by omega), ?_, by simpa using h8⟩
      have e5 : L = L.take a2 ++ ((L.drop a2).take blk ++ L.drop (a2 + blk)) := by
        conv => lhs; rw [← List.take_append_drop a2 L]
        congr 1
        conv => lhs; rw [← List.take_append_drop blk (L.drop a2)]
        rw [List.drop_drop]
      intro x
      rw [← hs x]
      conv => rhs; rw [e5]
      exact same_app hsD2 h7.same x
    · rw [List.take_of_length_le (by rw [List.length_drop]; omega)] at hu
      refine ⟨n - 2 * blk, by omega, 2 * blk, D2 ++ L.drop a2, rfl, by omega, rfl, by omega, by simp; omega, hcD2.snoc (by rw [hD2, ha2]) hu (by rw [List.length_drop]; omega), ?_, ho4⟩
      intro x
      rw [← hs x]
      conv => rhs; rw [← List.take_append_drop a2 L]
      exact same_app hsD2 (fun _ => rfl) x
end Go.AM
set_option linter.unusedVariables false
set_option linter.unusedSimpArgs false
namespace Go.AM
open Go Go.Proofs.Ytcilfgedcnehfaa
def ins1 (out : List Ev) (x : Ev) : List Ev := out.filter (fun y => decide (y.ti ≤ x.ti)) ++ x :: out.filter (fun y => decide (x.ti < y.ti))
def sortS (l : List Ev) : List Ev := l.foldl ins1 []
theorem split_at {out : List Ev} (x : Ev) (h : out.Pairwise fun a b => a.ti ≤ b.ti) : out = out.filter (fun y => decide (y.ti ≤ x.ti)) ++ out.filter (fun y => decide (x.ti < y.ti)) := by
  induction out with
  | nil => rfl
  | cons y out ih =>
    obtain ⟨h1, h2⟩ := List.pairwise_cons.1 h
    have ih := ih h2
    by_cases hy : y.ti ≤ x.ti
    · rw [List.filter_cons, List.filter_cons, if_pos (by simpa using hy), if_neg (by simp; omega), List.cons_append, ← ih]
    · have e1 : out.filter (fun y => decide (y.ti ≤ x.ti)) = [] := by
        rw [List.filter_eq_nil_iff]; intro z hz; have := h1 z hz; simp; omega
      have e2 : out.filter (fun y => decide (x.ti < y.ti)) = out := by
        rw [List.filter_eq_self]; intro z hz; have := h1 z hz; simp; omega
      rw [List.filter_cons, List.filter_cons, if_neg (by simpa using hy), if_pos (by simp; omega), e1, e2, List.nil_append]
theorem ins1_stab {l out : List Ev} {x : Ev} (h : Stab Ev.ti l out) : Stab Ev.ti (l ++ [x]) (ins1 out x) := by
  have e := split_at x h.ord
  rw [e] at h
  exact h.ins (fun y hy => by have := (List.mem_filter.1 hy).2; simpa using this) (fun y hy => by have := (List.mem_filter.1 hy).2; simpa using this)
theorem foldl_stab : ∀ (l l0 out : List Ev), Stab Ev.ti l0 out → Stab Ev.ti (l0 ++ l) (l.foldl ins1 out)
  | [], l0, out, h => by simpa using h
  | x :: l, l0, out, h => by
    have := foldl_stab l (l0 ++ [x]) (ins1 out x) (ins1_stab h)
    simpa using this
theorem sortS_stab (l : List Ev) : Stab Ev.ti l (sortS l) := by
  have := foldl_stab l [] [] (Stab.self .nil)
  simpa [sortS] using this
def ownB (it tr wi : Int) (x : Ev) : Bool := decide (x.it = it) && decide (x.tr = tr) && decide (x.wi = wi)
def ofS (l : List Ev) (it tr wi : Int) : List Ev := sortS (l.filter (ownB it tr wi))
theorem isNaN_w {x : Int} : g_cmp_isNaN_int [vI x] = M.ret (vB false) := by
  refine wp_eq fun S => ?_
  rw [g_cmp_isNaN_int_eq]
  simp only [wps]
  simp
theorem compare_w {x y : Int} : ∃ d, g_cmp_Compare_int [vI x, vI y] = M.ret (vI d) ∧ (d < 0 ↔ x < y) := by
  rcases Int.lt_trichotomy x y with h | h | h
  · refine ⟨-1, wp_eq fun S => ?_, by omega⟩
    rw [g_cmp_Compare_int_eq]
    simp only [wps, isNaN_w]
    exact fun h' => absurd h h'
  · refine ⟨0, wp_eq fun S => ?_, by omega⟩
    rw [g_cmp_Compare_int_eq]
    simp only [wps, isNaN_w]
    exact ⟨fun h' => by omega, fun h' h'' => by omega⟩
  · refine ⟨1, wp_eq fun S => ?_, by omega⟩
    rw [g_cmp_Compare_int_eq]
    simp only [wps, isNaN_w]
    exact ⟨fun h' => by omega, fun h' h'' => by omega⟩
theorem of1_w (S : St) (x y : Ev) : Sp (g_script_Of_1 [x.val, y.val]) S fun v _ => ∃ d, v = vI d ∧ (d < 0 ↔ x.ti < y.ti) := by
  unfold Sp
  rw [g_script_Of_1_eq]
  obtain ⟨d, h1, h2⟩ := compare_w (x := x.ti) (y := y.ti)
  have hb := get_add (t := [AObj.cells [vI y.it, vI y.tr, vI y.wi, vI y.ti, vI y.ad, vU y.ma] 26 none]) (get_new (S := S) (o := AObj.cells [vI x.it, vI x.tr, vI x.wi, vI x.ti, vI x.ad, vU x.ma] 26 none))
  simp only [wps, cell_blk hb, h1]
  exact ⟨pre_add (List.prefix_append _ _) _, d, rfl, h2⟩
theorem cmp_ok1 : CmpOK (lookD [(38, g_script_Of_1)] noC) (.func (.func 38) ⟨[]⟩ ⟨[]⟩) := by
  intro S x y
  simp only [wps, beq_self_eq_true]
  exact of1_w S x y
theorem cmp_ok2 (g1 g2 : List Value → M Value) : CmpOK (lookD [(68, g1), (62, g2)] (lookD [(38, g_script_Of_1)] noC)) (.func (.func 38) ⟨[]⟩ ⟨[]⟩) := by
  intro S x y
  have e1 : ((68 : Nat) == 38) = false := rfl
  have e2 : ((62 : Nat) == 38) = false := rfl
  simp only [wps, e1, e2, beq_self_eq_true]
  exact of1_w S x y
theorem stableNil_w {C : FuncId → List Value → M Value} {cmp : Value} {S : St} : WP (g_slices_stableCmpFunc_api_Event C [.slice none 0 0, vI 0, cmp]) S fun r S' => r = vT [] ∧ S' = S := by
  have hins : ∀ S, WP (g_slices_insertionSortCmpFunc_api_Event C [.slice none 0 0, vI 0, vI 0, cmp]) S fun r S' => r = vT [] ∧ S' = S := by
    intro S
    rw [g_slices_insertionSortCmpFunc_api_Event_eq]
    simp only [wps]
    refine wp_round ?_
    simp only [wps]
    rw [wI_ (n := 0 + 1) (by omega) (by omega)]
    exact fun h => by omega
  rw [g_slices_stableCmpFunc_api_Event_eq]
  simp only [wps]
  refine wp_round ?_
  simp only [wps]
  refine ⟨fun h => by omega, fun _ => ?_⟩
  refine (hins S).mono ?_
  rintro _ S1 ⟨rfl, rfl⟩
  simp only [wps]
  refine wp_round ?_
  simp only [wps]
  exact fun h => by omega
theorem Od.ap {S0 S S' : St} {b k : Nat} {l r : List Ev} (ha : Ap S0 none S (some ⟨b, 0, none⟩) k 26 6 (l.flatMap Ev.cells)) (h : Od S b 26 (some 6) r S') (hl : r.length = l.length) :
    Ap S0 none S' (some ⟨b, 0, none⟩) k 26 6 (r.flatMap Ev.cells) where
  len := Nat.le_trans ha.len h.len
  keep := fun i hi hne => by
    have hb := ha.new rfl
    rw [h.keep i (Nat.lt_of_lt_of_le hi ha.len) (by intro e; subst e; dsimp at hb; omega), ha.keep i hi hne]
  at_ := ha.at_
  size := by rw [evc_len, hl]; have := ha.size; rwa [evc_len] at this
  own := .inr ⟨b, rfl, h.at_⟩
  was := .inl rfl
theorem of_w {S : St} {p : Option Addr} {n c : Nat} {l : List Ev} {it tr wi : Int} (h : Ar S p n 6 Ev.cells l) (hn : n ≤ 900) :
    WP (g_script_Of [.slice p n c, vI it, vI tr, vI wi]) S fun v S' => ∃ a, v = vT [.slice a (ofS l it tr wi).length (ofS l it tr wi).length, vI 0] ∧ Ap S none S' a (ofS l it tr wi).length 26 6 ((ofS l it tr wi).flatMap Ev.cells) := by
  have hl := h.1
  rw [g_script_Of_eq]
  simp only [wps, chk10_w.wp, if_neg (show ¬ 1024 < n by omega)]
  refine wp_loop (fun st S' m => ∃ (j : Nat) (a : Option Addr) (k : Nat), st = [.slice a k k, vI j] ∧ j ≤ n ∧ m = n - j ∧ Ap S none S' a k 26 6 (((l.take j).filter (ownB it tr wi)).flatMap Ev.cells)) ?_ n _ _
    ⟨0, none, 0, rfl, by omega, by omega, Ap.nil⟩
  rintro st S' m ⟨j, a, k, rfl, hj, rfl, ha⟩
  have hcnt := ha.cnt (fun _ => rfl) (by decide)
  have hcl : ((l.take j).filter (ownB it tr wi)).length ≤ n := Nat.le_trans (List.length_filter_le _ _) (by rw [List.length_take]; omega)
  simp only [wps]
  refine ⟨fun h3 => ⟨h3, ?_⟩, fun h3 => ?_⟩
  · have hj' : j < l.length := by omega
    obtain ⟨x, rfl, d0, d1, d2, d3, d4, d5⟩ := (h.mono ha.pre).getEv hj'
    have et : (l.take (j + 1)).filter (ownB it tr wi) = (l.take j).filter (ownB it tr wi) ++ (if ownB it tr wi l[j] = true then [l[j]] else []) := by
      rw [List.take_add_one, List.getElem?_eq_getElem hj', List.filter_append]
      congr 1
      by_cases hf : ownB it tr wi l[j] = true <;> simp [hf]
    simp only [wps, d0, d1, d2, d3, d4, d5]
    rw [wI_ (n := (j : Int) + 1) (by omega) (by omega)]
    have hp2 := List.prefix_append S' [AObj.cells [vI l[j].it, vI l[j].tr, vI l[j].wi, vI l[j].ti, vI l[j].ad, vU l[j].ma] 26 none]
    have hb := get_new (S := S') (o := AObj.cells [vI l[j].it, vI l[j].tr, vI l[j].wi, vI l[j].ti, vI l[j].ad, vU l[j].ma] 26 none)
    have skip : ownB it tr wi l[j] = false → ∃ n' < n - j, ∃ (j' : Nat) (a' : Option Addr) (k' : Nat), [Value.slice a k k, vI ((j : Int) + 1)] = [Value.slice a' k' k', vI j'] ∧ j' ≤ n ∧ n' = n - j' ∧
        Ap S none (S' ++ [AObj.cells [vI l[j].it, vI l[j].tr, vI l[j].wi, vI l[j].ti, vI l[j].ad, vU l[j].ma] 26 none]) a' k' 26 6 (((l.take j').filter (ownB it tr wi)).flatMap Ev.cells) := by
      intro hf
      refine ⟨n - (j + 1), by omega, j + 1, _, _, rfl, by omega, rfl, ?_⟩
      rw [et, if_neg (by simp [hf]), List.append_nil]
      exact ha.more hp2
    unfold k_script_Of_1
    simp only [wps, cell_blk hb]
    refine ⟨fun e1 => ⟨fun e2 => ⟨fun e3 => ?_, fun e3 => skip ?_⟩, fun e2 => skip ?_⟩, fun e1 => skip ?_⟩
    · refine wp_push (ha.more hp2) rfl (by omega) (by omega) rfl ?_
      intro b' S3 h6
      simp only [wps]
      refine ⟨n - (j + 1), by omega, j + 1, _, _, rfl, by omega, rfl, ?_⟩
      rw [et, if_pos (by unfold ownB; simp [e1, e2, e3]), List.flatMap_append]
      exact h6
    · unfold ownB; simp [e3]
    · unfold ownB; simp [e2]
    · unfold ownB; simp [e1]
  · rw [List.take_of_length_le (by omega)] at ha hcnt hcl
    have hst := sortS_stab (l.filter (ownB it tr wi))
    have hlen := hst.len
    have hout : ofS l it tr wi = sortS (l.filter (ownB it tr wi)) := rfl
    have hk : k = (ofS l it tr wi).length := by rw [hout, hlen, hcnt]
    rw [g_slices_SortStableFunc_api_Event_api_Event_eq]
    rcases ha.own with ⟨rfl, h0⟩ | ⟨b, rfl, hb⟩
    · have hnil : l.filter (ownB it tr wi) = [] := List.eq_nil_of_length_eq_zero (by omega)
      rw [h0] at ha ⊢
      simp only [wps]
      refine stableNil_w.mono ?_
      rintro _ S2 ⟨rfl, rfl⟩
      simp only [wps]
      have : ofS l it tr wi = [] := by rw [hout, hnil]; rfl
      rw [this]
      exact ⟨none, rfl, by rw [hnil] at ha; exact ha⟩
    · simp only [wps]
      refine (stable_w (S0 := S') (l := l.filter (ownB it tr wi)) cmp_ok1 cmp_ok2 hcnt.symm (by omega) (Od.refl hb)).mono ?_
      rintro _ S2 ⟨rfl, w, h3, h4⟩
      simp only [wps]
      have hw : w = ofS l it tr wi := h3.unique hst
      subst hw
      refine ⟨some ⟨b, 0, none⟩, by rw [← hk], ?_⟩
      rw [← hk]
      exact Od.ap ha h4 (by rw [hout, hlen])
end Go.AM
set_option linter.unusedVariables false
set_option linter.unusedSimpArgs false
namespace Go.AM
open Go Go.Proofs.Ytcilfgedcnehfaa
end Go.AM
set_option linter.unusedVariables false
set_option linter.unusedSimpArgs false
namespace Go.AM
open Go Go.Proofs.Ytcilfgedcnehfaa
end Go.AM
set_option linter.unusedVariables false
set_option linter.unusedSimpArgs false
namespace Go.AM
open Go Go.Proofs.Ytcilfgedcnehfaa
def ev1 (w : Int) : Ev := ⟨0, 0, w, 0, 0, 0⟩
theorem live10_w {S : St} : Sp (g_l10_live []) S fun v _ => v = vB true := by
  unfold Sp
  rw [g_l10_live_eq]
  simp only [wps]
  have hp : S <+: S ++ [AObj.cells ([ev1 3, ev1 4].flatMap Ev.cells) 26 none] := List.prefix_append _ _
  have h1 := sparse_w (c := 2) (ar_lit [ev1 3, ev1 4] (get_new (S := S) (o := AObj.cells ([ev1 3, ev1 4].flatMap Ev.cells) 26 none)) rfl rfl) (by simp)
  have hr : ∀ w : Int, 0 ≤ w → w < 100 → ∀ x ∈ [ev1 3, ev1 w], i64r x.wi := fun w h1 h2 x hx => by
    rcases List.mem_cons.1 hx with rfl | hx
    · exact ⟨by decide, by decide⟩
    · rw [List.mem_singleton.1 hx]; exact ⟨by show _ ≤ w; omega, by show w ≤ _; omega⟩
  have e1 : sparseB [ev1 3, ev1 4] = false := by
    refine Bool.eq_false_iff.2 fun h => ?_
    have := (List.pairwise_cons.1 ((sparse_iff _ (hr 4 (by omega) (by omega))).1 h)).1 (ev1 4) (by simp) rfl
    rcases this with h | h
    · exact absurd h (by decide)
    · exact absurd h (by decide)
  have e2 : sparseB [ev1 3, ev1 5] = true := by
    refine (sparse_iff _ (hr 5 (by omega) (by omega))).2 (List.pairwise_cons.2 ⟨fun y hy => ?_, List.pairwise_singleton _ _⟩)
    rw [List.mem_singleton.1 hy]
    exact fun _ => .inl (by decide)
  rw [e1] at h1
  refine (Gv.wp h1 _).mpr ?_
  simp only [wps]
  have h2 := sparse_w (c := 2) (ar_lit [ev1 3, ev1 5] (get_new (S := S ++ [AObj.cells ([ev1 3, ev1 4].flatMap Ev.cells) 26 none]) (o := AObj.cells ([ev1 3, ev1 5].flatMap Ev.cells) 26 none)) rfl rfl) (by simp)
  rw [e2] at h2
  refine (Gv.wp h2 _).mpr ?_
  simp only [wps]
  exact pre_add hp _
theorem Stab.cnt {l r : List Ev} (h : Stab Ev.ti l r) (y : Ev) : (r.filter fun z => decide (z = y)).length = (l.filter fun z => decide (z = y)).length := by
  have key : ∀ m : List Ev, m.filter (fun z => decide (z = y)) = (at_key Ev.ti y.ti m).filter (fun z => decide (z = y)) := fun m => by
    unfold at_key
    rw [List.filter_filter]
    congr 1
    funext z
    by_cases hz : z = y <;> simp [hz]
  rw [key r, h.same, ← key l]
end Go.AM
set_option linter.unusedVariables false
set_option linter.unusedSimpArgs false
namespace Go.AM
open Go Go.Proofs.Ytcilfgedcnehfaa
theorem sparse_full {S : St} {p : Option Addr} {n c : Nat} {l : List Ev} (h : Ar S p n 6 Ev.cells l) (hn : n ≤ 2000) : Gv (g_script_Sparse [.slice p n c]) S (vT [vB (decide (l.length ≤ 1024) && sparseB l), vI (if 1024 < l.length then 1 else 0)]) := by
  have hl := h.1
  by_cases h1 : 1024 < n
  · rw [if_pos (by omega)]
    have : decide (l.length ≤ 1024) = false := by simp; omega
    rw [this]
    exact sparse_big_w h h1 hn
  · rw [if_neg (by omega)]
    have : decide (l.length ≤ 1024) = true := by simp; omega
    rw [this]
    exact sparse_w h (by omega)
end Go.AM
set_option linter.unusedVariables false
set_option linter.unusedSimpArgs false
namespace Go.AM
open Go Go.Proofs.Ytcilfgedcnehfaa
def otherL (l : List Ev) (k : Nat) : List Ev := (l.take (k + 1)).reverse ++ (l.drop (k + 1)).reverse
theorem other_perm (l : List Ev) (k : Nat) : (otherL l k).Perm l := by
  unfold otherL
  have h1 := ((l.take (k + 1)).reverse_perm).append ((l.drop (k + 1)).reverse_perm)
  rwa [List.take_append_drop] at h1
theorem other_get {l : List Ev} {k i : Nat} (hk : k < l.length) (hi : i < l.length) : (otherL l k)[i]? = some (l[(k + l.length - i) % l.length]'(Nat.mod_lt _ (by omega))) := by
  unfold otherL
  have hl1 : (l.take (k + 1)).reverse.length = k + 1 := by simp; omega
  by_cases h : i < k + 1
  · have e : (k + l.length - i) % l.length = k - i := by rw [show k + l.length - i = (k - i) + l.length by omega, Nat.add_mod_right, Nat.mod_eq_of_lt (by omega)]
    rw [List.getElem?_append_left (by omega), List.getElem?_reverse (by simp; omega)]
    simp only [List.length_take, e]
    rw [List.getElem?_take, if_pos (by omega), show min (k + 1) l.length - 1 - i = k - i by omega, List.getElem?_eq_getElem (by omega)]
  · have e : (k + l.length - i) % l.length = k + l.length - i := Nat.mod_eq_of_lt (by omega)
    rw [List.getElem?_append_right (by omega), List.getElem?_reverse (by simp; omega)]
    simp only [List.length_drop, hl1, e]
    rw [List.getElem?_drop, show k + 1 + (l.length - (k + 1) - 1 - (i - (k + 1))) = k + l.length - i by omega, List.getElem?_eq_getElem (by omega)]
theorem strike_perm {l m : List Ev} (h : l.Perm m) : ∀ ws, wsOk ws → (∀ x ∈ l, Go.Proofs.Ytcilfgedcnehfaa.u64r x.ma) → strike l ws = strike m ws := by
  induction h with
  | nil => intro ws _ _; rfl
  | cons x _ ih => intro ws h1 h2; exact ih _ (hit_ok h1 (h2 x (by simp))) (fun y hy => h2 y (by simp [hy]))
  | swap x y l =>
    intro ws h1 h2
    show strike l (hit (hit ws y) x) = strike l (hit (hit ws x) y)
    rw [hit_comm h1 (h2 y (by simp)) (h2 x (by simp))]
  | trans p1 p2 ih1 ih2 => intro ws h1 h2; rw [ih1 ws h1 h2, ih2 ws h1 (fun x hx => h2 x (p1.mem_iff.2 hx))]
theorem quiet_perm {l m : List Ev} (h : l.Perm m) (n : Int) : quietB l n = quietB m n := by
  unfold quietB
  rw [Bool.eq_iff_iff, List.all_eq_true, List.all_eq_true]
  exact ⟨fun h1 x hx => h1 x (h.mem_iff.2 hx), fun h1 x hx => h1 x (h.mem_iff.1 hx)⟩
theorem sparse_perm {l m : List Ev} (h : l.Perm m) (hr : ∀ x ∈ l, i64r x.wi) : sparseB l = sparseB m := by
  rw [Bool.eq_iff_iff, sparse_iff l hr, sparse_iff m (fun x hx => hr x (h.mem_iff.2 hx))]
  exact h.pairwise_iff (fun h => apart_symm h)
theorem sorted_same : ∀ {a b : List Int}, a.Perm b → a.Pairwise (· ≤ ·) → b.Pairwise (· ≤ ·) → a = b
  | [], b, h, _, _ => (List.nil_perm.1 h).symm
  | x :: a, [], h, _, _ => absurd h.length_eq (by simp)
  | x :: a, y :: b, h, ha, hb => by
    obtain ⟨h1, h2⟩ := List.pairwise_cons.1 ha
    obtain ⟨h3, h4⟩ := List.pairwise_cons.1 hb
    have hxy : x = y := by
      have m1 : x ∈ y :: b := h.mem_iff.1 (by simp)
      have m2 : y ∈ x :: a := h.mem_iff.2 (by simp)
      rcases List.mem_cons.1 m1 with e | e
      · exact e
      rcases List.mem_cons.1 m2 with e' | e'
      · exact e'.symm
      have := h1 y e'
      have := h3 x e
      omega
    subst hxy
    rw [sorted_same ((List.perm_cons x).1 h) h2 h4]
theorem ins1_perm (out : List Ev) (x : Ev) (h : out.Pairwise fun a b => a.ti ≤ b.ti) : (ins1 out x).Perm (x :: out) := by
  have e := split_at x h
  unfold ins1
  conv => rhs; rw [e]
  exact List.perm_middle
theorem foldl_perm : ∀ (l l0 out : List Ev), Stab Ev.ti l0 out → (l.foldl ins1 out).Perm (out ++ l)
  | [], l0, out, h => by simp
  | x :: l, l0, out, h => by
    have h1 := foldl_perm l (l0 ++ [x]) (ins1 out x) (ins1_stab h)
    refine h1.trans ?_
    have h2 := (ins1_perm out x h.ord).append_right l
    refine h2.trans ?_
    exact (List.perm_middle (a := x) (l₁ := out) (l₂ := l)).symm
theorem sortS_perm (l : List Ev) : (sortS l).Perm l := by
  have := foldl_perm l [] [] (Stab.self .nil)
  simpa [sortS] using this
theorem of_ticks {l m : List Ev} (h : l.Perm m) (it tr wi : Int) : (ofS l it tr wi).map Ev.ti = (ofS m it tr wi).map Ev.ti := by
  have hp : (ofS l it tr wi).Perm (ofS m it tr wi) := (sortS_perm _).trans ((h.filter _).trans (sortS_perm _).symm)
  refine sorted_same (hp.map _) ?_ ?_
  · rw [List.pairwise_map]; exact (sortS_stab _).ord
  · rw [List.pairwise_map]; exact (sortS_stab _).ord
set_option maxHeartbeats 1000000 in
theorem order1_w {S0 S : St} {a1 a2 a3 a4 : Option Addr} {n1 n2 c1 c2 c3 c4 n : Nat} {w1 w2 : List Int} {o1 o2 : List Ev} {b b1 b2 b3 : Bool} (h0 : S0 <+: S) (h1 : Ar S a1 n1 1 eU w1) (h2 : Ar S a2 n2 1 eU w2) (h3 : Ar S a3 n 6 Ev.cells o1) (h4 : Ar S a4 n 6 Ev.cells o2)
    (hw : w1 = w2) (hb : b = b1) (hb2 : b2 = b3) (ho : o1.map Ev.ti = o2.map Ev.ti) (hn : n ≤ 2000) (hn1 : n1 ≤ 20000) :
    WP (k_l10_ScriptOrder_1 ⟨a1, n1, c1⟩ ⟨a2, n2, c2⟩ b b1 b2 b3 ⟨a3, n, c3⟩ ⟨a4, n, c4⟩ (0, [])) S fun q S' => q = (0, [vB true]) ∧ S0 <+: S' := by
  subst hw hb hb2
  have e3 := h3.1
  have e4 := h4.1
  unfold k_l10_ScriptOrder_1
  simp only [wps]
  refine wp_loop (fun st S' m => ∃ j : Nat, st = [vI j] ∧ j ≤ n ∧ m = n - j ∧ S' = S) ?_ n _ _ ⟨0, rfl, by omega, rfl, rfl⟩
  rintro st S' m ⟨j, rfl, hj, rfl, rfl⟩
  simp only [wps]
  refine ⟨fun h5 => ?_, fun h5 => ?_⟩
  · have hj1 : j < o1.length := by omega
    have hj2 : j < o2.length := by omega
    obtain ⟨x, rfl, _, _, _, f1, _, _⟩ := h3.getEv hj1
    obtain ⟨y, rfl, _, _, _, f2, _, _⟩ := h4.getEv hj2
    have et : o1[j].ti = o2[j].ti := by
      have := congrArg (fun l => l[j]?) ho
      simpa [hj1, hj2] using this
    simp only [wps, f1, f2, et]
    rw [wI_ (n := (j : Int) + 1) (by omega) (by omega)]
    exact ⟨h5, h5, n - (j + 1), by omega, j + 1, rfl, by omega, rfl⟩
  · have s := r01same_w (c := c1) (d := c2) h1 h2 (by omega)
    simp only [decide_true] at s
    simp only [wps, s.wp, beq_self_eq_true]
    exact h0
theorem order_get {l : List Ev} {k i : Nat} (hk : k < l.length) (hi : i < l.length) (h : i < (otherL l k).length) : (otherL l k)[i] = l[(k + l.length - i) % l.length]'(Nat.mod_lt _ (by omega)) := by
  have := other_get hk hi
  rw [List.getElem?_eq_getElem h] at this
  exact Option.some.inj this
set_option maxHeartbeats 2000000 in
theorem order_law {S : St} {p r : Option Addr} {n c m d : Nat} {l : List Ev} {ws : List Int} {it tr wi tn : Int} (h : Ar S p n 6 Ev.cells l) (hr : ∀ x ∈ l, i64r x.wi) (hu : ∀ x ∈ l, Go.Proofs.Ytcilfgedcnehfaa.u64r x.ma) (k : Ar S r m 1 eU ws) (hws : wsOk ws) (ht : 0 ≤ tn ∧ tn < 256) :
    Sp (g_l10_ScriptOrder [.slice p n c, .slice r m d, .int .u8 tn, vI it, vI tr, vI wi]) S fun v _ => v = vB true := by
  have hl := h.1
  have hmw := k.1
  unfold Sp
  rw [g_l10_ScriptOrder_eq]
  simp only [wps]
  refine live10_w.use ?_
  rintro _ S1 h1 rfl
  simp only [wps]
  refine And.intro (fun _ => h1) (fun hn => And.intro (fun _ => h1) (fun hm => And.intro (fun _ => h1) (fun hn0 => ⟨hn0, ?_⟩)))
  have hn60 : n ≤ 60 := by omega
  have hm60 : m ≤ 60 := by omega
  have hnp : 0 < n := by omega
  have hwt : wI tn = tn := wI_ (by omega) (by omega)
  have htm : tn.tmod (n : Int) = ((tn.toNat % n : Nat) : Int) := by
    obtain ⟨q, rfl⟩ := Int.eq_ofNat_of_zero_le ht.1
    rw [Int.tmod_eq_emod_of_nonneg (by omega)]; simp
  have hK : tn.toNat % n < n := Nat.mod_lt _ hnp
  generalize hKK : tn.toNat % n = K at htm hK
  have hkl : K < l.length := by omega
  have hop := other_perm l K
  have hol : (otherL l K).length = n := by rw [hop.length_eq, hl]
  -- the other list
  refine wp_loop (fun st S' t => ∃ (j : Nat) (a : Option Addr) (q : Nat), st = [.slice a q q, vI j] ∧ j ≤ n ∧ t = n - j ∧ Ap S1 none S' a q 26 6 (((otherL l K).take j).flatMap Ev.cells)) ?_ n _ _
    ⟨0, none, 0, rfl, by omega, by omega, Ap.nil⟩
  rintro st S2 t ⟨j, a, q, rfl, hj, rfl, ha⟩
  have hq := ha.cnt (fun _ => rfl) (by decide)
  rw [List.length_take] at hq
  have hS2 := h1.trans ha.pre
  simp only [wps, hwt, htm]
  refine ⟨fun h3 => ⟨hn0, ?_⟩, fun h3 => ?_⟩
  · have hj' : j < l.length := by omega
    have e1 : wI (wI ((K : Int) + (n : Int)) - (j : Int)) = ((K + n - j : Nat) : Int) := by rw [wI_ (n := (K : Int) + (n : Int)) (by omega) (by omega), wI_ (by omega) (by omega)]; omega
    have e2 : (((K + n - j : Nat) : Int)).tmod (n : Int) = (((K + n - j) % n : Nat) : Int) := by
      rw [Int.tmod_eq_emod_of_nonneg (by omega)]; simp
    have hmod : (K + n - j) % n < l.length := by rw [← hl]; exact Nat.mod_lt _ hnp
    have g1 : (((K + n - j) % n : Nat) : Int) < (n : Int) := by omega
    obtain ⟨x, rfl, d0, d1, d2, d3, d4, d5⟩ := (h.mono hS2).getEv hmod
    have eg : (otherL l K)[j]'(by omega) = l[(K + n - j) % n] := by
      rw [order_get hkl hj' (by omega)]
      congr 2 <;> rw [hl]
    rw [← eg] at d0 d1 d2 d3 d4 d5
    simp only [wps, e1, e2, g1, d0, d1, d2, d3, d4, d5]
    refine wp_push ha rfl (by omega) (by omega) rfl ?_
    intro b3 S3 ha3
    simp only [wps]
    rw [wI_ (n := (j : Int) + 1) (by omega) (by omega)]
    refine ⟨n - (j + 1), by omega, j + 1, _, _, rfl, by omega, rfl, ?_⟩
    rw [take_snoc (show j < (otherL l K).length by omega), List.flatMap_append, List.flatMap_singleton]
    exact ha3
  · rw [List.take_of_length_le (by omega)] at ha
    have hqn : q = n := by omega
    subst hqn
    have hoa : Ar S2 a q 6 Ev.cells (otherL l K) := by
      have := ha.ar (fun _ => rfl) (by decide)
      exact this
    refine (strike_w (c := c) (d := d) (h.mono hS2) (k.mono hS2)).mono ?_
    rintro _ S3 ⟨a3, rfl, ho3⟩
    have h23 := ho3.1
    simp only [wps]
    refine (strike_w (c := q) (d := d) (hoa.mono h23) (k.mono (hS2.trans h23))).mono ?_
    rintro _ S4 ⟨a4, rfl, ho4⟩
    have h24 := h23.trans ho4.1
    have hr' : ∀ x ∈ otherL l K, i64r x.wi := fun x hx => hr x (hop.mem_iff.1 hx)
    simp only [wps, (sparse_full (c := c) (h.mono (hS2.trans h24)) (by omega)).wp, (sparse_full (c := q) (hoa.mono h24) (by omega)).wp]
    refine (quiet_w (c := c) (h.mono (hS2.trans h24))).use ?_
    rintro _ S5 h45 rfl
    have h25 := h24.trans h45
    simp only [wps]
    refine (quiet_w (c := q) (hoa.mono h25)).use ?_
    rintro _ S6 h56 rfl
    have h26 := h25.trans h56
    simp only [wps]
    refine (of_w (c := c) (h.mono (hS2.trans h26)) (by omega)).mono ?_
    rintro _ S7 ⟨a7, rfl, ho7⟩
    have h27 := h26.trans ho7.pre
    simp only [wps]
    refine (of_w (c := q) (hoa.mono h27) (by omega)).mono ?_
    rintro _ S8 ⟨a8, rfl, ho8⟩
    have h28 := h27.trans ho8.pre
    have hs1 : strikeV l ws = (strike l ws, 0) := by unfold strikeV; rw [if_neg (by omega), if_neg (by omega)]
    have hs2 : strikeV (otherL l K) ws = (strike (otherL l K) ws, 0) := by unfold strikeV; rw [if_neg (by omega), if_neg (by omega)]
    have hq1 : quietV l (m : Int) = (quietB l m, 0) := by unfold quietV; rw [if_neg (by omega)]
    have hq2 : quietV (otherL l K) (m : Int) = (quietB (otherL l K) m, 0) := by unfold quietV; rw [if_neg (by omega)]
    rw [hs1] at ho3
    rw [hs2] at ho4
    have htk := of_ticks hop.symm it tr wi
    have hlen : (ofS (otherL l K) it tr wi).length = (ofS l it tr wi).length := by
      have := congrArg List.length htk
      simpa using this.symm
    have hle : (ofS l it tr wi).length ≤ 60 := by
      have : (ofS l it tr wi).length = (l.filter (ownB it tr wi)).length := (sortS_stab _).len
      rw [this]
      exact Nat.le_trans (List.length_filter_le _ _) (by omega)
    simp only [wps, hs1, hs2, hq1, hq2, if_neg (show ¬ 1024 < l.length by omega), if_neg (show ¬ 1024 < (otherL l K).length by omega)]
    rw [hlen] at ho8 ⊢
    have a3r := (ho3.more ((h45.trans h56).trans (ho7.pre.trans ho8.pre) |> fun x => ho4.1.trans x)).ar
    have a4r := (ho4.more ((h45.trans h56).trans (ho7.pre.trans ho8.pre))).ar
    have a7r := (ho7.ar (fun _ => rfl) (by decide)).mono ho8.pre
    have a8r := ho8.ar (fun _ => rfl) (by decide)
    have hsl : (strike l ws).length = m := by rw [strike_len, hmw]
    have hsl2 : (strike (otherL l K) ws).length = m := by rw [strike_len, hmw]
    rw [hsl] at a3r ⊢
    rw [hsl2] at a4r ⊢
    have hd1 : decide (l.length ≤ 1024) = true := by simp; omega
    have hd2 : decide ((otherL l K).length ≤ 1024) = true := by simp; omega
    have hw1 := order1_w (S0 := S) (c1 := m) (c2 := m) (c3 := (ofS l it tr wi).length) (c4 := (ofS l it tr wi).length) (b := decide (l.length ≤ 1024) && sparseB l) (b1 := decide ((otherL l K).length ≤ 1024) && sparseB (otherL l K)) (b2 := quietB l m) (b3 := quietB (otherL l K) m)
      (hS2.trans h28) a3r a4r a7r a8r (strike_perm hop.symm ws hws hu) (by rw [hd1, hd2, sparse_perm hop.symm hr]) (quiet_perm hop.symm _) htk (by omega) (by omega)
    refine hw1.mono ?_
    rintro _ S9 ⟨rfl, h9⟩
    simp only [wps]
    exact h9
end Go.AM
