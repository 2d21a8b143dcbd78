/-
  Part of the proof of a law: what the functions compute. Conditions: none.
-/
import Derived.Test.YtcilfgedcnehfaaGreatDoorVF3
import Derived.Test.YtcilfgedcnehfaaGreatDoorVX1
import Derived.Test.YtcilfgedcnehfaaGreatDoorVP1
set_option linter.unusedVariables false
set_option linter.unusedSectionVars false
set_option linter.unusedSimpArgs false
set_option linter.deprecated false
set_option linter.unusedVariables false
set_option linter.unusedSimpArgs false
namespace Go.AM
open Go Go.Proofs.YtcilfgedcnehfaaGreatDoor
theorem chk10_w {S : St} {a : Option Addr} {n c : Nat} : Gv (g_script_Check [.slice a n c]) S (vI (if 1024 < n then 1 else 0)) := by
  refine .of ?_
  rw [g_script_Check_eq]
  simp only [wps]
  refine ⟨fun h => by rw [if_pos (by omega)], fun h => by rw [if_neg (by omega)]⟩
theorem sparse_w {S : St} {p : Option Addr} {n c : Nat} {l : List Ev} (h : Ar S p n 6 Ev.cells l) (hn : n ≤ 1024) : Gv (g_script_Sparse [.slice p n c]) S (vT [vB (sparseB l), vI 0]) := by
  refine .of ?_
  unfold g_script_Sparse sparG readV
  simp only [wps]
  refine wp_rdA h (fun _ => rfl) ?_
  have : sparR n (l.flatMap Ev.cells) = some [.bool (sparseB l), .int .i64 0] := by
    unfold sparR
    simp only [evOf_evs, if_pos hn]
  rw [this]
  simp only [wps]
theorem r10same_w {S : St} {p r : Option Addr} {n m c d : Nat} {x y : List Ev} (h : Ar S p n 6 Ev.cells x) (k : Ar S r m 6 Ev.cells y) (hn : n ≤ 140737488355328) :
    Gv (g_r10_Same [.slice p n c, .slice r m d]) S (vB (decide (x = y))) := by
  have h1 := h.1
  have k1 := k.1
  refine .of ?_
  rw [g_r10_Same_eq]
  simp only [wps]
  refine ⟨fun e => ?_, fun e => ?_⟩
  · have : x ≠ y := fun q => e (by rw [h1, k1, q])
    simp [this]
  refine wp_loop (fun st S' t => ∃ j : Nat, st = [vI j] ∧ j ≤ n ∧ t = n - j ∧ S' = S ∧ x.take j = y.take j) ?_ n _ _ ⟨0, rfl, by omega, by omega, rfl, rfl⟩
  rintro st S' t ⟨j, rfl, hj, rfl, rfl, ht⟩
  simp only [wps]
  refine ⟨fun h3 => ⟨h3, ?_⟩, fun h3 => ?_⟩
  · have hx : j < x.length := by omega
    have hy : j < y.length := by omega
    obtain ⟨a, rfl, c0, c1, c2, c3, c4, c5⟩ := h.getEv hx
    obtain ⟨b, rfl, d0, d1, d2, d3, d4, d5⟩ := k.getEv hy
    simp only [wps, c0, c1, c2, c3, c4, c5, d0, d1, d2, d3, d4, d5]
    have e2 : ∀ a b c d e f g h i j k l : Value, eqL (ar [a, b, c, d, e, f]).toList (ar [g, h, i, j, k, l]).toList = eqL [a, b, c, d, e, f] [g, h, i, j, k, l] := fun _ _ _ _ _ _ _ _ _ _ _ _ => rfl
    rw [e2, eqEv, wI_ (n := (j : Int) + 1) (by omega) (by omega)]
    simp only [wps]
    refine ⟨by omega, fun e3 => ?_, fun e3 => ?_⟩
    · have : x ≠ y := fun q => e3 (by subst q; rfl)
      simp [this]
    · exact ⟨n - (j + 1), by omega, j + 1, rfl, by omega, rfl, take_eq_step ht hx hy e3⟩
  · rw [List.take_of_length_le (by omega), List.take_of_length_le (by omega)] at ht
    simp [ht]
theorem thin_w {S : St} {p : Option Addr} {n c : Nat} {l : List Ev} (h : Ar S p n 6 Ev.cells l) (hn : n ≤ 1024) :
    Sp (g_sparse_Thin [.slice p n c]) S fun v S' => ∃ a, v = vT [.slice a (thin l).length (thin l).length, vI 0] ∧ Ar S' a (thin l).length 6 Ev.cells (thin l) := by
  unfold Sp g_sparse_Thin thinG readR
  simp only [wps]
  refine wp_rdA h (fun _ => rfl) ?_
  have : thinR n (l.flatMap Ev.cells) = some ((thin l).flatMap Ev.cells, (thin l).length, .int .i64 0) := by
    unfold thinR
    simp only [evOf_evs, if_pos hn]
    rfl
  rw [this]
  rcases he : (thin l).length with _ | k
  · have : thin l = [] := List.eq_nil_of_length_eq_zero he
    dsimp only
    simp only [wps]
    exact ⟨List.prefix_rfl, none, rfl, by rw [this]; exact .nil⟩
  · dsimp only
    refine ⟨_, _, rfl, List.prefix_append _ _, _, rfl, ?_⟩
    rw [← he]
    exact Ar.blk get_new (fun _ _ => rfl) rfl
theorem ar_lit {S : St} {b : Nat} {t : TypeId} {g : Option Nat} (l : List Ev) {n : Nat} {cs : List Value} (hb : S[b]? = some (.cells cs t g)) (hn : n = l.length) (hc : cs = l.flatMap Ev.cells) : Ar S (some ⟨b, 0, none⟩) n 6 Ev.cells l := by
  subst hn
  exact Ar.blk hb (fun _ _ => rfl) hc
theorem thin_big_w {S : St} {p : Option Addr} {n c : Nat} {l : List Ev} (h : Ar S p n 6 Ev.cells l) (hn : 1024 < n) (hn2 : n ≤ 2000) : Gv (g_sparse_Thin [.slice p n c]) S (vT [.slice none 0 0, vI 1]) := by
  refine .of ?_
  unfold g_sparse_Thin thinG readR
  simp only [wps]
  refine wp_rdA h (fun _ => rfl) ?_
  have : thinR n (l.flatMap Ev.cells) = some ([], 0, .int .i64 1) := by
    unfold thinR
    simp only [evOf_evs, if_neg (show ¬ n ≤ 1024 by omega), if_pos hn2]
  rw [this]
  dsimp only
  simp only [wps]
end Go.AM
set_option linter.unusedVariables false
set_option linter.unusedSimpArgs false
namespace Go.AM
open Go Go.Proofs.YtcilfgedcnehfaaGreatDoor
theorem r10nothing_w {S : St} {x : Ev} {n : Int} : Sp (g_r10_Nothing [x.val, vI n]) S fun v _ => v = vB (x.nothing n) := by
  unfold Sp
  rw [g_r10_Nothing_eq]
  simp only [wps]
  have hp := List.prefix_append S [AObj.cells [vI x.it, vI x.tr, vI x.wi, vI x.ti, vI x.ad, vU x.ma] 46 none]
  unfold Ev.nothing
  refine ⟨fun h1 => ⟨hp, by simp [h1]⟩, fun h1 => ⟨fun h2 => ⟨hp, by simp [h2]⟩, fun h2 => ⟨hp, ?_⟩⟩⟩
  have : (x.ma == 0) = false := by simpa using h1
  simp only [this, h2, decide_false, Bool.false_or]
theorem r10chk_w {S : St} {a : Option Addr} {n c : Nat} : Gv (g_r10_Check [.slice a n c]) S (vI (if 1024 < n then 1 else 0)) := by
  refine .of ?_
  rw [g_r10_Check_eq]
  simp only [wps]
  refine ⟨fun h => by rw [if_pos (by omega)], fun h => by rw [if_neg (by omega)]⟩
end Go.AM
set_option linter.unusedVariables false
set_option linter.unusedSimpArgs false
namespace Go.AM
open Go Go.Proofs.YtcilfgedcnehfaaGreatDoor
def OwnW (S S' : St) (a : Option Addr) (ws : List Int) : Prop := S <+: S' ∧ (ws = [] ∨ ∃ b t g, a = some ⟨b, 0, none⟩ ∧ S.length ≤ b ∧ S'[b]? = some (.cells (ws.flatMap eU) t g))
theorem OwnW.ar {S S' : St} {a : Option Addr} {ws : List Int} (h : OwnW S S' a ws) : Ar S' a ws.length 1 eU ws := by
  rcases h.2 with rfl | ⟨b, t, g, rfl, _, h1⟩
  · exact .nil
  · exact Ar.blk h1 (fun _ _ => rfl) rfl
theorem OwnW.more {S S' S2 : St} {a : Option Addr} {ws : List Int} (h : OwnW S S' a ws) (hs : S' <+: S2) : OwnW S S2 a ws :=
  ⟨h.1.trans hs, h.2.imp id fun ⟨b, t, g, h1, h2, h3⟩ => ⟨b, t, g, h1, h2, pre_get hs h3⟩⟩
theorem OwnW.base {S0 S S' : St} {a : Option Addr} {ws : List Int} (h : OwnW S S' a ws) (hs : S0 <+: S) : OwnW S0 S' a ws :=
  ⟨hs.trans h.1, h.2.imp id fun ⟨b, t, g, h1, h2, h3⟩ => ⟨b, t, g, h1, Nat.le_trans hs.length_le h2, h3⟩⟩
end Go.AM
set_option linter.unusedVariables false
set_option linter.unusedSimpArgs false
namespace Go.AM
open Go Go.Proofs.YtcilfgedcnehfaaGreatDoor
theorem evc_len (l : List Ev) : (l.flatMap Ev.cells).length = l.length * 6 := flat_len (e := Ev.cells) (w := 6) (fun _ => rfl) l
theorem evc_at : ∀ (l : List Ev) (i j : Nat) (hi : i < l.length) (v : Value), l[i].cells[j]? = some v → (l.flatMap Ev.cells)[i * 6 + j]? = some v
  | [], i, j, hi, v, h => by simp at hi
  | x :: l, 0, j, hi, v, h => by
    have hj : j < x.cells.length := by
      rcases Nat.lt_or_ge j x.cells.length with h' | h'
      · exact h'
      · simp at h; rw [List.getElem?_eq_none h'] at h; cases h
    rw [List.flatMap_cons, Nat.zero_mul, Nat.zero_add, List.getElem?_append_left hj]; exact h
  | x :: l, i + 1, j, hi, v, h => by
    have : x.cells.length = 6 := rfl
    rw [List.flatMap_cons, List.getElem?_append_right (by omega), this, show (i + 1) * 6 + j - 6 = i * 6 + j by omega]
    exact evc_at l i j (by simpa using hi) v (by simpa using h)
theorem evc_set : ∀ (l : List Ev) (i : Nat) (x : Ev), i < l.length → splice (l.flatMap Ev.cells) (i * 6) x.cells = (l.set i x).flatMap Ev.cells
  | [], i, x, h => by simp at h
  | y :: l, 0, x, h => by
    rw [List.set_cons_zero, List.flatMap_cons, List.flatMap_cons, Nat.zero_mul]
    unfold splice
    have : x.cells.length = y.cells.length := rfl
    simp [this]
  | y :: l, i + 1, x, h => by
    have ih := evc_set l i x (by simpa using h)
    rw [List.set_cons_succ, List.flatMap_cons, List.flatMap_cons, ← ih]
    have h6 : y.cells.length = 6 := rfl
    unfold splice
    rw [show (i + 1) * 6 = 6 + i * 6 by omega, show 6 = y.cells.length from rfl, List.take_length_add_append, Nat.add_assoc, List.drop_length_add_append]
    simp
structure Od (S : St) (b : Nat) (t : TypeId) (g : Option Nat) (l : List Ev) (S' : St) : Prop where
  len : S.length ≤ S'.length
  keep : ∀ i, i < S.length → i ≠ b → S'[i]? = S[i]?
  at_ : S'[b]? = some (.cells (l.flatMap Ev.cells) t g)
section
variable {S S1 S2 : St} {b : Nat} {t : TypeId} {g : Option Nat} {l l' : List Ev}
theorem Od.refl (h : S[b]? = some (.cells (l.flatMap Ev.cells) t g)) : Od S b t g l S := ⟨Nat.le_refl _, fun _ _ _ => rfl, h⟩
theorem Od.trans (h : Od S b t g l S1) (k : Od S1 b t g l' S2) : Od S b t g l' S2 :=
  ⟨Nat.le_trans h.len k.len, fun i hi hne => by rw [k.keep i (Nat.lt_of_lt_of_le hi h.len) hne, h.keep i hi hne], k.at_⟩
theorem Od.more (h : Od S b t g l S1) (hs : S1 <+: S2) : Od S b t g l S2 :=
  ⟨Nat.le_trans h.len hs.length_le, fun i hi hne => by rw [pre_at hs (Nat.lt_of_lt_of_le hi h.len), h.keep i hi hne], pre_get hs h.at_⟩
theorem Od.ev (h : Od S b t g l S1) {i : Nat} (hi : i < l.length) : S1.cell ⟨b, i * 6, none⟩ = some (vI l[i].it) ∧ S1.cell ⟨b, i * 6 + 1, none⟩ = some (vI l[i].tr) ∧ S1.cell ⟨b, i * 6 + 2, none⟩ = some (vI l[i].wi) ∧
    S1.cell ⟨b, i * 6 + 3, none⟩ = some (vI l[i].ti) ∧ S1.cell ⟨b, i * 6 + 4, none⟩ = some (vI l[i].ad) ∧ S1.cell ⟨b, i * 6 + 5, none⟩ = some (vU l[i].ma) := by
  have k := cell_blk h.at_
  refine ⟨?_, ?_, ?_, ?_, ?_, ?_⟩ <;> rw [k]
  · exact evc_at l i 0 hi _ rfl
  · exact evc_at l i 1 hi _ rfl
  · exact evc_at l i 2 hi _ rfl
  · exact evc_at l i 3 hi _ rfl
  · exact evc_at l i 4 hi _ rfl
  · exact evc_at l i 5 hi _ rfl
theorem Od.put (h : Od S b t g l S1) {i : Nat} (hi : i < l.length) (x : Ev) : Od S b t g (l.set i x) (S1.set b (.cells (splice (l.flatMap Ev.cells) (i * 6) x.cells) t g)) :=
  ⟨by rw [List.length_set]; exact h.len, fun j hj hne => by rw [List.getElem?_set_ne (fun e => hne e.symm), h.keep j hj hne], by rw [List.getElem?_set_self (pre_lt h.at_), evc_set l i x hi]⟩
end
end Go.AM
set_option linter.unusedVariables false
set_option linter.unusedSimpArgs false
namespace Go.AM
open Go Go.Proofs.YtcilfgedcnehfaaGreatDoor
end Go.AM
set_option linter.unusedVariables false
set_option linter.unusedSimpArgs false
namespace Go.AM
open Go Go.Proofs.YtcilfgedcnehfaaGreatDoor
end Go.AM
set_option linter.unusedVariables false
set_option linter.unusedSimpArgs false
namespace Go.AM
open Go Go.Proofs.YtcilfgedcnehfaaGreatDoor
variable {C : FuncId → List Value → M Value} {cmp : Value}
end Go.AM
set_option linter.unusedVariables false
set_option linter.unusedSimpArgs false
namespace Go.AM
open Go Go.Proofs.YtcilfgedcnehfaaGreatDoor
variable {C : FuncId → List Value → M Value} {cmp : Value}
end Go.AM
set_option linter.unusedVariables false
set_option linter.unusedSimpArgs false
namespace Go.AM
open Go Go.Proofs.YtcilfgedcnehfaaGreatDoor
variable {C : FuncId → List Value → M Value} {cmp : Value}
end Go.AM
set_option linter.unusedVariables false
set_option linter.unusedSimpArgs false
namespace Go.AM
open Go Go.Proofs.YtcilfgedcnehfaaGreatDoor
end Go.AM
set_option linter.unusedVariables false
set_option linter.unusedSimpArgs false
namespace Go.AM
open Go Go.Proofs.YtcilfgedcnehfaaGreatDoor
def nearE (x y : Ev) : Bool := decide (x.it = y.it) && decide (x.tr = y.tr) && nearW x.wi y.wi
theorem nearE_iff {x y : Ev} (hx : i64r x.wi) (hy : i64r y.wi) : nearE x y = true ↔ ¬ apart x y := by
  unfold nearE apart evKey
  simp only [Bool.and_eq_true, decide_eq_true_eq, Prod.mk.injEq, near_iff hx hy]
  constructor
  · rintro ⟨⟨h1, h2⟩, h3⟩ h4
    exact h3 (h4 ⟨h1, h2⟩)
  · intro h
    by_cases h1 : x.it = y.it ∧ x.tr = y.tr
    · exact ⟨h1, fun h3 => h fun _ => h3⟩
    · exact absurd (fun h2 => absurd h2 h1) h
theorem r10near_w {S : St} {x y : Ev} : Sp (g_r10_Near [x.val, y.val]) S fun v _ => v = vB (nearE x y) := by
  unfold Sp
  rw [g_r10_Near_eq]
  have hp : S <+: S ++ [AObj.cells [vI x.it, vI x.tr, vI x.wi, vI x.ti, vI x.ad, vU x.ma] 46 none] ++ [AObj.cells [vI y.it, vI y.tr, vI y.wi, vI y.ti, vI y.ad, vU y.ma] 46 none] := pre_add (List.prefix_append _ _) _
  have hb := get_add (t := [AObj.cells [vI y.it, vI y.tr, vI y.wi, vI y.ti, vI y.ad, vU y.ma] 46 none]) (get_new (S := S) (o := AObj.cells [vI x.it, vI x.tr, vI x.wi, vI x.ti, vI x.ad, vU x.ma] 46 none))
  simp only [wps, cell_blk hb]
  unfold nearE
  refine ⟨fun h1 => ⟨hp, by simp [h1]⟩, fun h1 => ⟨fun h2 => ⟨hp, by simp [h2]⟩, fun h2 => ⟨hp, ?_⟩⟩⟩
  have e1 : (if y.wi > x.wi then y.wi else x.wi) = max x.wi y.wi := by by_cases h : y.wi > x.wi <;> simp [h] <;> omega
  have e2 : (if y.wi < x.wi then y.wi else x.wi) = min x.wi y.wi := by by_cases h : y.wi < x.wi <;> simp [h] <;> omega
  simp only [h1, h2, decide_true, Bool.true_and, cond_true, cond_false, e1, e2]
  rfl
set_option maxHeartbeats 1000000 in
theorem r10sparse_w {S : St} {p : Option Addr} {n c : Nat} {l : List Ev} (h : Ar S p n 6 Ev.cells l) (hc : n ≤ c) (hr : ∀ x ∈ l, i64r x.wi) :
    Sp (g_r10_Sparse [.slice p n c]) S fun v _ => v = vT [vB (decide (l.length ≤ 1024) && sparseB l), vI (if 1024 < l.length then 1 else 0)] := by
  have hl := h.1
  unfold Sp
  rw [g_r10_Sparse_eq]
  by_cases hc2 : 1024 < n
  · simp only [wps, r10chk_w.wp, if_pos hc2, if_pos (show 1024 < l.length by omega)]
    refine ⟨fun _ => ⟨List.prefix_rfl, ?_⟩, fun h => absurd h (by decide)⟩
    have : decide (l.length ≤ 1024) = false := by simp; omega
    rw [this]; rfl
  simp only [wps, r10chk_w.wp, if_neg hc2, if_neg (show ¬ 1024 < l.length by omega)]
  have hdec : decide (l.length ≤ 1024) = true := by simp; omega
  rw [hdec, Bool.true_and]
  refine wp_loop (fun st S' m => ∃ j : Nat, st = [vI j] ∧ j ≤ n ∧ m = n - j ∧ S <+: S' ∧ (l.take j).Pairwise apart) ?_ n _ _ ⟨0, rfl, by omega, rfl, List.prefix_rfl, by simp⟩
  rintro st S1 m ⟨j, rfl, hj, rfl, h1, ht⟩
  simp only [wps]
  refine ⟨fun h3 => ⟨h3, ?_⟩, fun h3 => ?_⟩
  · have hj' : j < l.length := by omega
    obtain ⟨ad1, hpp, d0, d1, d2, d3, d4, d5⟩ := (h.mono h1).getEv hj'
    have hp2 := List.prefix_append S1 [AObj.cells [vI l[j].it, vI l[j].tr, vI l[j].wi, vI l[j].ti, vI l[j].ad, vU l[j].ma] 46 none]
    have hb2 := get_new (S := S1) (o := AObj.cells [vI l[j].it, vI l[j].tr, vI l[j].wi, vI l[j].ti, vI l[j].ad, vU l[j].ma] 46 none)
    subst hpp
    simp only [wps, d0, d1, d2, d3, d4, d5]
    have hcut := cut_ar (h.mono (h1.trans hp2)) (fun _ => rfl) (by decide) (lo := 0) (hi := (j : Int)) (rest := true) (by omega) (by omega) (by omega) hc (Q := fun s S' => S' = S1 ++ [AObj.cells [vI l[j].it, vI l[j].tr, vI l[j].wi, vI l[j].ti, vI l[j].ad, vU l[j].ma] 46 none] ∧ s.n = j ∧ Ar S' s.a j 6 Ev.cells (l.take j)) (fun a k hk har => by
      refine ⟨rfl, by simp, ?_⟩
      simpa using har)
    refine hcut.mono ?_
    rintro ⟨sa, sn, sc⟩ _ ⟨rfl, hsn, har⟩
    have hsn : j = sn := hsn.symm
    subst hsn
    simp only [wps]
    have hlt : (l.take j).length = j := by rw [List.length_take]; omega
    refine wp_loop (fun st S' m => ∃ i : Nat, st = [vI i] ∧ i ≤ j ∧ m = j - i ∧ S1 ++ [AObj.cells [vI l[j].it, vI l[j].tr, vI l[j].wi, vI l[j].ti, vI l[j].ad, vU l[j].ma] 46 none] <+: S' ∧ ∀ y ∈ (l.take j).take i, apart y l[j]) ?_ j _ _ ⟨0, rfl, by omega, rfl, List.prefix_rfl, by simp⟩
    rintro st S2 m ⟨i, rfl, hi, rfl, h4, hta⟩
    simp only [wps]
    refine ⟨fun h5 => ⟨h5, ?_⟩, fun h5 => ?_⟩
    · have hi' : i < (l.take j).length := by omega
      have hi2 : i < l.length := by omega
      obtain ⟨ad2, rfl, d0, d1, d2, d3, d4, d5⟩ := (har.mono h4).getEv hi'
      have eg : (l.take j)[i] = l[i] := List.getElem_take
      rw [eg] at d0 d1 d2 d3 d4 d5
      have hp5 := List.prefix_append S2 [AObj.cells [vI l[i].it, vI l[i].tr, vI l[i].wi, vI l[i].ti, vI l[i].ad, vU l[i].ma] 46 none]
      have hb5 := get_new (S := S2) (o := AObj.cells [vI l[i].it, vI l[i].tr, vI l[i].wi, vI l[i].ti, vI l[i].ad, vU l[i].ma] 46 none)
      have hb6 := pre_get (h4.trans hp5) hb2
      simp only [wps, d0, d1, d2, d3, d4, d5, cell_blk hb6, cell_blk hb5]
      refine (r10near_w (x := l[j]) (y := l[i])).use ?_
      rintro _ S3 h6 rfl
      simp only [wps]
      rw [wI_ (n := (i : Int) + 1) (by omega) (by omega)]
      have hri : i64r l[i].wi := hr _ (List.getElem_mem hi2)
      have hrj : i64r l[j].wi := hr _ (List.getElem_mem hj')
      refine ⟨fun hq => ⟨h1.trans (hp2.trans (h4.trans (hp5.trans h6))), ?_⟩, fun hq => ⟨j - (i + 1), by omega, i + 1, rfl, by omega, rfl, h4.trans (hp5.trans h6), ?_⟩⟩
      · have hna := (nearE_iff hrj hri).1 hq
        have : sparseB l = false := by
          refine Bool.eq_false_iff.2 fun hs => hna ?_
          have hp := (sparse_iff l hr).1 hs
          exact apart_symm (List.pairwise_iff_getElem.1 hp i j hi2 hj' (by omega))
        rw [this]
      · intro y hy
        rw [take_snoc hi'] at hy
        rcases List.mem_append.1 hy with hy | hy
        · exact hta y hy
        · rw [List.mem_singleton.1 hy, eg]
          by_cases ha : apart l[i] l[j]
          · exact ha
          · have := (nearE_iff hrj hri).2 (fun h => ha (apart_symm h))
            rw [hq] at this; cases this
    · rw [List.take_of_length_le (by omega)] at hta
      rw [wI_ (n := (j : Int) + 1) (by omega) (by omega)]
      refine ⟨n - (j + 1), by omega, j + 1, rfl, by omega, rfl, h1.trans (hp2.trans h4), ?_⟩
      rw [take_snoc hj']
      exact List.pairwise_append.2 ⟨ht, List.pairwise_singleton _ _, fun y hy z hz => by rw [List.mem_singleton.1 hz]; exact hta y hy⟩
  · rw [List.take_of_length_le (by omega)] at ht
    refine ⟨h1, ?_⟩
    rw [(sparse_iff l hr).2 ht]
end Go.AM
set_option linter.unusedVariables false
set_option linter.unusedSimpArgs false
namespace Go.AM
open Go Go.Proofs.YtcilfgedcnehfaaGreatDoor
theorem evs_leaf (l : List Ev) : (l.flatMap Ev.cells).all leafV = true := by
  induction l with
  | nil => rfl
  | cons y l ih => rw [List.flatMap_cons, List.all_append, ih]; rfl
end Go.AM
set_option linter.unusedVariables false
set_option linter.unusedSimpArgs false
namespace Go.AM
open Go Go.Proofs.YtcilfgedcnehfaaGreatDoor
theorem Stab.cnt {l r : List Ev} (h : Stab Ev.ti l r) (y : Ev) : (r.filter fun z => decide (z = y)).length = (l.filter fun z => decide (z = y)).length := by
  have key : ∀ m : List Ev, m.filter (fun z => decide (z = y)) = (at_key Ev.ti y.ti m).filter (fun z => decide (z = y)) := fun m => by
    unfold at_key
    rw [List.filter_filter]
    congr 1
    funext z
    by_cases hz : z = y <;> simp [hz]
  rw [key r, h.same, ← key l]
end Go.AM
set_option linter.unusedVariables false
set_option linter.unusedSimpArgs false
namespace Go.AM
open Go Go.Proofs.YtcilfgedcnehfaaGreatDoor
theorem mask_set : ∀ (l : List Ev) (i : Nat) (y : Int) (hi : i < l.length), splice (l.flatMap Ev.cells) (i * 6 + 5) [vU y] = (l.set i { l[i] with ma := y }).flatMap Ev.cells
  | [], i, y, h => by simp at h
  | x :: l, 0, y, h => by
    rw [List.set_cons_zero, List.flatMap_cons, List.flatMap_cons]
    rfl
  | x :: l, i + 1, y, h => by
    have ih := mask_set l i y (by simpa using h)
    rw [List.set_cons_succ, List.flatMap_cons, List.flatMap_cons, List.getElem_cons_succ, ← ih]
    unfold splice
    rw [show (i + 1) * 6 + 5 = x.cells.length + (i * 6 + 5) by simp [Ev.cells]; omega, List.take_length_add_append, Nat.add_assoc, List.drop_length_add_append]
    simp
theorem mutE_w {S S1 : St} {a : Option Addr} {k : Nat} {t : TypeId} {l : List Ev} (h : Ap S none S1 a k t 6 (l.flatMap Ev.cells)) (hk : k ≤ 2000) {Q : Nat × List Value → St → Prop}
    (hQ : ∀ S', S <+: S' → (∀ i o, S1[i]? = some o → a ≠ some ⟨i, 0, none⟩ → S'[i]? = some o) → Q (1, []) S') :
    WP (loopM (fun st => guardM (st.length = 1) ((aI (st.headD topV)).bind fun n => bif decide (n < (k : Int)) then guardM (0 ≤ n ∧ n < (k : Int)) (onOpt a fun y => (ld ((y.add (n.toNat * 6)).add 5)).bind fun v => (aU v).bind fun n_1 => guardM (0 ≤ n ∧ n < (k : Int))
      (onOpt a fun y => (stL ((y.add (n.toNat * 6)).add 5) [vU (wU (n_1 + 1))]).bind fun x => retQ 0 [vI (wI (n + 1))])) else retQ 1 [])) [vI 0]) S1 Q := by
  have hkl := h.cnt (fun _ => rfl) (by decide)
  refine wp_loop (fun st S' m => ∃ (j : Nat), st = [vI j] ∧ j ≤ k ∧ m = k - j ∧ S <+: S' ∧ (∀ i o, S1[i]? = some o → a ≠ some ⟨i, 0, none⟩ → S'[i]? = some o) ∧
    (k = 0 ∨ ∃ b l' g, a = some ⟨b, 0, none⟩ ∧ S.length ≤ b ∧ l'.length = k ∧ S'[b]? = some (.cells ((l' : List Ev).flatMap Ev.cells) t g))) ?_ k _ _ ⟨0, rfl, by omega, rfl, h.pre, fun i o hi _ => hi, ?_⟩
  rotate_left
  · rcases h.own with ⟨_, h0⟩ | ⟨b, hb, h1⟩
    · exact .inl h0
    · exact .inr ⟨b, l, _, hb, h.new hb, hkl.symm, h1⟩
  rintro st S2 m ⟨j, rfl, hj, rfl, h1, h2, h3⟩
  simp only [wps]
  refine ⟨fun h4 => ?_, fun h4 => hQ S2 h1 h2⟩
  rcases h3 with h3 | ⟨b, l', g, rfl, hbS, hl', hb⟩
  · omega
  have hj' : j < l'.length := by omega
  obtain ⟨_, _, _, _, _, c5⟩ := (Od.refl hb).ev hj'
  have ms := mask_set l' j (wU (l'[j].ma + 1)) hj'
  simp only [wps, c5, hb]
  rw [wI_ (n := (j : Int) + 1) (by omega) (by omega)]
  refine ⟨h4, h4, by rw [evc_len]; omega, k - (j + 1), by omega, j + 1, rfl, by omega, rfl, pre_set' h1 hbS, fun i o hi hne => ?_, .inr ⟨b, l'.set j { l'[j] with ma := wU (l'[j].ma + 1) }, g, rfl, hbS, ?_, ?_⟩⟩
  · rw [List.getElem?_set_ne (by intro e; subst e; exact hne rfl)]; exact h2 i o hi hne
  · simpa using hl'
  · rw [List.getElem?_set_self (pre_lt hb), ms]
end Go.AM
set_option linter.unusedVariables false
set_option linter.unusedSimpArgs false
namespace Go.AM
open Go Go.Proofs Go.Proofs.YtcilfgedcnehfaaGreatDoor
theorem radG_w {n : Int} {S : St} : WP (radG [.int .i64 n]) S fun v S' => ∃ a, v = .tuple ⟨[.slice a (radV n).1.length (radV n).1.length, .int .i64 (radV n).2]⟩ ∧ Ap S none S' a (radV n).1.length 3 1 ((radV n).1.flatMap eI) := by
  have key : ∃ c : Int, radO n = ((radV n).1.map fun x => .int .i64 x, .int .i64 c) ∧ (radV n).2 = c := by
    unfold radO radV
    split
    · unfold radR
      split
      · refine ⟨0, ?_, rfl⟩
        rw [List.map_map]; rfl
      · exact ⟨4, rfl, rfl⟩
    · exact ⟨4, rfl, rfl⟩
  obtain ⟨c, h1, h2⟩ := key
  unfold WP radG rowR radF
  simp only [h1, h2]
  generalize (radV n).1 = l
  cases l with
  | nil => exact ⟨_, _, rfl, none, rfl, .nil⟩
  | cons x l =>
    refine ⟨_, _, rfl, some ⟨S.length, 0, none⟩, by simp, by simp, fun i hi _ => List.getElem?_append_left hi, .inr ⟨_, rfl, Nat.le_refl _⟩, by rw [flat_len (w := 1) (fun _ => rfl)], .inr ⟨_, rfl, ?_⟩, .inl rfl⟩
    rw [get_new]
    have e : Value.int .i64 x :: l.map (fun x => Value.int .i64 x) = (x :: l).flatMap eI := by rw [← List.map_cons (f := fun x => Value.int .i64 x), List.map_eq_flatMap]; rfl
    exact congrArg (fun c => some (AObj.cells c 3 (some 1))) e
theorem redG_w {p a : Int} (h : 0 ≤ a ∧ a < 18446744073709551616) : redG [.int .u64 p, .int .u64 a] = M.ret (.int .u64 (red p a)) := by
  funext S; simp [redG, valR, redF, h, M.ret]
theorem mulG_w {p a b : Int} (h : 0 ≤ a ∧ a < 18446744073709551616) (g : 0 ≤ b ∧ b < 18446744073709551616) : mulG [.int .u64 p, .int .u64 a, .int .u64 b] = M.ret (.int .u64 (mulF p a b)) := by
  funext S; simp [mulG, valR, mulFF, h, g, M.ret]
theorem genG_w {p : Int} : genG [.int .u64 p] = M.ret (.int .u64 (genF p)) := by
  funext S; simp [genG, valR, genFF, M.ret]
theorem lenG_w {a : Int} (h : 0 ≤ a ∧ a < 18446744073709551616) : lenG [.int .u64 a] = M.ret (.int .i64 (Lib.bitLen a.toNat)) := by
  funext S; simp [lenG, valR, lenFF, M.ret]; omega
theorem known_w {p : Int} : g_field_Known [vU p] = M.ret (vB (known p)) := by
  rw [g_field_Known_eq]
  unfold known P0 P1 P2
  cases p == 18446744069414584321 <;> cases p == 998244353 <;> cases p == 2013265921 <;> rfl
theorem red_w {p a : Int} (h : 0 ≤ a ∧ a < 18446744073709551616) : g_field_Reduce [vU p, vU a] = M.ret (vU (red p a)) := redG_w h
theorem mul_w {p a b : Int} (h : 0 ≤ a ∧ a < 18446744073709551616) (g : 0 ≤ b ∧ b < 18446744073709551616) : g_field_Mul [vU p, vU a, vU b] = M.ret (vU (mulF p a b)) := mulG_w h g
theorem gen_w {p : Int} : g_root_Gen [vU p] = M.ret (vU (genF p)) := genG_w
theorem len_w {a : Int} (h : 0 ≤ a ∧ a < 18446744073709551616) : g_bits_Len64 [vU a] = M.ret (vI (Lib.bitLen a.toNat)) := lenG_w h
theorem ready_w {p n : Int} : g_root_ready [vU p, vI n] = M.ret (vI (readyV p n)) := by
  refine wp_eq fun S => ?_
  rw [g_root_ready_eq, known_w]
  unfold readyV
  cases known p with
  | false => simp only [wps]; simp
  | true =>
    simp only [wps]
    by_cases h1 : n < 1
    · simp [h1]
    · by_cases h2 : 8192 < n <;> simp [h1, h2]
theorem bit_at (N d : Nat) (hN : N < 18446744073709551616) (hd : d < 64) : IntKind.u64.wrap (↑(BitVec.ofInt IntKind.u64.bits ((N : Int).fdiv (2 ^ min d IntKind.u64.bits)) &&& BitVec.ofInt IntKind.u64.bits 1).toNat : Int) = ((N / 2 ^ d % 2 : Nat) : Int) := by
  have h1 : (N : Int).fdiv (2 ^ min d IntKind.u64.bits) = ((N / 2 ^ d : Nat) : Int) := by
    rw [Nat.min_eq_left (show d ≤ IntKind.u64.bits by simp only [IntKind.bits]; omega), show (2 : Int) ^ d = ((2 ^ d : Nat) : Int) by simp, Int.fdiv_eq_ediv_of_nonneg _ (Int.natCast_nonneg _)]
    simp
  have h2 : N / 2 ^ d < 18446744073709551616 := Nat.lt_of_le_of_lt (Nat.div_le_self _ _) hN
  rw [h1]
  generalize N / 2 ^ d = q at h2 ⊢
  have := Lib.u64_and1 (q : Int) (by omega) (by omega)
  refine Eq.trans ?_ (this.trans ?_)
  · rfl
  · omega
theorem pow_w {p a n : Int} (ha : 0 ≤ a ∧ a < 18446744073709551616) (hn : 0 ≤ n ∧ n < 18446744073709551616) : g_power_Pow [vU p, vU a, vU n] = M.ret (vU (powM p a n.toNat)) := by
  obtain ⟨N, rfl⟩ := Int.eq_ofNat_of_zero_le hn.1
  obtain ⟨h1, h2⟩ := bitLenAux_le 64 N (by omega)
  refine wp_eq fun S => ?_
  rw [g_power_Pow_eq, red_w (by omega), len_w hn]
  simp only [wps]
  refine wp_loop (fun st S' m => ∃ d : Nat, st = [vU (powM p a (N / 2 ^ d)), vI ((d : Int) - 1)] ∧ S' = S ∧ m = d ∧ d ≤ 64) ?_ (Lib.bitLenAux 64 N) _ _ ⟨Lib.bitLenAux 64 N, ?_, rfl, rfl, h2⟩
  · rintro st S' m ⟨d, rfl, rfl, hmd, hd⟩
    cases d with
    | zero => simp [wps]
    | succ d =>
      have e1 : ((d + 1 : Nat) : Int) - 1 = (d : Int) := by omega
      have hm := mul_w (p := p) (powM_range p a (N / 2 ^ (d + 1))) (powM_range p a (N / 2 ^ (d + 1)))
      rw [mulF_powM] at hm
      have hm2 := mul_w (p := p) (powM_range p a (N / 2 ^ (d + 1) + N / 2 ^ (d + 1))) ha
      rw [mulF_powM1] at hm2
      have hdiv : N / 2 ^ (d + 1) = N / 2 ^ d / 2 := by rw [Nat.pow_succ, Nat.div_div_eq_div_mul]
      simp only [wps, hm, hm2, e1, bit_at N d (by omega) (by omega), wI_ (n := (d : Int) - 1) (by omega) (by omega)]
      generalize hq : N / 2 ^ d = q at hdiv ⊢
      refine ⟨fun hb => ⟨d, by omega, d, ?_, rfl, by omega⟩, fun hb => ⟨d, by omega, d, ?_, rfl, by omega⟩⟩
      · rw [hdiv, hq, show q / 2 + q / 2 + 1 = q by omega]
      · rw [hdiv, hq, show q / 2 + q / 2 = q by omega]
  · rw [Nat.div_eq_of_lt h1]
    unfold red powM Lib.bitLen
    rw [wI_ (by omega) (by omega)]
    simp
theorem root_w {p n : Int} : g_root_Root [vU p, vI n] = M.ret (vT [vU (rootV p n).1, vI (rootV p n).2]) := by
  refine wp_eq fun S => ?_
  rw [g_root_Root_eq, ready_w]
  unfold rootV
  simp only [wps]
  refine ⟨fun h => by simp [h], fun h => ?_⟩
  rw [if_pos h]
  have hk : known p = true ∧ 1 ≤ n ∧ n ≤ 8192 := by
    unfold readyV at h
    split at h
    · split at h
      · simp at h
      · exact ⟨‹_›, by omega, by omega⟩
    · simp at h
  have hp := known_pos hk.1
  have hq0 : 0 ≤ (p - 1) / n := Int.ediv_nonneg (by omega) (by omega)
  have hq1 : (p - 1) / n ≤ p - 1 := Int.ediv_le_self _ (by omega)
  have e1 : wU n = n := wU_ (by omega) (by omega)
  have e2 : wU (p - 1) = p - 1 := wU_ (by omega) (by omega)
  have e3 : (p - 1).tmod n = (p - 1) % n := Int.tmod_eq_emod_of_nonneg (by omega)
  have e4 : (p - 1).tdiv n = (p - 1) / n := Int.tdiv_eq_ediv_of_nonneg (by omega)
  have e5 : wU ((p - 1) / n) = (p - 1) / n := wU_ hq0 (by omega)
  rw [e1, e2, e3, e4, e5]
  simp only [wps, gen_w, pow_w (p := p) (genF_range p) ⟨hq0, show (p - 1) / n < 18446744073709551616 by omega⟩]
  exact ⟨by omega, fun h2 => by rw [if_pos (by omega)], fun h2 => ⟨by omega, by rw [if_neg (by omega)]⟩⟩
theorem inv_w {p a : Int} (ha : 0 ≤ a ∧ a < 18446744073709551616) : g_power_Inv [vU p, vU a] = M.ret (vT [vU (invV p a).1, vI (invV p a).2]) := by
  refine wp_eq fun S => ?_
  rw [g_power_Inv_eq, known_w, red_w ha]
  unfold invV
  cases hk : known p with
  | false => simp [wps]
  | true =>
    have hp : 2 ≤ p ∧ p < 18446744073709551616 := by rcases known_cases hk with rfl | rfl | rfl <;> decide
    rw [wU_ (n := p - 2) (by omega) (by omega), pow_w (p := p) ha ⟨by omega, by omega⟩]
    simp only [wps]
    exact ⟨fun h => by simp [h], fun h => by simp [h]⟩
theorem back_w {p n : Int} : g_root_Back [vU p, vI n] = M.ret (vT [vU (backV p n).1, vI (backV p n).2]) := by
  refine wp_eq fun S => ?_
  rw [g_root_Back_eq, root_w]
  unfold backV
  simp only [wps, inv_w (rootV_range p n)]
  exact ⟨fun h => by simp [h], fun h => by simp [h]⟩
theorem rad_w {n : Int} {S : St} : WP (g_factor_Radices [vI n]) S fun v S' => ∃ a, v = vT [.slice a (radV n).1.length (radV n).1.length, vI (radV n).2] ∧ Ap S none S' a (radV n).1.length 3 1 ((radV n).1.flatMap eI) := radG_w
theorem smooth_w {n : Int} {S : St} : Sp (g_factor_Smooth [vI n]) S fun v _ => v = vB (smoothV n) := by
  unfold Sp
  rw [g_factor_Smooth_eq]
  simp only [wps]
  refine rad_w.mono ?_
  rintro _ S' ⟨a, rfl, h⟩
  simp only [wps]
  exact ⟨h.pre, rfl⟩

theorem fill_set {c : List Value} {l : List Int} {k : IntKind} {n j : Nat} {z x : Int} (h : c = (l.take j).map (.int k) ++ List.replicate (n - j) (.int k z)) (hl : l.length = n) (hj : j < n) (hx : l[j]? = some x) :
    splice c j [.int k x] = (l.take (j + 1)).map (.int k) ++ List.replicate (n - (j + 1)) (.int k z) := by
  have hlen : ((l.take j).map (Value.int k)).length = j := by simp; omega
  rw [splice_set (by rw [h]; simp; omega), h, List.set_append_right _ _ (by omega), hlen, Nat.sub_self, show n - j = (n - (j + 1)) + 1 by omega, List.replicate_succ, List.set_cons_zero, List.take_add_one, hx]
  simp
theorem dims_w {S : St} {axes : Option Addr} {n c : Nat} {l : List Ax} (h : Ar S axes n 2 eAx l) (hl : n ≤ 8796093022208) :
    Sp (g_grid_Dims [.slice axes n c]) S fun v S' => ∃ a k, v = .slice a n k ∧ Ar S' a n 1 eI (dimsOf l) := by
  unfold Sp
  rw [g_grid_Dims_eq]
  have hn := h.1
  simp only [wps, zeroC_one]
  refine ⟨⟨by omega, by omega, by omega, rfl⟩, ?_⟩
  refine wp_loop (fun st S' m => ∃ j : Nat, st = [vI j] ∧ j ≤ n ∧ m = n - j ∧ (S ++ [.cells (((dimsOf l).take j).map (.int .i64) ++ List.replicate (n - j) (.int .i64 0)) 3 none]) <+: S') ?_ n _ _ ⟨0, rfl, by omega, by omega, by simp⟩
  rintro st S' m ⟨j, rfl, hj, rfl, hp⟩
  simp only [wps]
  refine ⟨fun h1 => ?_, fun h1 => ?_⟩
  · have hj' : j < l.length := by omega
    obtain ⟨a, rfl, c1, c2⟩ := (h.mono (pre_of_add hp)).getAx hj'
    have hb := pre_get hp get_new
    have hb2 : ∀ o, (S' ++ [o])[S.length]? = _ := fun o => get_add hb
    simp only [wps, c1, c2, hb2]
    refine ⟨h1, h1, ?_, n - (j + 1), by omega, j + 1, ?_, by omega, rfl, ?_⟩
    · simp [dimsOf]; omega
    · rw [wI_ (by omega) (by omega)]; simp
    · rw [fill_set (l := dimsOf l) (n := n) (j := j) (z := 0) (x := l[j].N) rfl (by simp [dimsOf]; omega) (by omega) (by simp [dimsOf, hj'])]
      exact pre_top (pre_add hp _)
  · have : n - j = 0 := by omega
    refine ⟨pre_of_add hp, _, _, rfl, ?_⟩
    have hb := pre_get hp get_new
    have e : n = (dimsOf l).length := by simp [dimsOf]; omega
    rw [List.take_of_length_le (by omega), this] at hb
    conv => arg 3; rw [e]
    exact arI_blk (by simpa using hb)
theorem all_w {S : St} {dims : Option Addr} {n c : Nat} {l : List Int} (h : Ar S dims n 1 eI l) : Gv (g_shape_All [.slice dims n c]) S (vT [vI (allV l).1, vI (allV l).2]) := by
  refine .of ?_
  rw [g_shape_All_eq]
  have hn := h.1
  simp only [wps]
  refine ⟨fun h1 => by simp [allV, show l.length < 1 by omega], fun h1 => ⟨fun h2 => by simp [allV, show 4 < l.length by omega], fun h2 => ?_⟩⟩
  have e : allV l = allGo 1 l := by unfold allV; rw [if_neg (by omega)]
  rw [e]
  refine wp_loop (fun st S' m => ∃ (i : Nat) (x : Int), st = [.int .i64 x, .int .i64 i] ∧ S' = S ∧ i ≤ n ∧ m = n - i ∧ 1 ≤ x ∧ x ≤ 4096 ∧ allGo 1 l = allGo x (l.drop i)) ?_ n _ _ ⟨0, 1, rfl, rfl, by omega, by omega, by omega, by omega, by simp⟩
  rintro st S' m ⟨i, x, rfl, rfl, hi, rfl, h3, h4, hg⟩
  simp only [wps]
  refine ⟨fun h5 => ⟨h5, ?_⟩, fun h5 => ?_⟩
  · obtain ⟨a, rfl, hc⟩ := h.getI (i := i) (by omega)
    rw [List.drop_eq_getElem_cons (by omega), allGo] at hg
    simp only [wps, hc]
    refine ⟨fun h6 => ?_, fun h6 => ⟨fun h7 => ?_, fun h7 => ?_⟩⟩
    · rw [if_pos (.inl h6)] at hg; simp [hg, wps]
    · rw [if_pos (.inr (.inl h7))] at hg; simp [hg, wps]
    · have hb1 : 1 ≤ x * l[i] := by
        have := Int.mul_le_mul h3 (show 1 ≤ l[i] by omega) (by omega) (by omega)
        simpa using this
      have hb2 : x * l[i] ≤ 4096 * 4096 := Int.mul_le_mul h4 (by omega) (by omega) (by omega)
      rw [wI_ (n := x * l[i]) (by omega) (by omega), wI_ (n := (i : Int) + 1) (by omega) (by omega)]
      refine ⟨fun h8 => ?_, fun h8 => ?_⟩
      · rw [if_pos (.inr (.inr h8))] at hg; simp [hg]
      · rw [if_neg (by omega)] at hg
        exact ⟨n - (i + 1), by omega, i + 1, _, rfl, by omega, rfl, by omega, by omega, hg⟩
  · rw [List.drop_eq_nil_iff.2 (by omega), allGo] at hg
    simp [hg]
end Go.AM
set_option linter.unusedVariables false
set_option linter.unusedSimpArgs false
namespace Go.AM
open Go Go.Proofs.YtcilfgedcnehfaaGreatDoor
theorem grid_w {p : Int} {S : St} {axes : Option Addr} {n c : Nat} {l : List Ax} (h : Ar S axes n 2 eAx l) (hl : n ≤ 8796093022208) :
    Sp (g_grid_Check [vU p, .slice axes n c]) S fun v S' => v = vI (gridV p l) := by
  unfold Sp
  have hn := h.1
  rw [g_grid_Check_eq, known_w]
  unfold gridV
  simp only [wps]
  refine ⟨fun hk => ⟨List.prefix_rfl, by simp [hk]⟩, fun hk => ?_⟩
  refine (dims_w h hl).use ?_
  rintro _ S1 h1 ⟨a, k, rfl, hd⟩
  simp only [wps, (all_w hd).wp]
  refine ⟨fun h2 => ⟨h1, by simp [hk, h2]⟩, fun h2 => ?_⟩
  rw [if_pos hk, if_pos h2]
  refine wp_loop (fun st S' m => ∃ (j : Nat) (e : Int), st = [vI e, vI j] ∧ j ≤ n ∧ m = n - j ∧ S <+: S' ∧ gGo p 0 l = gGo p e (l.drop j)) ?_ n _ _ ⟨0, 0, rfl, by omega, by omega, h1, by simp⟩
  rintro st S' m ⟨j, e, rfl, hj, rfl, hp, hg⟩
  simp only [wps]
  refine ⟨fun h3 => ⟨h3, ?_⟩, fun h3 => ?_⟩
  · have hj' : j < l.length := by omega
    obtain ⟨a, rfl, c1, c2⟩ := (h.mono hp).getAx hj'
    rw [List.drop_eq_getElem_cons hj', gGo] at hg
    simp only [wps, c1, c2]
    have hq := pre_add hp
    refine ⟨fun h4 => ?_, fun h4 => ?_⟩
    all_goals
      refine smooth_w.use ?_
      rintro _ S2 h5 rfl
      simp only [wps, root_w]
      refine ⟨fun h6 => ?_, fun h6 => ?_⟩
      · rw [if_neg (by simp [h6])] at hg
        simp only [wps, hg]
        exact (hq _).trans h5
      · rw [if_pos (by simpa using h6)] at hg
        unfold ordW at hg
        simp only [h4, if_true, Bool.false_eq_true, if_false] at hg
        refine ⟨fun h7 => ?_, fun h7 => ?_⟩
        · rw [if_neg h7] at hg
          exact ⟨n - (j + 1), by omega, j + 1, 5, by rw [wI_ (by omega) (by omega)]; simp, by omega, rfl, (hq _).trans h5, hg⟩
        · rw [if_pos h7] at hg
          exact ⟨n - (j + 1), by omega, j + 1, e, by rw [wI_ (by omega) (by omega)]; simp, by omega, rfl, (hq _).trans h5, hg⟩
  · rw [List.drop_eq_nil_iff.2 (by omega), gGo] at hg
    exact ⟨hp, by rw [hg]⟩
theorem base_w {p : Int} {a : Ax} {inv : Bool} {s : Stp} {S : St} : Sp (g_step_base [vU p, vA [vI a.N, vB a.neg], vB inv, vA [vI s.ax, vB s.tw, vI s.st.R, vI s.st.L, vI s.st.M]]) S fun v S' => v = vT [vU (baseV p a inv s).1, vI (baseV p a inv s).2] := by
  unfold Sp
  rw [g_step_base_eq]
  unfold baseV k_step_base_1
  have hb : ∀ o x y, (S ++ [o] ++ [AObj.cells x y none])[S.length]? = some o := fun o x y => get_add get_new
  have hp : ∀ o o', S <+: S ++ [o] ++ [o'] := fun o o' => pre_add (List.prefix_append _ _) _
  have hc : ∀ c t o k, St.cell (S ++ [.cells c t none] ++ [o]) ⟨S.length, k, none⟩ = c[k]? := fun c t o k => cell_blk (get_add get_new) k
  cases h1 : s.tw with
  | true =>
    cases h2 : a.neg with
    | true =>
      simp only [wps, hc]
      cases inv <;> simp [wps, back_w, root_w, hp]
    | false =>
      simp only [wps, hc]
      simp [hp]
  | false =>
    simp only [wps, hc]
    cases inv <;> simp [wps, back_w, root_w, hp]
end Go.AM
set_option linter.unusedVariables false
set_option linter.unusedSimpArgs false
namespace Go.AM
open Go Go.Proofs.YtcilfgedcnehfaaGreatDoor
theorem foldr_pos : ∀ l : List Int, (∀ r ∈ l, 1 ≤ r) → 1 ≤ l.foldr (· * ·) 1
  | [], _ => by simp
  | x :: l, h => by
    have h3 := foldr_pos l (fun r hr => h r (by simp [hr]))
    have h4 := h x (by simp)
    rw [List.foldr_cons]
    have := Int.mul_le_mul h4 h3 (by omega) (by omega)
    omega
theorem stages_w {n : Int} {S : St} : WP (g_factor_Stages [vI n]) S fun v S' => ∃ a, v = vT [.slice a (stagesV n).1.length (stagesV n).1.length, vI (stagesV n).2] ∧ Ap S none S' a (stagesV n).1.length 94 3 ((stagesV n).1.flatMap eSg) := by
  rw [g_factor_Stages_eq]
  simp only [wps]
  refine rad_w.mono ?_
  rintro _ S1 ⟨a, rfl, hr⟩
  have hS := hr.pre
  have hr := hr.ar (fun _ => rfl) (by decide)
  simp only [wps]
  unfold stagesV
  refine ⟨fun h => ?_, fun h => ?_⟩
  · rw [if_neg h]; exact ⟨none, rfl, Ap.nil.more hS⟩
  · rw [if_pos h]
    obtain ⟨n1, n2, f1, f2, f3⟩ := radV_facts h
    generalize (radV n).1 = rs at hr f1 f2 f3 ⊢
    refine wp_loop (fun st S' m => ∃ (j : Nat) (x : Int) (sa : Option Addr) (dn : List Sg), st = [.slice sa j j, vI x, vI j] ∧ j ≤ rs.length ∧ m = rs.length - j ∧ Ap S1 none S' sa j 94 3 (dn.flatMap eSg) ∧
      dn ++ stGo n x (rs.drop j) = stGo n 1 rs ∧ 1 ≤ x ∧ x * (rs.drop j).foldr (· * ·) 1 = n) ?_ rs.length _ _ ⟨0, 1, none, [], rfl, by omega, by omega, .nil, by simp, by omega, by simpa using f2⟩
    rintro st S' m ⟨j, x, sa, dn, rfl, hj, rfl, ho, hd, hx, hf⟩
    simp only [wps]
    refine ⟨fun h3 => ⟨h3, ?_⟩, fun h3 => ?_⟩
    · have hj' : j < rs.length := by omega
      obtain ⟨b, rfl, hc⟩ := (hr.mono ho.pre).getI hj'
      rw [List.drop_eq_getElem_cons hj'] at hd hf
      have hr1 := f1 _ (List.getElem_mem hj')
      rw [List.foldr_cons, ← Int.mul_assoc] at hf
      have hp1 := foldr_pos (rs.drop (j + 1)) (fun r hr' => by have := (f1 r (List.mem_of_mem_drop hr')).1; omega)
      have har : 1 ≤ x * rs[j] := by have := Int.mul_le_mul hx (show 1 ≤ rs[j] by omega) (by omega) (by omega); omega
      have har2 : x * rs[j] ≤ 4096 := by
        have : x * rs[j] * 1 ≤ x * rs[j] * (rs.drop (j + 1)).foldr (· * ·) 1 := Int.mul_le_mul_of_nonneg_left hp1 (by omega)
        omega
      have hq0 : 0 ≤ n / x := Int.ediv_nonneg (by omega) (by omega)
      have hq1 : n / x ≤ n := Int.ediv_le_self _ (by omega)
      have hq2 : 0 ≤ n / x / rs[j] := Int.ediv_nonneg hq0 (by omega)
      have hq3 : n / x / rs[j] ≤ n / x := Int.ediv_le_self _ hq0
      simp only [wps, hc]
      refine ⟨by omega, by omega, ?_⟩
      rw [show n.tdiv x = n / x from Int.tdiv_eq_ediv_of_nonneg (by omega), wI_ (n := n / x) (by omega) (by omega), show (n / x).tdiv rs[j] = n / x / rs[j] from Int.tdiv_eq_ediv_of_nonneg hq0, wI_ (n := n / x / rs[j]) (by omega) (by omega)]
      refine wp_push ho rfl (by omega) (by omega) rfl ?_
      intro b' S2 h6
      simp only [wps]
      rw [wI_ (n := x * rs[j]) (by omega) (by omega), wI_ (n := (j : Int) + 1) (by omega) (by omega)]
      refine ⟨rs.length - (j + 1), by omega, j + 1, x * rs[j], _, dn ++ [⟨rs[j], x, n / x / rs[j]⟩], rfl, by omega, rfl, ?_, ?_, har, hf⟩
      · simpa [eSg] using h6
      · rw [← hd, stGo]; simp
    · rw [List.drop_eq_nil_of_le (by omega), stGo, List.append_nil] at hd
      have e := ho.cnt (fun _ => rfl) (by decide)
      subst hd
      rw [← e]
      refine ⟨sa, rfl, ?_⟩
      exact (Ap.nil.more hS).trans ho
theorem index_w {S : St} {p : Option Addr} {n c : Nat} {l : List Sg} (h : Ar S p n 3 eSg l) (hl : n ≤ 140737488355328) (s : Sg) :
    Sp (g_slices_Index_api_Stage_api_Stage [.slice p n c, vA [vI s.R, vI s.L, vI s.M]]) S fun v S' => ∃ r : Int, v = vI r ∧ (0 ≤ r ↔ s ∈ l) := by
  unfold Sp
  have hn := h.1
  rw [g_slices_Index_api_Stage_api_Stage_eq]
  simp only [wps]
  refine wp_loop (fun st S' m => ∃ j : Nat, st = [vI j] ∧ j ≤ n ∧ m = n - j ∧ S' = S ++ [.cells [vI s.R, vI s.L, vI s.M] 94 none] ∧ (s ∈ l ↔ s ∈ l.drop j)) ?_ n _ _ ⟨0, rfl, by omega, by omega, rfl, by simp⟩
  rintro st S' m ⟨j, rfl, hj, rfl, rfl, hm⟩
  simp only [wps]
  refine ⟨fun h3 => ⟨h3, ?_⟩, fun h3 => ?_⟩
  · have hj' : j < l.length := by omega
    obtain ⟨a, rfl, c1, c2, c3⟩ := (h.mono (List.prefix_append S [.cells [vI s.R, vI s.L, vI s.M] 94 none])).getSg hj'
    simp only [wps, c1, c2, c3]
    rw [List.drop_eq_getElem_cons hj', List.mem_cons] at hm
    have e : eqL [vI s.R, vI s.L, vI s.M] [vI l[j].R, vI l[j].L, vI l[j].M] = decide (s = l[j]) := by
      obtain ⟨a1, a2, a3⟩ := s
      cases hx : l[j] with
      | mk b1 b2 b3 => simp [eqL, Bool.and_assoc, Bool.decide_and, Sg.mk.injEq]; rfl
    rw [e]
    refine ⟨fun h4 => ?_, fun h4 => ?_⟩
    · exact ⟨pre_add List.prefix_rfl _, j, rfl, by simp at h4; exact ⟨fun _ => hm.2 (.inl h4), fun _ => by omega⟩⟩
    · refine ⟨n - (j + 1), by omega, j + 1, by rw [wI_ (by omega) (by omega)]; simp, by omega, rfl, ?_⟩
      simp at h4
      rw [hm]; simp [h4]
  · refine ⟨pre_add List.prefix_rfl _, -1, rfl, ?_⟩
    rw [hm, List.drop_eq_nil_of_le (by omega)]; simp
theorem contains_w {S : St} {p : Option Addr} {n c : Nat} {l : List Sg} (h : Ar S p n 3 eSg l) (hl : n ≤ 140737488355328) (s : Sg) :
    Sp (g_slices_Contains_api_Stage_api_Stage [.slice p n c, vA [vI s.R, vI s.L, vI s.M]]) S fun v S' => v = vB (decide (s ∈ l)) := by
  unfold Sp
  rw [g_slices_Contains_api_Stage_api_Stage_eq]
  simp only [wps]
  refine (index_w (h.mono (pre_add List.prefix_rfl _)) hl s).use ?_
  rintro _ S1 h1 ⟨r, rfl, hr⟩
  simp only [wps]
  refine ⟨pre_of_add h1, ?_⟩
  by_cases h2 : s ∈ l
  · simp [h2, hr.2 h2]
  · have : ¬ 0 ≤ r := fun h => h2 (hr.1 h)
    simp [h2, this]
end Go.AM
set_option linter.unusedVariables false
set_option linter.unusedSimpArgs false
namespace Go.AM
open Go Go.Proofs.YtcilfgedcnehfaaGreatDoor
theorem stages_len (n : Int) : (stagesV n).1.length ≤ 4096 := by
  unfold stagesV
  by_cases h : (radV n).2 = 0
  · have := (stages_facts h).2
    unfold stagesV at this
    exact this
  · rw [if_neg h]; simp
theorem stepc_w {p : Int} {S : St} {axes : Option Addr} {n c : Nat} {l : List Ax} (h : Ar S axes n 2 eAx l) (hl : n ≤ 8796093022208) (s : Stp) :
    Sp (g_step_Check [vU p, .slice axes n c, vA [vI s.ax, vB s.tw, vI s.st.R, vI s.st.L, vI s.st.M]]) S fun v S' => v = vI (stepV p l s) := by
  unfold Sp
  have hn := h.1
  rw [g_step_Check_eq]
  simp only [wps]
  refine (grid_w (h.mono (List.prefix_append _ _)) hl).use ?_
  rintro _ S1 h1 rfl
  have hb := pre_get h1 get_new
  have hb2 : ∀ o, (S1 ++ [o])[S.length]? = _ := fun o => get_add hb
  have hc := cell_blk hb
  have hc2 := fun o => cell_blk (hb2 o)
  have h0 := pre_of_add h1
  simp only [wps, hc, hc2]
  unfold stepV
  refine ⟨fun h2 => ⟨h0, by rw [if_neg h2]⟩, fun h2 => ?_⟩
  rw [if_pos h2]
  refine ⟨fun h3 => ⟨h0, by rw [if_neg (by omega)]⟩, fun h3 => ⟨fun h4 => ⟨h0, by rw [if_neg (by omega)]⟩, fun h4 => ?_⟩⟩
  rw [if_pos (by omega)]
  obtain ⟨k, hk⟩ := Int.eq_ofNat_of_zero_le (show 0 ≤ s.ax by omega)
  have hkl : k < l.length := by omega
  refine ⟨fun h5 => ?_, fun h5 => ?_⟩
  · obtain ⟨a, rfl, c1, c2⟩ := (h.mono (pre_add h0 [.cells [vI 0, vI 0, vI 0] 94 none])).getAx hkl
    rw [if_neg (by rw [h5]; simp), hk, axAt_nat l k hkl]
    simp only [wps, c1]
    refine ⟨by omega, stages_w.mono ?_⟩
    rintro _ S2 ⟨b, rfl, hst⟩
    have h6 := hst.pre
    have hst := hst.ar (fun _ => rfl) (by decide)
    simp only [wps]
    refine ⟨fun h7 => ⟨(pre_add h0 _).trans h6, by rw [if_neg h7]⟩, fun h7 => ?_⟩
    rw [if_pos h7]
    have hc3 := cell_blk (pre_get h6 (hb2 _))
    simp only [wps, hc3]
    refine (contains_w hst (by have := stages_len l[k].N; omega) s.st).use ?_
    rintro _ S3 h8 rfl
    simp only [wps]
    have h9 := ((pre_add h0 _).trans h6).trans h8
    exact ⟨fun h10 => ⟨h9, by simp [h10]⟩, fun h10 => ⟨h9, by simp [h10]⟩⟩
  · rw [if_pos h5]
    have hst : Ar (S1 ++ [.cells [vI 0, vI 0, vI 0] 94 none]) (some (ad S1.length 0)) 1 3 eSg [⟨0, 0, 0⟩] := Ar.blk (l := ([⟨0, 0, 0⟩] : List Sg)) get_new (fun _ _ => rfl) rfl
    refine (contains_w hst (by omega) s.st).use ?_
    rintro _ S3 h8 rfl
    simp only [wps]
    have h9 := (pre_add h0 _).trans h8
    exact ⟨fun h10 => ⟨h9, by rw [List.mem_singleton] at h10; rw [if_neg h10]⟩, fun h10 => ⟨h9, by rw [List.mem_singleton] at h10; rw [if_pos h10]⟩⟩
theorem fill_at {c : List Value} {f : Nat → Value} {n j : Nat} {z : Value} (h : c = (List.range j).map f ++ List.replicate (n - j) z) (hj : j < n) {v : Value} (hv : v = f j) :
    splice c j [v] = (List.range (j + 1)).map f ++ List.replicate (n - (j + 1)) z := by
  have hlen : ((List.range j).map f).length = j := by simp
  rw [splice_set (by rw [h]; simp; omega), h, List.set_append_right _ _ (by omega), hlen, Nat.sub_self, show n - j = (n - (j + 1)) + 1 by omega, List.replicate_succ, List.set_cons_zero, List.range_succ, hv]
  simp
theorem powers_w {p a many : Int} (ha : 0 ≤ a ∧ a < 18446744073709551616) {S : St} :
    Sp (g_power_Powers [vU p, vU a, vI many]) S fun v S' => ∃ b k, v = vT [.slice b (powersV p a many).1.length k, vI (powersV p a many).2] ∧ Ar S' b (powersV p a many).1.length 1 eU (powersV p a many).1 ∧
      ((powersV p a many).2 = 0 → b = some ⟨S.length, 0, none⟩ ∧ k = many.toNat ∧ S'[S.length]? = some (.cells ((powersV p a many).1.map (.int .u64)) 22 none)) := by
  unfold Sp
  rw [g_power_Powers_eq, known_w]
  unfold powersV
  cases hk : known p with
  | false => simp only [wps]; exact ⟨List.prefix_rfl, none, 0, rfl, .nil, by simp⟩
  | true =>
    rw [if_pos rfl]
    simp only [wps]
    refine ⟨fun h1 => ?_, fun h1 => ⟨fun h2 => ?_, fun h2 => ?_⟩⟩
    · rw [if_pos (.inl h1)]; exact ⟨List.prefix_rfl, none, 0, rfl, .nil, by simp⟩
    · rw [if_pos (.inr h2)]; exact ⟨List.prefix_rfl, none, 0, rfl, .nil, by simp⟩
    · rw [if_neg (by omega)]
      obtain ⟨n, rfl⟩ := Int.eq_ofNat_of_zero_le (show 0 ≤ many by omega)
      simp only [wps, zeroC_one]
      refine ⟨⟨by omega, by omega, by omega, rfl⟩, ?_⟩
      refine wp_loop (fun st S' m => ∃ j : Nat, st = [vU (powM p a j), vI j] ∧ j ≤ n ∧ m = n - j ∧ S' = S ++ [.cells ((List.range j).map (fun i => .int .u64 (powM p a i)) ++ List.replicate (n - j) (.int .u64 0)) 22 none]) ?_ n _ _ ⟨0, by rw [powM_zero a hk]; rfl, by omega, by omega, by simp⟩
      rintro st S' m ⟨j, rfl, hj, rfl, rfl⟩
      have hm := mul_w (p := p) (powM_range p a j) ha
      rw [mulF_powM1] at hm
      simp only [wps, hm]
      refine ⟨fun h3 => ⟨h3, ⟨by simp; omega, ?_⟩⟩, fun h3 => ?_⟩
      · refine ⟨n - (j + 1), by omega, j + 1, by rw [wI_ (by omega) (by omega)]; simp, by omega, rfl, ?_⟩
        rw [fill_at (f := fun i => .int .u64 (powM p a i)) (z := .int .u64 0) rfl (by omega) rfl]
      · obtain rfl : j = n := by omega
        have e : (powsV p a j).length = j := powsV_len p a j
        rw [Nat.sub_self]
        have e2 : (List.map (fun i => Value.int .u64 (powM p a i)) (List.range j) ++ List.replicate 0 (Value.int .u64 0)) = (powsV p a j).map (.int .u64) := by simp [powsV]
        rw [e2]
        exact ⟨List.prefix_append _ _, some ⟨S.length, 0, none⟩, j, by rw [e], arU_blk get_new, rfl, rfl, rfl⟩
end Go.AM
set_option linter.unusedVariables false
set_option linter.unusedSimpArgs false
namespace Go.AM
open Go Go.Proofs.YtcilfgedcnehfaaGreatDoor
theorem rdN_ar {S : St} {b n : Nat} {c : List Value} {e : TypeId} {g : Option Nat} {Q : List Value → St → Prop} (hb : S[b]? = some (.cells c e g)) (hn : c.length = n) (q : Q c S) : WP (rdN (some ⟨b, 0, none⟩) n) S Q := by
  refine wp_rdN hb rfl (by simp [hn]) ?_
  rw [List.drop_zero, ← hn, List.take_length]; exact q
theorem table_w {p : Int} {S : St} {axes : Option Addr} {n c : Nat} {l : List Ax} (h : Ar S axes n 2 eAx l) (hl : n ≤ 8796093022208) (inv : Bool) (s : Stp) :
    Sp (g_step_Table [vU p, .slice axes n c, vB inv, vA [vI s.ax, vB s.tw, vI s.st.R, vI s.st.L, vI s.st.M]]) S fun v S' => ∃ b k, v = vT [.slice b (tableV p l inv s (tabV p l inv s)).length k, vI (stepV p l s)] ∧
      Ar S' b (tableV p l inv s (tabV p l inv s)).length 1 eU (tableV p l inv s (tabV p l inv s)) := by
  unfold Sp
  have hn := h.1
  rw [g_step_Table_eq]
  simp only [wps]
  refine (stepc_w (h.mono (List.prefix_append _ _)) hl s).use ?_
  rintro _ S1 h1 rfl
  have h0 := pre_of_add h1
  have hb := pre_get h1 get_new
  simp only [wps, cell_blk hb]
  unfold tableV
  refine ⟨fun h2 => by rw [if_neg h2]; exact ⟨h0, none, 0, rfl, .nil⟩, fun h2 => ?_⟩
  rw [if_pos h2, h2]
  obtain ⟨hg, hs⟩ := stepV_inv h2
  obtain ⟨hb0, hb1⟩ := base_ok hg hs inv
  obtain ⟨hk, _, hall⟩ := grid_ok hg
  obtain ⟨k, hkl, e0, h3⟩ := hs
  obtain ⟨hr, ho⟩ := hall l[k] (List.getElem_mem hkl)
  obtain ⟨n1, n2, _⟩ := radV_facts hr
  have hax : axAt l s.ax = l[k] := by rw [e0, axAt_nat l k hkl]
  obtain ⟨a, rfl, c1, c2⟩ := (h.mono h0).getAx hkl
  rw [e0]
  simp only [wps, c1, c2]
  refine ⟨by omega, ?_⟩
  have hb2 : ∀ o, (S1 ++ [o])[S.length]? = _ := fun o => get_add hb
  simp only [wps, fun o => cell_blk (hb2 o)]
  refine base_w.use ?_
  rintro _ S2 h4 rfl
  rw [hax] at hb0 hb1
  have h5 := (pre_add h0 _).trans h4
  have hb3 := pre_get h4 (hb2 _)
  have hb4 := pre_get h4 get_new
  simp only [wps, hb0, cell_blk hb3, cell_blk hb4]
  unfold tabV
  rw [hax]
  rcases h3 with ⟨h3, h6⟩ | ⟨h3, h6⟩
  · obtain ⟨N, hN⟩ := Int.eq_ofNat_of_zero_le (show 0 ≤ l[k].N by omega)
    generalize (baseV p l[k] inv s).1 = w at hb1 ⊢
    have hpw : powersV p w (N : Int) = (powsV p w N, 0) := by unfold powersV; rw [if_pos hk, if_neg (by omega), Int.toNat_natCast]
    simp only [wps, h3]
    rw [if_pos (by simp), hN, Int.toNat_natCast]
    refine (powers_w (p := p) (a := w) hb1).use ?_
    rintro _ S3 h7 ⟨b, k', rfl, hpa, hpb⟩
    rw [hpw] at hpa hpb ⊢
    obtain ⟨rfl, hk', hpc⟩ := hpb rfl
    rw [Int.toNat_natCast] at hk'
    have hk' := hk'.symm
    subst hk'
    simp only [powsV_len, Int.toNat_natCast] at hpa hpc
    simp only [wps, powsV_len]
    refine ⟨fun h8 => ?_, fun h8 => ?_⟩
    · rw [h8]
      simp only [wps, Bool.false_eq_true, if_false]
      rw [powsV_len]
      exact ⟨h5.trans h7, _, _, rfl, hpa⟩
    · rw [h8]
      have hred : red p (N : Int) ≠ 0 := by
        unfold red; rw [if_pos hk]
        have : (N : Int) < p := by rcases known_cases hk with rfl | rfl | rfl <;> simp only [P0, P1, P2] <;> omega
        rw [Int.emod_eq_of_lt (by omega) this]; omega
      obtain ⟨i0, i1⟩ := inv_ok hk hred
      have e3 : wU (N : Int) = N := wU_ (by omega) (by omega)
      have hb6 := pre_get h7 hb4
      simp only [wps, cell_blk hb6, hN, e3, inv_w (p := p) (a := (N : Int)) ⟨by omega, by omega⟩, i0]
      generalize (invV p (N : Int)).1 = iv at i1 ⊢
      simp only [if_true, List.length_map, powsV_len]
      refine wp_loop (fun st S' m => ∃ j : Nat, st = [vI j] ∧ j ≤ N ∧ m = N - j ∧ S3.set S2.length (.cells ((((powsV p w N).map fun x => mulF p x iv).take j ++ (powsV p w N).drop j).map (.int .u64)) 22 none) <+: S') ?_ N _ _
        ⟨0, rfl, by omega, by omega, by
          simp only [List.take_zero, List.nil_append, List.drop_zero]
          rw [set_get hpc]; exact List.prefix_rfl⟩
      rintro st S' m ⟨j, rfl, hj, rfl, hp⟩
      have hS2 : S2.length < S3.length := pre_lt hpc
      have hlen := powsV_len p w N
      have hbl := pre_get hp (i := S2.length) (by rw [List.getElem?_set_self hS2])
      simp only [wps]
      refine ⟨fun h9 => ⟨h9, ?_⟩, fun h9 => ?_⟩
      · have hj' : j < N := by omega
        have hx := powM_range p w j
        have hx2 : (powsV p w N)[j]? = some (powM p w j) := by simp [powsV, hj']
        have hl1 : (((powsV p w N).map fun x => mulF p x iv).take j).length = j := by simp; omega
        have hcell : S'.cell ⟨S2.length, j, none⟩ = some (.int .u64 (powM p w j)) := by
          rw [cell_blk hbl, List.getElem?_map, List.getElem?_append_right (by omega), hl1, Nat.sub_self, List.getElem?_drop, Nat.add_zero, hx2]; rfl
        simp only [wps, hcell, mul_w (p := p) hx i1, hbl]
        refine ⟨h9, by simp; omega, N - (j + 1), by omega, j + 1, by rw [wI_ (by omega) (by omega)]; simp, by omega, rfl, ?_⟩
        have e4 : splice ((((powsV p w N).map fun x => mulF p x iv).take j ++ (powsV p w N).drop j).map (.int .u64)) j [.int .u64 (mulF p (powM p w j) iv)] = (((powsV p w N).map fun x => mulF p x iv).take (j + 1) ++ (powsV p w N).drop (j + 1)).map (.int .u64) := by
          rw [splice_set (by simp; omega), ← List.map_set, List.set_append_right _ _ (by omega), hl1, Nat.sub_self, List.drop_eq_getElem_cons (by omega), List.set_cons_zero, List.take_add_one, List.getElem?_map, hx2]
          simp
        rw [e4]
        have := pre_set hp (b := S2.length) (o := .cells ((((powsV p w N).map fun x => mulF p x iv).take (j + 1) ++ (powsV p w N).drop (j + 1)).map (.int .u64)) 22 none) (by simpa using hS2)
        rwa [List.set_set] at this
      · obtain rfl : j = N := by omega
        rw [List.take_of_length_le (by simp; omega), List.drop_of_length_le (by omega), List.append_nil] at hbl
        have h10 : S <+: S' := (h5.trans (pre_set' h7 (Nat.le_refl _))).trans hp
        refine ⟨h10, _, _, rfl, ?_⟩
        have := arU_blk hbl
        rwa [List.length_map, powsV_len] at this
  · obtain ⟨g1, g2, g3, g4, g5, g6⟩ := stages_ok (stages_facts hr).1 h6
    have hp1 : 1 ≤ s.st.R * s.st.M := by have := Int.mul_le_mul (show 1 ≤ s.st.R by omega) g4 (by omega) (by omega); omega
    have hp2 := prod_bound g3 hp1 g5 g6
    have hM : s.st.M ≤ 4096 := prod_bound (show 1 ≤ s.st.R by omega) g4 rfl hp2
    rw [Int.mul_comm] at hp1 hp2
    simp only [wps, h3]
    rw [wI_ (n := s.st.M * s.st.R) (by omega) (by omega)]
    obtain ⟨R, hR⟩ := Int.eq_ofNat_of_zero_le (show 0 ≤ s.st.R by omega)
    obtain ⟨M', hM'⟩ := Int.eq_ofNat_of_zero_le (show 0 ≤ s.st.M by omega)
    generalize hw : (baseV p l[k] inv s).1 = w at hb1 ⊢
    have e1 : (s.st.M * s.st.R).toNat = M' * R := by rw [hR, hM', ← Int.natCast_mul, Int.toNat_natCast]
    have e2 : s.st.M * s.st.R = ((M' * R : Nat) : Int) := by rw [hR, hM', Int.natCast_mul]
    rw [hR, hM'] at hp1 hp2
    rw [e1, zeroC_one, hR, hM', Int.toNat_natCast, Int.toNat_natCast, if_neg (by simp)]
    refine ⟨⟨by decide, by omega, by omega, by omega, rfl⟩, ?_⟩
    refine wp_loop (fun st S' m => ∃ j : Nat, st = [.slice (some ⟨S2.length, 0, none⟩) (j * R) (M' * R), vU (powM p w j)] ∧ j ≤ M' ∧ m = M' - j ∧ S2 ++ [.cells ((rowsV p w R j).map (.int .u64) ++ List.replicate ((M' - j) * R) (.int .u64 0)) 22 none] <+: S') ?_ M' _ _
      ⟨0, by rw [powM_zero w hk]; simp, by omega, by omega, by simp [rowsV]⟩
    rintro st S' m ⟨j, rfl, hj, rfl, hp⟩
    have hp' := pre_of_add hp
    have hb5 := pre_get hp' hb3
    have hlen := rowsV_len p w R j
    have hbl := pre_get hp get_new
    have h7 := h5.trans hp'
    rcases Nat.lt_or_ge j M' with h8 | h8
    · have h9 : j * R + R ≤ M' * R := by rw [← Nat.succ_mul]; exact Nat.mul_le_mul_right _ h8
      have hm := mul_w (p := p) (powM_range p w j) hb1
      rw [mulF_powM1] at hm
      have hpw : powersV p (powM p w j) (R : Int) = (powsV p (powM p w j) R, 0) := by unfold powersV; rw [if_pos hk, if_neg (by omega), Int.toNat_natCast]
      simp only [wps, cell_blk hb5, hR, hM', hm]
      rw [show (M' : Int) * R = ((M' * R : Nat) : Int) by rw [Int.natCast_mul], wI_ (n := ((M' * R : Nat) : Int)) (by omega) (by omega)]
      refine ⟨fun h10 => ?_, fun h10 => by omega⟩
      refine (powers_w (p := p) (a := powM p w j) (powM_range p w j)).use ?_
      rintro _ S3 h11 ⟨b, k', rfl, hpa, hpb⟩
      rw [hpw] at hpa hpb ⊢
      obtain ⟨rfl, hk', hpc⟩ := hpb rfl
      simp only [wps, powsV_len]
      refine rdN_ar hpc (by rw [List.length_map, powsV_len]) ?_
      have hbl2 := pre_get h11 hbl
      refine wp_app_in hbl2 h9 ?_ (by simp [leafV]) ?_
      · simp only [List.length_map, powsV_len, List.length_append, List.length_replicate, hlen]
        have : (M' - j) * R = M' * R - j * R := Nat.sub_mul ..
        omega
      · simp only [wps]
        refine ⟨M' - (j + 1), by omega, j + 1, by rw [Nat.succ_mul], by omega, rfl, ?_⟩
        have e4 : splice ((rowsV p w R j).map (.int .u64) ++ List.replicate ((M' - j) * R) (.int .u64 0)) (j * R) ((powsV p (powM p w j) R).map (.int .u64)) = (rowsV p w R (j + 1)).map (.int .u64) ++ List.replicate ((M' - (j + 1)) * R) (.int .u64 0) := by
          have e5 : (M' - j) * R - R = (M' - (j + 1)) * R := by rw [← Nat.sub_one_mul, Nat.sub_sub]
          unfold splice
          rw [rowsV, List.take_append_of_le_length (by simp [hlen]), List.take_of_length_le (by simp [hlen]), List.drop_append, List.drop_of_length_le (by simp [hlen])]
          simp [hlen, powsV_len, e5]
        rw [e4]
        exact pre_top (hp.trans h11)
    · obtain rfl : j = M' := by omega
      simp only [wps, cell_blk hb5, hR, hM']
      rw [show (j : Int) * R = ((j * R : Nat) : Int) by rw [Int.natCast_mul], wI_ (n := ((j * R : Nat) : Int)) (by omega) (by omega)]
      refine ⟨fun h10 => by omega, fun h10 => ?_⟩
      refine ⟨h7, _, _, by rw [hlen], ?_⟩
      rw [Nat.sub_self, Nat.zero_mul, List.replicate_zero, List.append_nil] at hbl
      exact arU_blk hbl
end Go.AM
set_option linter.unusedVariables false
set_option linter.unusedSimpArgs false
namespace Go.AM
open Go Go.Proofs.YtcilfgedcnehfaaGreatDoor
theorem steps_tail {inv : Bool} {k : Int} {b sa : Option Addr} {sts : List Sg} {nl q n1 : Nat} {S0 S : St} {dn : List Stp} {Q : Nat × List Value → St → Prop}
    (h : Ap S0 none S sa q 96 5 (dn.flatMap eStp)) (hr : Ar S b nl 3 eSg sts) (hne : ∀ x, b = some x → sa ≠ some ⟨x.block, 0, none⟩)
    (hn : S[n1]? = some (.cells [vI k, vB true, vI 0, vI 0, vI 0] 96 none)) (hk : 0 ≤ k ∧ k < 1000) (hsz : dn.length + sts.length + 1 ≤ 100000)
    (hq : ∀ sa' q' S', Ap S0 none S' sa' q' 96 5 ((dn ++ sts.map (stg k) ++ (if inv = true then [tw k] else [])).flatMap eStp) → Q (0, [.slice sa' q' q', vI (k + 1)]) S') :
    WP (k_plan_Steps_1 inv k ⟨b, nl, nl⟩ n1 (0, [.slice sa q q])) S Q := by
  have hnl := hr.1
  unfold k_plan_Steps_1
  simp only [wps]
  refine wp_loop (fun st S' m => ∃ (j : Nat) (sa' : Option Addr) (q' : Nat), st = [.slice sa' q' q', vI j] ∧ j ≤ nl ∧ m = nl - j ∧ Ap S sa S' sa' q' 96 5 ((dn ++ (sts.take j).map (stg k)).flatMap eStp)) ?_ nl _ _
    ⟨0, sa, q, rfl, by omega, by omega, by simpa using h.start⟩
  rintro st S' m ⟨j, sa', q', rfl, hj, rfl, ha⟩
  have hcnt := ha.cnt (fun _ => rfl) (by decide)
  simp only [List.length_append, List.length_map, List.length_take] at hcnt
  simp only [wps]
  refine ⟨fun h3 => ⟨h3, ?_⟩, fun h3 => ?_⟩
  · have hj' : j < sts.length := by omega
    obtain ⟨a, rfl, c1, c2, c3⟩ := (ha.kAr hr hne).getSg hj'
    simp only [wps, c1, c2, c3]
    refine wp_push (ha.more (List.prefix_append _ _)) rfl (by omega) (by omega) rfl ?_
    intro b' S2 h6
    simp only [wps]
    rw [wI_ (n := (j : Int) + 1) (by omega) (by omega)]
    refine ⟨nl - (j + 1), by omega, j + 1, _, _, rfl, by omega, rfl, ?_⟩
    have e : (dn ++ (sts.take (j + 1)).map (stg k)).flatMap eStp = (dn ++ (sts.take j).map (stg k)).flatMap eStp ++ [vI k, vB false, vI sts[j].R, vI sts[j].L, vI sts[j].M] := by
      have e0 : (sts.take (j + 1)).map (stg k) = (sts.take j).map (stg k) ++ [stg k sts[j]] := by
        rw [List.take_add_one, List.getElem?_eq_getElem hj', List.map_append]; rfl
      rw [e0, ← List.append_assoc, List.flatMap_append]; rfl
    rw [e]; exact h6
  · rw [List.take_of_length_le (by omega)] at ha
    have hb := ha.cells hn
    rw [wI_ (n := k + 1) (by omega) (by omega)]
    simp only [wps, cell_blk hb]
    refine ⟨fun hi => ?_, fun hi => ?_⟩
    · refine wp_push ha rfl (by omega) (by omega) rfl ?_
      intro b' S2 h6
      simp only [wps]
      refine hq _ _ _ ?_
      rw [hi, if_pos rfl]
      have := h.trans (h.start.trans h6)
      simpa [eStp, tw] using h.trans h6
    · refine hq _ _ _ ?_
      rw [hi, if_neg (by simp), List.append_nil]
      exact h.trans ha
theorem steps_w {p : Int} {S : St} {axes : Option Addr} {n c : Nat} {l : List Ax} (h : Ar S axes n 2 eAx l) (hl : n ≤ 8796093022208) (inv : Bool) :
    WP (g_plan_Steps [vU p, .slice axes n c, vB inv]) S fun v S' => ∃ a, v = vT [.slice a (stepsV p l inv).1.length (stepsV p l inv).1.length, vI (stepsV p l inv).2] ∧ Ap S none S' a (stepsV p l inv).1.length 96 5 ((stepsV p l inv).1.flatMap eStp) := by
  have hn := h.1
  rw [g_plan_Steps_eq]
  simp only [wps]
  refine (grid_w h hl).use ?_
  rintro _ S1 h1 rfl
  simp only [wps]
  unfold stepsV
  refine ⟨fun h2 => by rw [if_neg h2]; exact ⟨none, rfl, Ap.nil.more h1⟩, fun h2 => ?_⟩
  rw [if_pos h2]
  obtain ⟨hk, hal, hall⟩ := grid_ok h2
  have h4 : n ≤ 4 := by have := (allV_len hal).2.1; simp [dimsOf] at this; omega
  have hbig := (steps_are inv l (fun a ha => (hall a ha).1) l 0 rfl).2
  generalize hG : stepsGo inv 0 l = G
  have hG' : stepsGo inv ((0 : Nat) : Int) l = G := hG
  rw [hG'] at hbig
  refine wp_loop (fun st S' m => ∃ (j : Nat) (sa : Option Addr) (q : Nat) (dn : List Stp), st = [.slice sa q q, vI j] ∧ j ≤ n ∧ m = n - j ∧ Ap S1 none S' sa q 96 5 (dn.flatMap eStp) ∧
    dn ++ stepsGo inv j (l.drop j) = G) ?_ n _ _ ⟨0, none, 0, [], rfl, by omega, by omega, .nil, by simpa using hG'⟩
  rintro st S' m ⟨j, sa, q, dn, rfl, hj, rfl, ho, hd⟩
  have hq := ho.cnt (fun _ => rfl) (by decide)
  simp only [wps]
  refine ⟨fun h3 => ⟨h3, ?_⟩, fun h3 => ?_⟩
  · have hj' : j < l.length := by omega
    obtain ⟨a, rfl, c1, c2⟩ := (h.mono (h1.trans ho.pre)).getAx hj'
    rw [List.drop_eq_getElem_cons hj', stepsGo] at hd
    have hst := stages_facts (hall _ (List.getElem_mem hj')).1
    have hbd : dn.length + (stagesV l[j].N).1.length + 2 ≤ 100000 := by
      have : (dn ++ _).length = _ := congrArg List.length hd
      simp only [List.length_append, List.length_map] at this
      omega
    simp only [wps, c1, c2]
    refine stages_w.mono ?_
    rintro _ S2 ⟨b, rfl, hsa⟩
    have h5 := hsa.pre
    have hb1 := pre_get h5 get_new
    have ho2 := ho.more (pre_of_add h5)
    have har := hsa.ar (fun _ => rfl) (by decide)
    have hfr : ∀ x, b = some x → S'.length < x.block := fun x hx => by have := hsa.new hx; simp at this; omega
    simp only [wps, hst.1]
    have hb2 : ∀ o, (S2 ++ [o])[S'.length]? = _ := fun o => get_add hb1
    have fin : ∀ (sa' : Option Addr) (q' : Nat) (S' : St), Ap S1 none S' sa' q' 96 5 ((dn ++ (if l[j].neg = true ∧ inv = false then [tw j] else []) ++ (stagesV l[j].N).1.map (stg j) ++ (if inv = true then [tw j] else [])).flatMap eStp) →
        ∃ n', n' < n - j ∧ ∃ (j_1 : Nat) (sa : Option Addr) (q : Nat) (dn : List Stp), [Value.slice sa' q' q', vI (j + 1)] = [Value.slice sa q q, vI ↑j_1] ∧ j_1 ≤ n ∧ n' = n - j_1 ∧ Ap S1 none S' sa q 96 5 (List.flatMap eStp dn) ∧ dn ++ stepsGo inv ↑j_1 (List.drop j_1 l) = G := by
      intro sa' q' S' hap
      refine ⟨n - (j + 1), by omega, j + 1, sa', q', _, by simp, by omega, rfl, hap, ?_⟩
      rw [← hd, show ((j : Int) + 1) = ((j + 1 : Nat) : Int) by omega]
      simp only [List.append_assoc]
    simp only [wps, fun o => cell_blk (hb2 o)]
    refine ⟨fun h6 => ⟨fun h7 => ?_, fun h7 => ?_⟩, fun h6 => ?_⟩
    · have hin : ∀ x, b = some x → sa ≠ some ⟨x.block, 0, none⟩ := fun x hx e => by
        have := hfr x hx
        have h9 := ho.lt e
        omega
      have hm := ho2.more (List.prefix_append S2 [.cells [vI (j : Int), vB true, vI 0, vI 0, vI 0] 96 none])
      refine wp_push (bt := 40) hm.start rfl (by omega) (by omega) rfl ?_
      intro b' S3 h8
      have h9 := hm.trans h8
      have e9 : dn.flatMap eStp ++ [vI (j : Int), vB true, vI 0, vI 0, vI 0] = (dn ++ [tw j]).flatMap eStp := by simp [eStp, tw]
      rw [e9] at h9
      refine steps_tail (sts := (stagesV l[j].N).1) h9 (h8.kAr (har.mono (List.prefix_append _ _)) hin) (fun x hx e => ?_) (h8.cells get_new) ⟨by omega, by omega⟩ (by simp; omega) ?_
      · rcases h8.at_ with h10 | ⟨c', h10, h11⟩
        · rw [h10] at e; exact hin x hx e
        · rw [h10] at e
          have h12 := hsa.below hx
          simp at e h11
          omega
      · intro sa' q' S' hap
        exact fin sa' q' S' (by rw [if_pos ⟨h6, h7⟩]; exact hap)
    · have h8 := ho2.more (List.prefix_append S2 [.cells [vI (j : Int), vB true, vI 0, vI 0, vI 0] 96 none])
      refine steps_tail (sts := (stagesV l[j].N).1) h8 (har.mono (List.prefix_append _ _)) (fun x hx e => ?_) get_new ⟨by omega, by omega⟩ (by omega) ?_
      · have := hfr x hx
        have h9 := ho.lt e
        omega
      · intro sa' q' S' hap
        exact fin sa' q' S' (by rw [if_neg (by simp [h7]), List.append_nil]; exact hap)
    · have h8 := ho2.more (List.prefix_append S2 [.cells [vI (j : Int), vB true, vI 0, vI 0, vI 0] 96 none])
      refine steps_tail (sts := (stagesV l[j].N).1) h8 (har.mono (List.prefix_append _ _)) (fun x hx e => ?_) get_new ⟨by omega, by omega⟩ (by omega) ?_
      · have := hfr x hx
        have h9 := ho.lt e
        omega
      · intro sa' q' S' hap
        exact fin sa' q' S' (by rw [if_neg (by simp [h6]), List.append_nil]; exact hap)
  · rw [List.drop_eq_nil_of_le (by omega), stepsGo, List.append_nil] at hd
    subst hd
    rw [← hq]
    exact ⟨sa, rfl, (Ap.nil.more h1).trans ho⟩
end Go.AM
set_option linter.unusedVariables false
set_option linter.unusedSimpArgs false
namespace Go.AM
open Go Go.Proofs.YtcilfgedcnehfaaGreatDoor
theorem make_w {p : Int} {S : St} {axes : Option Addr} {n c : Nat} {l : List Ax} (h : Ar S axes n 2 eAx l) (hl : n ≤ 8796093022208) (inv : Bool) :
    Sp (g_plan_Make [vU p, .slice axes n c, vB inv]) S fun v S' => ∃ a, v = vT [vA [vI (makeV p l inv).1.N, vI (makeV p l inv).1.T, vI (makeV p l inv).1.W, .slice a (makeV p l inv).1.st.length (makeV p l inv).1.st.length], vI (makeV p l inv).2] ∧
      Ar S' a (makeV p l inv).1.st.length 5 eStp (makeV p l inv).1.st := by
  unfold Sp
  have hn := h.1
  rw [g_plan_Make_eq]
  simp only [wps]
  refine (steps_w (h.mono (List.prefix_append _ _)) hl inv).mono ?_
  rintro _ S1 ⟨a, rfl, hap⟩
  have h1 := hap.pre
  have h0 := pre_of_add h1
  have hb := pre_get h1 get_new
  have har := hap.ar (fun _ => rfl) (by decide)
  unfold makeV
  unfold stepsV at hap har ⊢
  by_cases h2 : gridV p l = 0
  · simp only [if_pos h2] at hap har ⊢
    obtain ⟨hk, hal, hall⟩ := grid_ok h2
    have h4 : n ≤ 4 := by have := (allV_len hal).2.1; simp [dimsOf] at this; omega
    obtain ⟨hst, hsl⟩ := steps_are inv l (fun a ha => (hall a ha).1) l 0 rfl
    simp only [wps]
    refine (dims_w (h.mono h0) hl).use ?_
    rintro _ S2 h5 ⟨a2, k2, rfl, hd⟩
    simp only [wps, (all_w hd).wp, hal]
    have hN : (allV (dimsOf l)).1 = nV l := rfl
    rw [hN]
    generalize hG : stepsGo inv 0 l = G at hap har ⊢
    have hst : ∀ s ∈ G, IsStep l s := by rw [← hG]; exact hst
    have hsl : G.length ≤ l.length * 4098 := by rw [← hG]; exact hsl
    refine wp_loop (fun st S' m => ∃ (j : Nat) (t : Int), st = [vI j] ∧ j ≤ G.length ∧ m = G.length - j ∧ S2 ++ [.cells [vI (nV l), vI t, vI 0, .slice a G.length G.length] 63 none] <+: S' ∧ 0 ≤ t ∧ t ≤ 4096 ∧
      mkGo p l inv 0 G = mkGo p l inv t (G.drop j)) ?_ G.length _ _ ⟨0, 0, rfl, by omega, by omega, List.prefix_rfl, by omega, by omega, by simp⟩
    rintro st S' m ⟨j, t, rfl, hj, rfl, hp, ht0, ht1, hg⟩
    have h6 := (h5.trans (pre_of_add hp))
    have hbl := pre_get hp get_new
    simp only [wps]
    refine ⟨fun h3 => ⟨h3, ?_⟩, fun h3 => ?_⟩
    · have hj' : j < G.length := by omega
      obtain ⟨x, rfl, c1, c2, c3, c4, c5⟩ := (har.mono h6).getStp hj'
      have hs := hst _ (List.getElem_mem hj')
      have hs0 := stepV_ok p l _ h2 hs
      have htl := tab_len inv h2 hs
      simp only [wps, c1, c2, c3, c4, c5]
      refine (table_w (h.mono ((h0.trans h6).trans (List.prefix_append _ _))) hl inv G[j]).use ?_
      rintro _ S3 h7 ⟨b, k, rfl, _⟩
      have hb2 := pre_get (pre_of_add h7) hbl
      unfold tableV
      simp only [hs0, if_true]
      simp only [wps, cell_blk hb2, hb2]
      refine ⟨by simp, G.length - (j + 1), by omega, j + 1, _, by rw [wI_ (n := (j : Int) + 1) (by omega) (by omega)]; simp, by omega, rfl, pre_top (hp.trans (pre_of_add h7)), ?_, ?_, ?_⟩
      · split <;> omega
      · split <;> omega
      · rw [List.drop_eq_getElem_cons hj', mkGo] at hg
        exact hg
    · rw [List.drop_eq_nil_of_le (by omega), mkGo] at hg
      have hn1 := nV_range h2
      have hb3 := pre_get (h6) hb
      have hlt1 := pre_lt hbl
      have hlt2 := pre_lt hb3
      have hne : S.length < S2.length := pre_lt (pre_get h5 hb)
      rw [wI_ (n := nV l + 6) (by omega) (by omega), wI_ (n := 2 * (nV l + 6)) (by omega) (by omega)]
      have g1 : ∀ o, (S'.set S2.length o)[S2.length]? = some o := fun o => by rw [List.getElem?_set_self hlt1]
      have g2 : ∀ o, (S'.set S2.length o)[S.length]? = some _ := fun o => by rw [List.getElem?_set_ne (by omega)]; exact hb3
      have g3 : ∀ o o', ((S'.set S2.length o).set S.length o')[S.length]? = some o' := fun o o' => by rw [List.getElem?_set_self (by simpa using hlt2)]
      simp only [wps, cell_blk hbl, hbl, g2, fun o c t g => cell_blk (g1 (AObj.cells c t g)) o]
      have g4 : ∀ c t g o, St.cell (S'.set S2.length (AObj.cells c t g)) ⟨S2.length, o, none⟩ = c[o]? := fun c t g o => cell_blk (g1 _) o
      have g5 : ∀ o' c t g o, St.cell ((S'.set S2.length o').set S.length (AObj.cells c t g)) ⟨S.length, o, none⟩ = c[o]? := fun o' c t g o => cell_blk (g3 _ _) o
      simp only [wps, g4, g2, g5]
      rw [wI_ (n := 2 * (nV l + 6) + t) (by omega) (by omega)]
      refine ⟨by omega, pre_set' (pre_set' (h0.trans h6) (by omega)) (Nat.le_refl _), a, ?_, ?_⟩
      · rw [hg]
      · refine ((har.mono h6).set (fun x hx => ?_)).set fun x hx => ?_
        · have := hap.below hx
          have := h5.length_le
          omega
        · have := hap.new hx
          simp at this; omega
  · simp only [if_neg h2] at hap har ⊢
    have hlt := pre_lt hb
    have g5 : ∀ c t g o, St.cell (S1.set S.length (AObj.cells c t g)) ⟨S.length, o, none⟩ = c[o]? := fun c t g o => cell_blk (List.getElem?_set_self hlt) o
    simp only [wps, hb, g5]
    refine ⟨fun _ => ⟨pre_set' h0 (Nat.le_refl _), none, rfl, .nil⟩, fun h => absurd h h2⟩
end Go.AM
set_option linter.unusedVariables false
set_option linter.unusedSimpArgs false
namespace Go.AM
open Go Go.Proofs.YtcilfgedcnehfaaGreatDoor
end Go.AM
set_option linter.unusedVariables false
set_option linter.unusedSimpArgs false
namespace Go.AM
open Go Go.Proofs.YtcilfgedcnehfaaGreatDoor
theorem in_w {p : Int} {S : St} {a : Option Addr} {n c : Nat} {l : List Int} (h : Ar S a n 1 eU l) (hn : n ≤ 140737488355328) : Gv (g_field_In [vU p, .slice a n c]) S (vB (inV p l)) := by
  refine .of ?_
  have hl := h.1
  rw [g_field_In_eq]
  simp only [wps, known_w]
  refine wp_loop (fun st S' m => ∃ j : Nat, st = [vI j] ∧ j ≤ n ∧ m = n - j ∧ S' = S ∧ (l.take j).all (fun a => decide (a < p)) = true) ?_ n _ _ ⟨0, rfl, by omega, by omega, rfl, by simp⟩
  rintro st S' m ⟨j, rfl, hj, rfl, rfl, hg⟩
  simp only [wps]
  unfold inV
  refine ⟨fun h3 => ⟨h3, ?_⟩, fun h3 => ?_⟩
  · have hj' : j < l.length := by omega
    obtain ⟨x, rfl, c1⟩ := h.getU hj'
    simp only [wps, c1]
    refine ⟨fun h4 => ?_, fun h4 => ⟨n - (j + 1), by omega, j + 1, by rw [wI_ (n := (j : Int) + 1) (by omega) (by omega)]; simp, by omega, rfl, ?_⟩⟩
    · have : l.all (fun a => decide (a < p)) = false := by
        rw [List.all_eq_false]
        exact ⟨l[j], List.getElem_mem hj', by simp; omega⟩
      rw [this]; simp
    · rw [List.take_add_one, List.getElem?_eq_getElem hj', List.all_append, hg]
      simp; omega
  · rw [List.take_of_length_le (by omega)] at hg
    rw [hg]; simp
theorem between_w {n a b : Int} : g_plan_between [vI n, vI a, vI b] = M.ret (vB (decide (a ≤ n ∧ n ≤ b))) := by
  refine wp_eq fun S => ?_
  rw [g_plan_between_eq]
  simp only [wps]
  refine ⟨fun h => ?_, fun h => ?_⟩
  · by_cases h2 : n ≤ b <;> simp [h, h2]
  · simp [h]
theorem pc1_w {S : St} {q : Req} {a1 a4 a5 : Option Addr} {c1 c4 c5 b : Nat} {n : Int} {t : TypeId} (hb : S[b]? = some (.cells [vI n] t none)) :
    Sp (g_plan_Check_1 [qv q a1 c1 a4 c4 a5 c5, .pointer (some (ad b 0))]) S fun v S' => v = vB ((q.X.length : Int) != wI (n * q.batch)) := by
  unfold Sp
  rw [g_plan_Check_1_eq]
  have hb2 : ∀ o, (S ++ [o])[b]? = _ := fun o => get_add hb
  simp only [wps, fun o => cell_blk (hb2 o)]
  exact List.prefix_append _ _
theorem pc2_w {S : St} {q : Req} {a1 a4 a5 : Option Addr} {c1 c4 c5 : Nat} (h : QA S q a1 a4 a5) :
    Sp (g_plan_Check_2 [qv q a1 c1 a4 c4 a5 c5]) S fun v S' => v = vB (!inV q.P q.X) := by
  unfold Sp
  rw [g_plan_Check_2_eq]
  simp only [wps, (in_w (h.x.mono (List.prefix_append S [AObj.cells (qc q a1 c1 a4 c4 a5 c5) 26 none])) h.b2).wp]
  exact List.prefix_append _ _
theorem pc3_w {S : St} {q : Req} {a1 a4 a5 : Option Addr} {c1 c4 c5 : Nat} :
    Sp (g_plan_Check_3 [qv q a1 c1 a4 c4 a5 c5]) S fun v S' => v = vB (!decide (1 ≤ q.seeds.length ∧ q.seeds.length ≤ 4)) := by
  unfold Sp
  rw [g_plan_Check_3_eq]
  simp only [wps, between_w]
  refine ⟨List.prefix_append _ _, ?_⟩
  have e : (1 ≤ (q.seeds.length : Int) ∧ (q.seeds.length : Int) ≤ 4) = (1 ≤ q.seeds.length ∧ q.seeds.length ≤ 4) := propext (by omega)
  simp only [e]
theorem check_w {C : FuncId → List Value → M Value} {S : St} {q : Req} {a1 a4 a5 : Option Addr} {c1 c4 c5 : Nat} (h : QA S q a1 a4 a5) :
    Sp (g_plan_Check C [qv q a1 c1 a4 c4 a5 c5]) S fun v S' => v = vI (checkV q) := by
  unfold Sp
  rw [g_plan_Check_eq]
  have hk1 : ∀ S1 Q, Q (vI 1) S1 → WP (k_plan_Check_1 C S.length (1, [vI 1])) S1 fun a S' => WP (oneV a) S' Q := by
    intro S1 Q hq
    unfold k_plan_Check_1
    simp only [wps]; exact hq
  have hp : S <+: S ++ [AObj.cells (qc q a1 c1 a4 c4 a5 c5) 26 none] := List.prefix_append _ _
  have key : (1 ≤ q.batch ∧ q.batch ≤ 16 ∧ 0 ≤ q.retry ∧ q.retry ≤ 8 ∧ 0 ≤ q.again ∧ q.again ≤ 8) → WP (k_plan_Check_1 C S.length (0, [])) (S ++ [AObj.cells (qc q a1 c1 a4 c4 a5 c5) 26 none]) fun a S' => WP (oneV a) S' fun v S' => S <+: S' ∧ v = vI (checkV q) := by
    intro hc
    have hb : ∀ k, St.cell (S ++ [AObj.cells (qc q a1 c1 a4 c4 a5 c5) 26 none]) ⟨S.length, k, none⟩ = (qc q a1 c1 a4 c4 a5 c5)[k]? := fun k => cell_blk get_new k
    unfold checkV k_plan_Check_1
    rw [if_pos hc]
    simp only [wps]
    refine (grid_w (h.ax.mono hp) h.b1).use ?_
    rintro _ S1 h1 rfl
    have hb1 := pre_get h1 get_new
    simp only [wps, cell_blk hb1]
    refine ⟨fun h2 => ⟨hp.trans h1, by rw [if_neg h2]⟩, fun h2 => ?_⟩
    rw [if_pos h2]
    obtain ⟨hk, hal, hall⟩ := grid_ok h2
    have hn1 := nV_range h2
    refine (dims_w (h.ax.mono (hp.trans h1)) h.b1).use ?_
    rintro _ S2 h3 ⟨b, k, rfl, hd⟩
    have hN : (allV (dimsOf q.axes)).1 = nV q.axes := rfl
    have hb2 := get_add (t := [AObj.cells [vI (nV q.axes)] 3 none]) (pre_get h3 hb1)
    simp only [wps, (all_w hd).wp, hal, hN]
    have hS2 := hp.trans (h1.trans h3)
    have hqa := h.mono (hS2.trans (List.prefix_append S2 [AObj.cells [vI (nV q.axes)] 3 none]))
    have hnb : nV q.axes * q.batch ≤ 4096 * 16 := Int.mul_le_mul hn1.2 (by omega) (by omega) (by omega)
    have hnb0 : 0 ≤ nV q.axes * q.batch := Int.mul_nonneg (by omega) (by omega)
    -- the first look
    have hql : S[S.length]? = none := by simp
    have hbq := get_add (t := [AObj.cells [vI (nV q.axes)] 3 none]) (pre_get (h1.trans h3) get_new)
    refine wp_round ?_
    have hx2 : ∀ o o' k, St.cell (S2 ++ [o] ++ [o']) ⟨S.length, k, none⟩ = (qc q a1 c1 a4 c4 a5 c5)[k]? := fun o o' k => cell_blk (get_add (get_add (pre_get (h1.trans h3) get_new))) k
    simp only [wps, Nat.reduceMul, Int.reduceLT, Int.reduceLE, Nat.reduceBEq, hx2]
    refine (pc1_w (get_add get_new)).use ?_
    rintro _ S3 h4 rfl
    simp only [wps, cell_blk (pre_get h4 get_new)]
    rw [wI_ (n := nV q.axes * q.batch) (by omega) (by omega)]
    refine ⟨fun h5 => ⟨(hS2.trans (pre_of_add (pre_of_add h4))), by rw [if_neg h5]⟩, fun h5 => ?_⟩
    rw [if_pos h5, show wI (0 + 1) = 1 from rfl]
    have hq3 := h.mono (hS2.trans (pre_of_add (pre_of_add h4)))
    have hb3 := pre_get h4 (get_add (get_add (pre_get (h1.trans h3) get_new)))
    have hx3 : ∀ o k, St.cell (S3 ++ [o]) ⟨S.length, k, none⟩ = (qc q a1 c1 a4 c4 a5 c5)[k]? := fun o k => cell_blk (get_add hb3) k
    have hS3 := hS2.trans (pre_of_add (pre_of_add h4))
    -- the second look
    refine wp_round ?_
    simp only [wps, Nat.reduceMul, Int.reduceLT, Int.reduceLE, Nat.reduceBEq, hx3]
    refine (pc2_w (hq3.mono (List.prefix_append _ _))).use ?_
    rintro _ S4 h6 rfl
    simp only [wps, cell_blk (pre_get h6 get_new)]
    have hS4 := hS3.trans (pre_of_add h6)
    refine ⟨fun h7 => ⟨hS4, by rw [if_neg (by simp [h7])]⟩, fun h7 => ?_⟩
    rw [if_pos h7, show wI (1 + 1) = 2 from rfl]
    have hb4 := pre_get h6 (get_add (t := [AObj.cells [Value.func (Fn.func 77) (ar ([])) (ar ([])), vI 7] 115 none]) hb3)
    have hx4 : ∀ o k, St.cell (S4 ++ [o]) ⟨S.length, k, none⟩ = (qc q a1 c1 a4 c4 a5 c5)[k]? := fun o k => cell_blk (get_add hb4) k
    -- the third look
    refine wp_round ?_
    simp only [wps, Nat.reduceMul, Int.reduceLT, Int.reduceLE, Nat.reduceBEq, hx4]
    refine pc3_w.use ?_
    rintro _ S5 h8 rfl
    simp only [wps, cell_blk (pre_get h8 get_new)]
    have hS5 := hS4.trans (pre_of_add h8)
    refine ⟨fun h9 => ⟨hS5, by rw [if_neg h9]⟩, fun h9 => ?_⟩
    rw [if_pos h9, show wI (2 + 1) = 3 from rfl]
    refine wp_round ?_
    simp only [wps, Int.reduceLT]
    exact hS5
  simp only [wps, between_w]
  have one : ¬ (1 ≤ q.batch ∧ q.batch ≤ 16 ∧ 0 ≤ q.retry ∧ q.retry ≤ 8 ∧ 0 ≤ q.again ∧ q.again ≤ 8) → checkV q = 1 := fun h => by unfold checkV; rw [if_neg h]
  refine ⟨fun h1 => hk1 _ _ ⟨hp, by rw [one (by omega)]⟩, fun h1 => ⟨fun h2 => hk1 _ _ ⟨hp, by rw [one (by omega)]⟩, fun h2 => ⟨fun h3 => hk1 _ _ ⟨hp, by rw [one (by omega)]⟩, fun h3 => key (by omega)⟩⟩⟩
end Go.AM
set_option linter.unusedVariables false
set_option linter.unusedSimpArgs false
namespace Go.AM
open Go Go.Proofs.YtcilfgedcnehfaaGreatDoor
theorem r07dims_w {S : St} {axes : Option Addr} {n c : Nat} {l : List Ax} (h : Ar S axes n 2 eAx l) (hl : n ≤ 8796093022208) :
    WP (g_r07_Dims [.slice axes n c]) S fun v S' => ∃ a, v = .slice a n n ∧ Ap S none S' a n 3 1 ((dimsOf l).flatMap eI) := by
  have hn := h.1
  rw [g_r07_Dims_eq]
  simp only [wps]
  refine wp_loop (fun st S' m => ∃ (j : Nat) (a : Option Addr), st = [.slice a j j, vI j] ∧ j ≤ n ∧ m = n - j ∧ Ap S none S' a j 3 1 (((dimsOf l).take j).flatMap eI)) ?_ n _ _ ⟨0, none, rfl, by omega, by omega, .nil⟩
  rintro st S' m ⟨j, a, rfl, hj, rfl, ha⟩
  simp only [wps]
  refine ⟨fun h3 => ⟨h3, ?_⟩, fun h3 => ?_⟩
  · have hj' : j < l.length := by omega
    obtain ⟨x, rfl, c1, c2⟩ := (h.mono ha.pre).getAx hj'
    simp only [wps, c1, c2]
    refine wp_push (bt := 8) (ha.more (List.prefix_append _ _)) rfl (by omega) (by omega) rfl ?_
    intro b S2 h4
    simp only [wps]
    refine ⟨n - (j + 1), by omega, j + 1, _, by rw [wI_ (n := (j : Int) + 1) (by omega) (by omega)]; rfl, by omega, rfl, ?_⟩
    rw [List.take_add_one, List.flatMap_append]
    simpa [dimsOf, hj', eI] using h4
  · obtain rfl : j = n := by omega
    rw [List.take_of_length_le (by simp [dimsOf]; omega)] at ha
    exact ⟨a, rfl, ha⟩
theorem r05all_w {S : St} {dims : Option Addr} {n c : Nat} {l : List Int} (h : Ar S dims n 1 eI l) : Gv (g_r05_All [.slice dims n c]) S (vT [vI (allV l).1, vI (allV l).2]) := by
  refine .of ?_
  rw [g_r05_All_eq]
  have hn := h.1
  simp only [wps]
  refine ⟨fun h1 => by simp [allV, show l.length < 1 by omega], fun h1 => ⟨fun h2 => by simp [allV, show 4 < l.length by omega], fun h2 => ?_⟩⟩
  have e : allV l = rallGo 1 l := by unfold allV; rw [if_neg (by omega), rall_all _ _ (by omega)]
  rw [e]
  refine wp_loop (fun st S' m => ∃ (i : Nat) (x : Int), st = [.int .i64 x, .int .i64 i] ∧ S' = S ∧ i ≤ n ∧ m = n - i ∧ 1 ≤ x ∧ x ≤ 4096 ^ i ∧ rallGo 1 l = rallGo x (l.drop i)) ?_ n _ _ ⟨0, 1, rfl, rfl, by omega, by omega, by omega, by decide, by simp⟩
  rintro st S' m ⟨i, x, rfl, rfl, hi, rfl, h3, h4, hg⟩
  simp only [wps]
  refine ⟨fun h5 => ⟨h5, ?_⟩, fun h5 => ?_⟩
  · obtain ⟨a, rfl, hc⟩ := h.getI (i := i) (by omega)
    rw [List.drop_eq_getElem_cons (by omega), rallGo] at hg
    simp only [wps, hc]
    refine ⟨fun h6 => ?_, fun h6 => ⟨fun h7 => ?_, fun h7 => ?_⟩⟩
    · rw [if_pos (.inl h6)] at hg; simp [hg, wps]
    · rw [if_pos (.inr h7)] at hg; simp [hg, wps]
    · rw [if_neg (by omega)] at hg
      have hb1 : 1 ≤ x * l[i] := by
        have := Int.mul_le_mul h3 (show 1 ≤ l[i] by omega) (by omega) (by omega)
        simpa using this
      have hb2 : x * l[i] ≤ 4096 ^ i * 4096 := Int.mul_le_mul h4 (by omega) (by omega) (Int.pow_nonneg (by omega))
      have hb3 : (4096 : Int) ^ i * 4096 ≤ 4096 ^ 3 * 4096 := Int.mul_le_mul_of_nonneg_right (by
        have : i ≤ 3 := by omega
        have h9 : i = 0 ∨ i = 1 ∨ i = 2 ∨ i = 3 := by omega
        rcases h9 with rfl | rfl | rfl | rfl <;> decide) (by omega)
      rw [wI_ (n := x * l[i]) (by omega) (by omega), wI_ (n := (i : Int) + 1) (by omega) (by omega)]
      exact ⟨n - (i + 1), by omega, i + 1, _, rfl, by omega, rfl, hb1, by rw [Int.pow_succ]; exact hb2, hg⟩
  · rw [List.drop_eq_nil_iff.2 (by omega), rallGo] at hg
    refine ⟨fun h6 => ?_, fun h6 => ?_⟩
    · rw [if_pos h6] at hg; rw [hg]
    · rw [if_neg h6] at hg; rw [hg]
theorem r07few_w {S : St} {axes : Option Addr} {n c : Nat} {l : List Ax} {m : Int} (h : Ar S axes n 2 eAx l) (hl : n ≤ 8796093022208) :
    Sp (g_r07_Few [.slice axes n c, vI m]) S fun v S' => v = vB (fewV l m) := by
  unfold Sp
  have hn := h.1
  rw [g_r07_Few_eq]
  simp only [wps]
  refine (r07dims_w h hl).mono ?_
  rintro _ S1 ⟨a, rfl, ha⟩
  simp only [wps, (r05all_w (ha.ar (fun _ => rfl) (by decide))).wp]
  unfold fewV
  refine ⟨fun h1 => ⟨fun h2 => ⟨ha.pre, ?_⟩, fun h2 => ⟨ha.pre, ?_⟩⟩, fun h1 => ⟨ha.pre, ?_⟩⟩
  · have : l.length ≤ 10 := by omega
    simp [h2, this]
  · have : l.length ≤ 10 := by omega
    simp [h2, this]
  · have : ¬ l.length ≤ 10 := by omega
    simp [this]
theorem r17few_w {S : St} {q : Req} {a1 a4 a5 : Option Addr} {c1 c4 c5 : Nat} {m : Int} (h : QA S q a1 a4 a5) (hm : 0 ≤ m ∧ m ≤ 1000) :
    Sp (g_r17_Few [qv q a1 c1 a4 c4 a5 c5, vI m]) S fun v S' => v = vB (few17 q m) := by
  unfold Sp
  rw [g_r17_Few_eq]
  simp only [wps]
  have hp : S <+: S ++ [AObj.cells (qc q a1 c1 a4 c4 a5 c5) 26 none] := List.prefix_append _ _
  refine (r07few_w (h.ax.mono hp) h.b1).use ?_
  rintro _ S1 h1 rfl
  simp only [wps, cell_blk (pre_get h1 get_new)]
  rw [wI_ (n := 4 * m) (by omega) (by omega)]
  have h2 := hp.trans h1
  unfold few17
  refine ⟨fun h3 => ⟨fun h4 => ⟨h2, ?_⟩, fun h4 => ⟨h2, ?_⟩⟩, fun h3 => ⟨h2, ?_⟩⟩
  · simp only [h3, h4, decide_true, Bool.true_and]
    congr 1
    exact decide_eq_decide.2 (by omega)
  · simp [h4]
  · simp [h3]
end Go.AM
set_option linter.unusedVariables false
set_option linter.unusedSimpArgs false
namespace Go.AM
open Go Go.Proofs.YtcilfgedcnehfaaGreatDoor
theorem mul_bnd {a b A B : Int} (h1 : 0 ≤ a) (h2 : a ≤ A) (h3 : 0 ≤ b) (h4 : b ≤ B) : 0 ≤ a * b ∧ a * b ≤ A * B := ⟨Int.mul_nonneg h1 h3, Int.mul_le_mul h2 h4 h3 (by omega)⟩
end Go.AM
set_option linter.unusedVariables false
set_option linter.unusedSimpArgs false
namespace Go.AM
open Go Go.Proofs.YtcilfgedcnehfaaGreatDoor
end Go.AM
set_option linter.unusedVariables false
set_option linter.unusedSimpArgs false
namespace Go.AM
open Go Go.Proofs.YtcilfgedcnehfaaGreatDoor
theorem rknown_w {p : Int} : g_r01_Known [vU p] = M.ret (vB (known p)) := by
  rw [g_r01_Known_eq]
  unfold known P0 P1 P2
  cases p == 18446744069414584321 <;> cases p == 998244353 <;> cases p == 2013265921 <;> rfl
theorem rred_w {p a : Int} (h : 0 ≤ a ∧ a < 18446744073709551616) : g_r01_Reduce [vU p, vU a] = M.ret (vU (red p a)) := by
  refine wp_eq fun S => ?_
  rw [g_r01_Reduce_eq, rknown_w]
  unfold red
  cases hk : known p with
  | false => simp [wps]
  | true =>
    have hp := known_pos hk
    simp only [wps]
    rw [Int.tmod_eq_emod_of_nonneg h.1]
    simp; omega
theorem plus_w {p a b : Int} (hp : 1 ≤ p ∧ p < 18446744073709551616) (ha : 0 ≤ a ∧ a < p) (hb : 0 ≤ b ∧ b < p) : g_r01_plus [vU p, vU a, vU b] = M.ret (vU ((a + b) % p)) := by
  refine wp_eq fun S => ?_
  rw [g_r01_plus_eq, wU_ (n := p - b) (by omega) (by omega)]
  simp only [wps]
  refine ⟨fun h => ?_, fun h => ?_⟩
  · rw [wU_ (by omega) (by omega)]
    have : (a + b) % p = a - (p - b) := by
      rw [show a + b = (a - (p - b)) + p by omega, Int.add_emod_right, Int.emod_eq_of_lt (by omega) (by omega)]
    simp [this]
  · rw [wU_ (by omega) (by omega), Int.emod_eq_of_lt (by omega) (by omega)]
theorem dbl (A p : Int) (q : Nat) : (A * (q : Int) % p + A * (q : Int) % p) % p = A * ((2 * q : Nat) : Int) % p := by
  rw [← Int.add_emod, ← Int.mul_add, show (q : Int) + (q : Int) = ((2 * q : Nat) : Int) by omega]
theorem rmul_w {p a b : Int} (h : 0 ≤ a ∧ a < 18446744073709551616) (g : 0 ≤ b ∧ b < 18446744073709551616) : g_r01_Mul [vU p, vU a, vU b] = M.ret (vU (mulF p a b)) := by
  refine wp_eq fun S => ?_
  rw [g_r01_Mul_eq, rknown_w]
  unfold mulF
  cases hk : known p with
  | false => simp [wps]
  | true =>
    have hp := known_pos hk
    simp only [wps]
    rw [Int.tmod_eq_emod_of_nonneg h.1, Int.tmod_eq_emod_of_nonneg g.1, if_pos trivial, Int.mul_emod]
    have ha0 := Int.emod_nonneg a (show p ≠ 0 by omega)
    have ha1 := Int.emod_lt_of_pos a (show 0 < p by omega)
    have hb0 := Int.emod_nonneg b (show p ≠ 0 by omega)
    have hb1 := Int.emod_lt_of_pos b (show 0 < p by omega)
    generalize a % p = A at ha0 ha1 ⊢
    generalize b % p = B at hb0 hb1 ⊢
    refine ⟨by omega, by omega, fun h1 => ⟨by omega, ?_⟩, fun h1 => ?_⟩
    · have hAB : 0 ≤ A * B := Int.mul_nonneg ha0 hb0
      have hAB2 : A * B ≤ 4294967296 * 4294967296 := Int.mul_le_mul (by omega) (by omega) hb0 (by omega)
      have hAB3 : A * B < 18446744073709551616 := by
        have : A * B ≤ 4294967295 * 4294967295 := Int.mul_le_mul (by omega) (by omega) hb0 (by omega)
        omega
      rw [wU_ hAB hAB3, Int.tmod_eq_emod_of_nonneg hAB]
    · obtain ⟨N, rfl⟩ := Int.eq_ofNat_of_zero_le hb0
      have hN : N < 2 ^ 64 := by omega
      refine wp_loop (fun st S' m => ∃ d : Nat, st = [vU ((N % 2 ^ d : Nat) : Int), vU (A * ((N / 2 ^ d : Nat) : Int) % p), vU ((2 ^ d / 2 : Nat) : Int), vI (64 - d)] ∧ d ≤ 64 ∧ d = m ∧ S' = S) ?_ 64 _ _
        ⟨64, by rw [Nat.mod_eq_of_lt hN, Nat.div_eq_of_lt hN]; simp, by omega, rfl, rfl⟩
      rintro st S' m ⟨d, rfl, hd, rfl, rfl⟩
      simp only [wps]
      cases d with
      | zero =>
        refine ⟨fun h2 => by omega, fun h2 => ?_⟩
        simp
      | succ d =>
        refine ⟨fun h2 => ?_, fun h2 => by omega⟩
        have hx : 0 ≤ A * ((N / 2 ^ (d + 1) : Nat) : Int) % p ∧ A * ((N / 2 ^ (d + 1) : Nat) : Int) % p < p := ⟨Int.emod_nonneg _ (by omega), Int.emod_lt_of_pos _ (by omega)⟩
        have hy : 0 ≤ A * ((2 * (N / 2 ^ (d + 1)) : Nat) : Int) % p ∧ A * ((2 * (N / 2 ^ (d + 1)) : Nat) : Int) % p < p := ⟨Int.emod_nonneg _ (by omega), Int.emod_lt_of_pos _ (by omega)⟩
        have e1 : 2 ^ (d + 1) / 2 = 2 ^ d := by rw [Nat.pow_succ]; omega
        have e2 : N / 2 ^ (d + 1) = N / 2 ^ d / 2 := by rw [Nat.pow_succ, Nat.div_div_eq_div_mul]
        have e3 : N % 2 ^ (d + 1) = N % 2 ^ d + 2 ^ d * (N / 2 ^ d % 2) := Nat.mod_pow_succ
        have e4 : N % 2 ^ d < 2 ^ d := Nat.mod_lt _ (Nat.pos_of_ne_zero (by simp))
        have e5 : 2 ^ d ≤ 2 ^ 63 := Nat.pow_le_pow_right (by omega) (by omega)
        have e6 : ((2 ^ d : Nat) : Int).tdiv 2 = ((2 ^ d / 2 : Nat) : Int) := by rw [Int.tdiv_eq_ediv_of_nonneg (by omega)]; omega
        have e7 : wU (((2 ^ d / 2 : Nat) : Int)) = ((2 ^ d / 2 : Nat) : Int) := wU_ (by omega) (by omega)
        have e8 : wI (64 - ((d + 1 : Nat) : Int) + 1) = 64 - d := by rw [wI_ (by omega) (by omega)]; omega
        simp only [wps, plus_w hp hx hx, dbl, e1, e6, e7, e8]
        have hbit : N / 2 ^ d % 2 = 0 ∨ N / 2 ^ d % 2 = 1 := by omega
        generalize hP : 2 ^ d = P at *
        generalize hq : N / P = q at *
        generalize hr : N % P = r at *
        refine ⟨fun h3 => ?_, fun h3 => ?_⟩
        · have hb : q % 2 = 1 := by
            rcases hbit with hb | hb
            · rw [hb] at e3; omega
            · exact hb
          rw [hb, Nat.mul_one] at e3
          simp only [wps, plus_w hp hy ⟨ha0, ha1⟩]
          refine ⟨d, by omega, d, ?_, by omega, rfl⟩
          have e9 : wU (((N % 2 ^ (d + 1) : Nat) : Int) - (P : Int)) = (r : Int) := by rw [e3, wU_ (by omega) (by omega)]; omega
          have e10 : (A * ((2 * (N / 2 ^ (d + 1)) : Nat) : Int) % p + A) % p = A * (q : Int) % p := by
            rw [Int.emod_add_emod, e2, show q = 2 * (q / 2) + 1 by omega]
            congr 1
            rw [show ((2 * ((2 * (q / 2) + 1) / 2) : Nat) : Int) = ((2 * (q / 2) : Nat) : Int) by omega, Int.natCast_add, Int.mul_add]; simp
          rw [e9, e10, hP, hq, hr]
        · have hb : q % 2 = 0 := by
            rcases hbit with hb | hb
            · exact hb
            · rw [hb] at e3; omega
          rw [hb, Nat.mul_zero] at e3
          refine ⟨d, by omega, d, ?_, by omega, rfl⟩
          rw [e3, e2, show 2 * (q / 2) = q by omega, Nat.add_zero, hP, hq, hr]
theorem rpowR_w (p a : Int) (ha : 0 ≤ a ∧ a < 18446744073709551616) (e : Nat) : ∀ (f n : Nat), n < 2 ^ f → n < 18446744073709551616 → r_r02_Pow (e + f + 1) [vU p, vU a, vU n] = M.ret (vU (powM p a n)) := by
  intro f
  induction f with
  | zero =>
    intro n h h2
    obtain rfl : n = 0 := by omega
    show s_r02_Pow (r_r02_Pow (e + 0)) _ = _
    refine wp_eq fun S => ?_
    rw [g_r02_Pow_eq, rred_w (by omega)]
    simp only [wps]
    refine ⟨fun _ => ?_, fun h => by simp at h⟩
    unfold red powM; simp
  | succ f ih =>
    intro n h h2
    show s_r02_Pow (r_r02_Pow (e + f + 1)) _ = _
    refine wp_eq fun S => ?_
    have e1 : wU ((n : Int).tdiv 2) = ((n / 2 : Nat) : Int) := by
      rw [Int.tdiv_eq_ediv_of_nonneg (by omega), wU_ (by omega) (by omega)]; omega
    have hm2 := rmul_w (p := p) (powM_range p a (n / 2 + n / 2)) ha
    rw [mulF_powM1] at hm2
    rw [g_r02_Pow_eq, rred_w (by omega), e1, ih (n / 2) (by rw [Nat.pow_succ] at h; omega) (by omega)]
    simp only [wps, rmul_w (p := p) (powM_range p a (n / 2)) (powM_range p a (n / 2)), mulF_powM, hm2]
    refine ⟨fun h3 => ?_, fun h3 => ⟨fun h4 => ?_, fun h4 => ?_⟩⟩
    · obtain rfl : n = 0 := by omega
      unfold red powM; simp
    · rw [Int.tmod_eq_emod_of_nonneg (by omega)] at h4
      rw [show n / 2 + n / 2 + 1 = n by omega]
    · rw [Int.tmod_eq_emod_of_nonneg (by omega)] at h4
      rw [show n / 2 + n / 2 = n by omega]
theorem rpow_w {p a n : Int} (ha : 0 ≤ a ∧ a < 18446744073709551616) (hn : 0 ≤ n ∧ n < 18446744073709551616) : g_r02_Pow [vU p, vU a, vU n] = M.ret (vU (powM p a n.toNat)) := by
  obtain ⟨N, rfl⟩ := Int.eq_ofNat_of_zero_le hn.1
  have h64 : N < 2 ^ 64 := by omega
  exact rpowR_w p a ha 935 64 N h64 (by omega)
theorem rinv_w {p a : Int} (ha : 0 ≤ a ∧ a < 18446744073709551616) : g_r02_Inv [vU p, vU a] = M.ret (vT [vU (invV p a).1, vI (invV p a).2]) := by
  refine wp_eq fun S => ?_
  rw [g_r02_Inv_eq, rknown_w, rred_w ha]
  unfold invV
  cases hk : known p with
  | false => simp [wps]
  | true =>
    have hp : 2 ≤ p ∧ p < 18446744073709551616 := by rcases known_cases hk with rfl | rfl | rfl <;> decide
    rw [wU_ (n := p - 2) (by omega) (by omega), rpow_w (p := p) ha ⟨by omega, by omega⟩]
    simp only [wps]
    exact ⟨fun h => by simp [h], fun h => by simp [h]⟩
theorem may_w {p n : Int} : g_r03_may [vU p, vI n] = M.ret (vI (readyV p n)) := by
  refine wp_eq fun S => ?_
  rw [g_r03_may_eq, rknown_w]
  unfold readyV
  cases known p with
  | false => simp only [wps]; simp
  | true =>
    simp only [wps]
    by_cases h1 : n < 1
    · simp [h1]
    · by_cases h2 : 8192 < n <;> simp [h1, h2]
theorem rgen_w {p : Int} : g_r03_Gen [vU p] = M.ret (vU (genF p)) := by
  refine wp_eq fun S => ?_
  rw [g_r03_Gen_eq]
  unfold genF P0 P1 P2
  simp only [wps]
  by_cases h0 : p = 18446744069414584321
  · simp [h0]
  · by_cases h1 : p = 998244353
    · simp [h1]
    · by_cases h2 : p = 2013265921 <;> simp [h0, h1, h2]
theorem rroot_w {p n : Int} : g_r03_Root [vU p, vI n] = M.ret (vT [vU (rootV p n).1, vI (rootV p n).2]) := by
  refine wp_eq fun S => ?_
  rw [g_r03_Root_eq, may_w]
  unfold rootV
  simp only [wps]
  refine ⟨fun h => by simp [h], fun h => ?_⟩
  rw [if_pos h]
  have hk : known p = true ∧ 1 ≤ n ∧ n ≤ 8192 := ready_ok h
  have hp := known_pos hk.1
  have hq0 : 0 ≤ (p - 1) / n := Int.ediv_nonneg (by omega) (by omega)
  have hq1 : (p - 1) / n ≤ p - 1 := Int.ediv_le_self _ (by omega)
  have hm0 : 0 ≤ (p - 1) % n := Int.emod_nonneg _ (by omega)
  have e1 : wU n = n := wU_ (by omega) (by omega)
  have e2 : wU (p - 1) = p - 1 := wU_ (by omega) (by omega)
  have e3 : (p - 1).tmod n = (p - 1) % n := Int.tmod_eq_emod_of_nonneg (by omega)
  have e4 : (p - 1).tdiv n = (p - 1) / n := Int.tdiv_eq_ediv_of_nonneg (by omega)
  have e5 : wU ((p - 1) / n) = (p - 1) / n := wU_ hq0 (by omega)
  rw [e1, e2, e3, e4, e5]
  simp only [wps, rgen_w, rpow_w (p := p) (genF_range p) ⟨hq0, show (p - 1) / n < 18446744073709551616 by omega⟩]
  exact ⟨by omega, fun h2 => by rw [if_pos (by omega)], fun h2 => ⟨by omega, by rw [if_neg (by omega)]⟩⟩
end Go.AM
set_option linter.unusedVariables false
set_option linter.unusedSimpArgs false
namespace Go.AM
open Go Go.Proofs.YtcilfgedcnehfaaGreatDoor
abbrev toI (l : List Nat) : List Int := l.map fun x : Nat => (x : Int)
theorem outR_w (r : Nat) (hr : 2 ≤ r ∧ r ≤ 5) (e : Nat) : ∀ (f n : Nat), 1 ≤ n → n < 2 ^ f → n ≤ 4096 → f ≤ 13 → ∀ S : St, Sp (r_r04_out (e + f + 1) [vI n, vI r]) S fun v S' => ∃ a k, v = vT [.slice a (pull r f n).1.length k, vI (pull r f n).2] ∧ Ar S' a (pull r f n).1.length 1 eI (toI (pull r f n).1) := by
  intro f
  induction f with
  | zero => intro n h1 h2; omega
  | succ f ih =>
    intro n h1 h2 h3 h4 S
    show Sp (s_r04_out (r_r04_out (e + f + 1)) _) S _
    unfold Sp
    have e1 : (n : Int).tmod r = ((n % r : Nat) : Int) := by rw [Int.tmod_eq_emod_of_nonneg (by omega)]; rfl
    have e2 : wI ((n : Int).tdiv r) = ((n / r : Nat) : Int) := by
      have := Nat.div_le_self n r
      rw [Int.tdiv_eq_ediv_of_nonneg (by omega), ← Int.natCast_ediv]
      generalize n / r = q at this ⊢
      rw [wI_ (by omega) (by omega)]
    rw [g_r04_out_eq, e1, e2]
    unfold pull
    simp only [wps]
    refine ⟨by omega, fun h5 => ?_, fun h5 => ⟨by omega, ?_⟩⟩
    · rw [if_neg (by omega)]
      exact ⟨List.prefix_rfl, none, 0, rfl, .nil⟩
    · have hm : n % r = 0 := by omega
      have hp : 0 < n / r := Nat.div_pos (Nat.le_of_dvd h1 (Nat.dvd_of_mod_eq_zero hm)) (by omega)
      have hd : n / r * 2 ≤ n := by
        have h6 := Nat.div_mul_le_self n r
        have h7 : n / r * 2 ≤ n / r * r := Nat.mul_le_mul_left _ hr.1
        omega
      rw [if_pos hm]
      obtain ⟨f1, f2, f3⟩ := pull_facts r hr.1 f (n / r) hp
      refine (ih (n / r) hp (by rw [Nat.pow_succ] at h2; omega) (by omega) (by omega) S).use ?_
      generalize pull r f (n / r) = q at f1 f2 f3 ⊢
      rintro _ S1 h6 ⟨a, k, rfl, h7⟩
      have h7 := h7.mono (pre_add List.prefix_rfl [.cells [vI r] 3 none])
      simp only [wps]
      have hrd := wp_rdA (Q := fun xs S' => WP (appM 3 1 8 (some (ad S1.length 0)) 1 1 q.1.length xs) S' fun a S' => S <+: S' ∧ ∃ a_1 k, vT [Value.slice a.a a.n a.c, vI q.2] = vT [Value.slice a_1 ((r :: q.1).length) k, vI q.2] ∧ Ar S' a_1 ((r :: q.1).length) 1 eI (toI (r :: q.1))) h7 (fun _ => rfl) ?_
      · simpa using hrd
      · refine wp_lit (w := 1) (f := eI) (l := [(r : Int)]) (r := toI q.1) (fun _ => rfl) (by decide) get_new ?_ (by decide) rfl (by simp) rfl ?_
        · simp; omega
        · intro a' S' h8 h9
          refine ⟨(pre_add h6 _).trans h8, a', _, by simp [Nat.add_comm]; rfl, ?_⟩
          simpa [Nat.add_comm] using h9
def r4Go : List Nat → List Nat → Nat → List Nat × Nat
  | [], dn, m => (dn, m)
  | r :: l, dn, m => r4Go l (dn ++ (pull r 13 m).1) (pull r 13 m).2
theorem r4Go_eq (n : Nat) : r4Go [4, 2, 3, 5] [] n = r4N n := by
  simp only [r4Go, r4N, List.nil_append]
theorem leaf_I : ∀ l : List Int, (l.flatMap eI).all leafV = true
  | [] => rfl
  | x :: l => by
    have := leaf_I l
    simp only [List.flatMap_cons, eI, List.singleton_append, List.all_cons, this, Bool.and_true]; rfl
theorem rrad_w {n : Int} {S : St} : Sp (g_r04_Radices [vI n]) S fun v S' => ∃ a k, v = vT [.slice a (radV n).1.length k, vI (radV n).2] ∧ Ar S' a (radV n).1.length 1 eI (radV n).1 ∧ (radV n).1.length ≤ k := by
  unfold Sp
  rw [g_r04_Radices_eq]
  have bad : ¬ (1 ≤ n ∧ n ≤ 4096) → radV n = ([], 4) := fun h => by unfold radV; rw [if_neg h]
  simp only [wps]
  refine ⟨fun h1 => ?_, fun h1 => ⟨fun h2 => ?_, fun h2 => ?_⟩⟩
  · rw [bad (by omega)]; exact ⟨List.prefix_rfl, none, 0, rfl, .nil, by simp⟩
  · rw [bad (by omega)]; exact ⟨List.prefix_rfl, none, 0, rfl, .nil, by simp⟩
  · obtain ⟨N, rfl⟩ := Int.eq_ofNat_of_zero_le (show 0 ≤ n by omega)
    rw [r4_eq N (by omega) (by omega), ← r4Go_eq]
    refine wp_loop (fun st S' k => ∃ (i m : Nat) (dn : List Nat) (sa : Option Addr), st = [vI m, .slice sa dn.length dn.length, vI i] ∧ i ≤ 4 ∧ k = 4 - i ∧
      Ap (S ++ [.cells [vI 4, vI 2, vI 3, vI 5] 3 none]) none S' sa dn.length 3 1 ((toI dn).flatMap eI) ∧ r4Go ([4, 2, 3, 5].drop i) dn m = r4Go [4, 2, 3, 5] [] N ∧ 1 ≤ m ∧ m ≤ 4096 ∧ dn.length ≤ 13 * i) ?_ 4 _ _
      ⟨0, N, [], none, rfl, by omega, by omega, .nil, rfl, by omega, by omega, by simp⟩
    rintro st S' k ⟨i, m, dn, sa, rfl, hi, rfl, hap, hgo, hm1, hm2, hdn⟩
    have hp := hap.pre
    simp only [wps]
    refine ⟨fun h3 => ⟨by omega, ?_⟩, fun h3 => ?_⟩
    · have hi' : i < [4, 2, 3, 5].length := by simp; omega
      have hr : ∀ j, (hj : j < [4, 2, 3, 5].length) → 2 ≤ ([4, 2, 3, 5] : List Nat)[j] ∧ ([4, 2, 3, 5] : List Nat)[j] ≤ 5 := by decide
      have hr' := hr i hi'
      have hcell : S'.cell ⟨S.length, i, none⟩ = some (vI (([4, 2, 3, 5] : List Nat)[i] : Nat)) := by
        rw [cell_blk (pre_get hp get_new)]
        show (([4, 2, 3, 5] : List Nat).map fun x : Nat => vI (x : Int))[i]? = _
        rw [List.getElem?_map, List.getElem?_eq_getElem hi']; rfl
      rw [List.drop_eq_getElem_cons hi', r4Go] at hgo
      generalize ([4, 2, 3, 5] : List Nat)[i] = r at hr' hcell hgo
      obtain ⟨f1, f2, f3⟩ := pull_facts r hr'.1 13 m hm1
      simp only [wps, hcell]
      refine (outR_w r hr' 986 13 m hm1 (by omega) hm2 (by omega) S').use ?_
      rintro _ S1 h4 ⟨a, k, rfl, h5⟩
      simp only [wps]
      refine Eq.mp (congrArg (fun x => WP (rdN a x) S1 _) (Nat.mul_one _)) (wp_rdA h5 (fun _ => rfl) ?_)
      have hl : (dn ++ (pull r 13 m).1).length = dn.length + (pull r 13 m).1.length := List.length_append
      refine wp_apps (hap.more h4) (by rw [flat_len (w := 1) (fun _ => rfl)]; simp) (by decide) (by omega) (by decide) (leaf_I _) ?_
      intro a' S2 h6
      rw [← List.flatMap_append, ← List.map_append, ← hl] at h6
      simp only [wps]
      rw [← hl]
      exact ⟨4 - (i + 1), by omega, i + 1, _, _, a', by rw [wI_ (by omega) (by omega)]; rfl, by omega, rfl, h6, hgo, f1, by omega, by rw [hl]; omega⟩
    · obtain rfl : i = 4 := by omega
      have e : r4Go ([4, 2, 3, 5].drop 4) dn m = (dn, m) := rfl
      rw [e] at hgo
      rw [← hgo]
      refine ⟨fun h5 => ?_, fun h5 => ?_⟩
      · rw [if_neg (by omega)]; exact ⟨pre_of_add hp, none, 0, rfl, .nil, by simp⟩
      · rw [if_pos (by omega)]
        simp only [List.length_map]
        exact ⟨pre_of_add hp, sa, dn.length, rfl, by simpa using hap.ar (fun _ => rfl) (by decide), by simp⟩
theorem rsmooth_w {n : Int} {S : St} : Sp (g_r04_Smooth [vI n]) S fun v _ => v = vB (smoothV n) := by
  unfold Sp
  rw [g_r04_Smooth_eq]
  simp only [wps]
  refine rrad_w.use ?_
  rintro _ S' h ⟨a, k, rfl, _, _⟩
  simp only [wps]
  exact ⟨h, rfl⟩
end Go.AM
set_option linter.unusedVariables false
set_option linter.unusedSimpArgs false
namespace Go.AM
open Go Go.Proofs.YtcilfgedcnehfaaGreatDoor
abbrev prodL (l : List Int) : Int := l.foldr (· * ·) 1
theorem prod_app : ∀ a b : List Int, prodL (a ++ b) = prodL a * prodL b
  | [], b => by simp
  | x :: a, b => by
    have := prod_app a b
    simp only [prodL, List.cons_append, List.foldr_cons] at this ⊢
    rw [this, Int.mul_assoc]
theorem prod_le {a b : Int} (ha : 1 ≤ a) (hb : 1 ≤ b) : a ≤ a * b ∧ b ≤ a * b := by
  constructor
  · have := Int.mul_le_mul_of_nonneg_left hb (show 0 ≤ a by omega); omega
  · have := Int.mul_le_mul_of_nonneg_right ha (show 0 ≤ b by omega); omega
theorem product_w {S : St} {p : Option Addr} {n c : Nat} {l : List Int} (h : Ar S p n 1 eI l) (hl : n ≤ 4096) (h1 : ∀ r ∈ l, 1 ≤ r) (h2 : prodL l ≤ 4096) : Gv (g_r04_product [.slice p n c]) S (vI (prodL l)) := by
  refine .of ?_
  have hn := h.1
  rw [g_r04_product_eq]
  simp only [wps]
  refine wp_loop (fun st S' m => ∃ (j : Nat) (x : Int), st = [vI x, vI j] ∧ j ≤ n ∧ m = n - j ∧ S' = S ∧ 1 ≤ x ∧ x * prodL (l.drop j) = prodL l) ?_ n _ _ ⟨0, 1, rfl, by omega, by omega, rfl, by omega, by simp⟩
  rintro st S' m ⟨j, x, rfl, hj, rfl, rfl, hx, hd⟩
  simp only [wps]
  refine ⟨fun h3 => ⟨by omega, ?_⟩, fun h3 => ?_⟩
  · have hj' : j < l.length := by omega
    obtain ⟨a, rfl, c1⟩ := h.getI hj'
    rw [List.drop_eq_getElem_cons hj'] at hd
    have e : prodL (l[j] :: l.drop (j + 1)) = l[j] * prodL (l.drop (j + 1)) := rfl
    rw [e, ← Int.mul_assoc] at hd
    have p1 : 1 ≤ prodL (l.drop (j + 1)) := foldr_pos (l.drop (j + 1)) (fun r hr => h1 r (List.mem_of_mem_drop hr))
    have p2 := h1 _ (List.getElem_mem hj')
    have p3 := (prod_le hx p2).1
    have p4 := (prod_le (show 1 ≤ x * l[j] by omega) p1).1
    simp only [wps, c1]
    refine ⟨n - (j + 1), by omega, j + 1, x * l[j], ?_, by omega, rfl, by omega, hd⟩
    rw [wI_ (n := x * l[j]) (by omega) (by omega), wI_ (n := (j : Int) + 1) (by omega) (by omega)]; rfl
  · rw [List.drop_eq_nil_of_le (by omega)] at hd
    have e : prodL [] = 1 := rfl
    rw [e, Int.mul_one] at hd
    simp [hd]
theorem rstagesA_w {n : Int} {S : St} : WP (g_r04_Stages [vI n]) S fun v S' => ∃ a, v = vT [.slice a (stagesV n).1.length (stagesV n).1.length, vI (stagesV n).2] ∧ Ap S none S' a (stagesV n).1.length 94 3 ((stagesV n).1.flatMap eSg) := by
  rw [g_r04_Stages_eq]
  simp only [wps]
  refine rrad_w.use ?_
  rintro _ S1 hS ⟨a, c, rfl, hr, hc⟩
  simp only [wps]
  unfold stagesV
  refine ⟨fun h => by rw [if_neg h]; exact ⟨none, rfl, Ap.nil.more hS⟩, fun h => ?_⟩
  rw [if_pos h]
  obtain ⟨n1, n2, f1, f2, f3⟩ := radV_facts h
  generalize (radV n).1 = rs at hr f1 f2 f3 hc ⊢
  have pos : ∀ l : List Int, (∀ x ∈ l, x ∈ rs) → (∀ x ∈ l, 1 ≤ x) ∧ 1 ≤ prodL l := fun l hl => by
    have : ∀ x ∈ l, 1 ≤ x := fun x hx => by have := (f1 x (hl x hx)).1; omega
    exact ⟨this, foldr_pos l this⟩
  refine wp_loop (fun st S' m => ∃ (j : Nat) (sa : Option Addr) (dn : List Sg), st = [.slice sa j j, vI j] ∧ j ≤ rs.length ∧ m = rs.length - j ∧ Ap S1 none S' sa j 94 3 (dn.flatMap eSg) ∧
      dn ++ stGo n (prodL (rs.take j)) (rs.drop j) = stGo n 1 rs) ?_ rs.length _ _ ⟨0, none, [], rfl, by omega, by omega, .nil, by simp⟩
  rintro st S' m ⟨j, sa, dn, rfl, hj, rfl, ho, hd⟩
  simp only [wps]
  refine ⟨fun h3 => ⟨h3, ?_⟩, fun h3 => ?_⟩
  · have hj' : j < rs.length := by omega
    have hr' := hr.mono ho.pre
    obtain ⟨b, rfl, hcell⟩ := hr'.getI hj'
    rw [List.drop_eq_getElem_cons hj', stGo] at hd
    have hr1 := f1 _ (List.getElem_mem hj')
    have e1 : prodL (rs.take j) * (rs[j] * prodL (rs.drop (j + 1))) = n := by
      have e2 : rs.take j ++ rs[j] :: rs.drop (j + 1) = rs := by rw [← List.drop_eq_getElem_cons hj', List.take_append_drop]
      rw [← f2]
      conv => rhs; rw [← e2]
      exact (prod_app (rs.take j) (rs[j] :: rs.drop (j + 1))).symm
    obtain ⟨p1, p2⟩ := pos (rs.take j) (fun x hx => List.mem_of_mem_take hx)
    obtain ⟨p3, p4⟩ := pos (rs.drop (j + 1)) (fun x hx => List.mem_of_mem_drop hx)
    have e3 : prodL (rs.take (j + 1)) = prodL (rs.take j) * rs[j] := by
      rw [List.take_add_one, List.getElem?_eq_getElem hj', prod_app]; simp [prodL]
    have e4 : n / prodL (rs.take j) / rs[j] = prodL (rs.drop (j + 1)) := by
      conv => lhs; rw [← e1]
      rw [Int.mul_ediv_cancel_left _ (by omega), Int.mul_ediv_cancel_left _ (by omega)]
    have q1 := prod_le (show 1 ≤ rs[j] by omega) p4
    have q2 := prod_le p2 (show 1 ≤ rs[j] * prodL (rs.drop (j + 1)) by omega)
    simp only [wps, hcell]
    have hj1 : wI ((j : Int) + 1) = ((j + 1 : Nat) : Int) := by rw [wI_ (by omega) (by omega)]; rfl
    rw [hj1]
    refine cut_ar hr' (fun _ => rfl) (by decide) (by omega) (by omega) (by omega) hc ?_
    intro a1 k1 hk1 ha1
    refine cut_ar hr' (fun _ => rfl) (by decide) (by omega) (by omega) (by omega) hc ?_
    intro a2 k2 hk2 ha2
    simp only [Int.toNat_natCast, Int.toNat_zero, List.drop_zero, Nat.sub_zero, Int.natCast_zero] at ha1 ha2 ⊢
    rw [List.take_of_length_le (by rw [List.length_drop]; omega)] at ha2
    simp only [(product_w ha1 (by omega) p1 (by omega)).wp, (product_w ha2 (by omega) p3 (by omega)).wp, wps]
    refine wp_push ho rfl (by omega) (by omega) rfl ?_
    intro b' S2 h6
    simp only [wps]
    refine ⟨rs.length - (j + 1), by omega, j + 1, _, dn ++ [⟨rs[j], prodL (rs.take j), prodL (rs.drop (j + 1))⟩], rfl, by omega, rfl, by simpa [eSg] using h6, ?_⟩
    rw [← hd, e3, e4]; simp
  · rw [List.drop_eq_nil_of_le (by omega), stGo, List.append_nil] at hd
    have e := ho.cnt (fun _ => rfl) (by decide)
    subst hd
    rw [← e]
    exact ⟨sa, rfl, (Ap.nil.more hS).trans ho⟩
theorem rstages_w {n : Int} {S : St} : Sp (g_r04_Stages [vI n]) S fun v S' => ∃ a k, v = vT [.slice a (stagesV n).1.length k, vI (stagesV n).2] ∧ Ar S' a (stagesV n).1.length 3 eSg (stagesV n).1 := by
  refine rstagesA_w.mono ?_
  rintro _ S' ⟨a, rfl, h⟩
  exact ⟨h.pre, a, _, rfl, h.ar (fun _ => rfl) (by decide)⟩
end Go.AM
set_option linter.unusedVariables false
set_option linter.unusedSimpArgs false
namespace Go.AM
open Go Go.Proofs.YtcilfgedcnehfaaGreatDoor
theorem gGo_eq (p : Int) : ∀ l : List Ax, (∀ e, gGo p e l = if ∀ a ∈ l, smoothV a.N = true then (if ∀ a ∈ l, (rootV p (ordW a)).2 = 0 then e else 5) else 4)
  | [], e => by simp [gGo]
  | x :: r, e => by
    unfold gGo
    rw [gGo_eq p r]
    simp only [List.forall_mem_cons]
    by_cases h1 : smoothV x.N = true <;> by_cases h3 : (rootV p (ordW x)).2 = 0 <;> simp [h1, h3]
theorem rgrid_w {p : Int} {S : St} {axes : Option Addr} {n c : Nat} {l : List Ax} (h : Ar S axes n 2 eAx l) (hl : n ≤ 8796093022208) :
    Sp (g_r07_Check [vU p, .slice axes n c]) S fun v S' => v = vI (gridV p l) := by
  unfold Sp
  have hn := h.1
  rw [g_r07_Check_eq, rknown_w]
  unfold gridV
  simp only [wps]
  refine ⟨fun hk => ⟨List.prefix_rfl, by simp [hk]⟩, fun hk => ?_⟩
  refine (r07dims_w h hl).mono ?_
  rintro _ S1 ⟨a, rfl, hd⟩
  have h1 := hd.pre
  have hd := hd.ar (fun _ => rfl) (by decide)
  simp only [wps, (r05all_w hd).wp]
  refine ⟨fun h2 => ⟨h1, by simp [hk, h2]⟩, fun h2 => ?_⟩
  rw [if_pos hk, if_pos h2]
  refine wp_loop (fun st S' m => ∃ j : Nat, st = [vI j] ∧ j ≤ n ∧ m = n - j ∧ S <+: S' ∧ ∀ i, (hi : i < l.length) → i < j → smoothV l[i].N = true) ?_ n _ _ ⟨0, rfl, by omega, by omega, h1, fun i hi h => by omega⟩
  rintro st S' m ⟨j, rfl, hj, rfl, hp, hg⟩
  simp only [wps]
  refine ⟨fun h3 => ⟨h3, ?_⟩, fun h3 => ?_⟩
  · have hj' : j < l.length := by omega
    obtain ⟨a, rfl, c1, c2⟩ := (h.mono hp).getAx hj'
    simp only [wps, c1, c2]
    have hq := pre_add hp
    refine rsmooth_w.use ?_
    rintro _ S2 h5 rfl
    simp only [wps]
    refine ⟨fun h6 => ?_, fun h6 => ?_⟩
    · refine ⟨(hq _).trans h5, ?_⟩
      rw [gGo_eq, if_neg (fun h => by have := h _ (List.getElem_mem hj'); rw [h6] at this; cases this)]
    · refine ⟨n - (j + 1), by omega, j + 1, by rw [wI_ (by omega) (by omega)]; simp, by omega, rfl, (hq _).trans h5, fun i hi hij => ?_⟩
      rcases Nat.lt_or_ge i j with h7 | h7
      · exact hg i hi h7
      · obtain rfl : i = j := by omega
        exact h6
  · have hall : ∀ a ∈ l, smoothV a.N = true := fun a ha => by
      obtain ⟨i, hi, rfl⟩ := List.getElem_of_mem ha
      exact hg i hi (by omega)
    rw [gGo_eq, if_pos hall]
    refine wp_loop (fun st S' m => ∃ j : Nat, st = [vI j] ∧ j ≤ n ∧ m = n - j ∧ S <+: S' ∧ ∀ i, (hi : i < l.length) → i < j → (rootV p (ordW l[i])).2 = 0) ?_ n _ _ ⟨0, rfl, by omega, by omega, hp, fun i hi h => by omega⟩
    clear hg
    rintro st S2 m ⟨j, rfl, hj, rfl, hp, hg⟩
    simp only [wps]
    refine ⟨fun h3 => ⟨h3, ?_⟩, fun h3 => ?_⟩
    · have hj' : j < l.length := by omega
      obtain ⟨a, rfl, c1, c2⟩ := (h.mono hp).getAx hj'
      simp only [wps, c1, c2]
      have hq := pre_add hp
      have step : ∀ (x : Int), x = ordW l[j] → (((¬(rootV p x).2 = 0 → S <+: S2 ++ [AObj.cells [vI l[j].N, vB l[j].neg] 111 none] ∧ vI 5 = vI (if ∀ a ∈ l, (rootV p (ordW a)).2 = 0 then 0 else 5)) ∧
          ((rootV p x).2 = 0 → ∃ n', n' < n - j ∧ ∃ j_1 : Nat, [vI (wI ((j : Int) + 1))] = [vI (j_1 : Int)] ∧ j_1 ≤ n ∧ n' = n - j_1 ∧ S <+: S2 ++ [AObj.cells [vI l[j].N, vB l[j].neg] 111 none] ∧ ∀ (i : Nat) (hi : i < l.length), i < j_1 → (rootV p (ordW l[i])).2 = 0))) := by
        rintro x rfl
        refine ⟨fun h6 => ⟨hq _, by rw [if_neg (fun h => h6 (h _ (List.getElem_mem hj')))]⟩, fun h6 => ?_⟩
        refine ⟨n - (j + 1), by omega, j + 1, by rw [wI_ (by omega) (by omega)]; simp, by omega, rfl, hq _, fun i hi hij => ?_⟩
        rcases Nat.lt_or_ge i j with h7 | h7
        · exact hg i hi h7
        · obtain rfl : i = j := by omega
          exact h6
      simp only [rroot_w, wps]
      refine ⟨fun h4 => step _ ?_, fun h4 => step _ ?_⟩
      · unfold ordW; rw [if_pos h4, Int.mul_comm]
      · unfold ordW; rw [if_neg (by simp [h4])]
    · have hall : ∀ a ∈ l, (rootV p (ordW a)).2 = 0 := fun a ha => by
        obtain ⟨i, hi, rfl⟩ := List.getElem_of_mem ha
        exact hg i hi (by omega)
      rw [if_pos hall]
      exact ⟨hp, rfl⟩
end Go.AM
set_option linter.unusedVariables false
set_option linter.unusedSimpArgs false
namespace Go.AM
open Go Go.Proofs.YtcilfgedcnehfaaGreatDoor
theorem eqSg (s t : Sg) : eqL [vI s.R, vI s.L, vI s.M] [vI t.R, vI t.L, vI t.M] = decide (s = t) := by
  obtain ⟨a1, a2, a3⟩ := s
  obtain ⟨b1, b2, b3⟩ := t
  simp [eqL, Bool.and_assoc, Bool.decide_and, Sg.mk.injEq]; rfl
theorem rstepc_w {p : Int} {S : St} {axes : Option Addr} {n c : Nat} {l : List Ax} (h : Ar S axes n 2 eAx l) (hl : n ≤ 8796093022208) (s : Stp) :
    Sp (g_r16_Check [vU p, .slice axes n c, vA [vI s.ax, vB s.tw, vI s.st.R, vI s.st.L, vI s.st.M]]) S fun v S' => v = vI (stepV p l s) := by
  unfold Sp
  have hn := h.1
  rw [g_r16_Check_eq]
  simp only [wps]
  refine (rgrid_w (h.mono (List.prefix_append _ _)) hl).use ?_
  rintro _ S1 h1 rfl
  have hb := pre_get h1 get_new
  have hb2 : ∀ o, (S1 ++ [o])[S.length]? = _ := fun o => get_add hb
  have hc := cell_blk hb
  have h0 := pre_of_add h1
  simp only [wps, hc]
  unfold stepV
  refine ⟨fun h2 => ⟨h0, by rw [if_neg h2]⟩, fun h2 => ?_⟩
  rw [if_pos h2]
  refine ⟨fun h3 => ⟨h0, by rw [if_neg (by omega)]⟩, fun h3 => ⟨fun h4 => ⟨h0, by rw [if_neg (by omega)]⟩, fun h4 => ?_⟩⟩
  rw [if_pos (by omega)]
  obtain ⟨k, hk⟩ := Int.eq_ofNat_of_zero_le (show 0 ≤ s.ax by omega)
  have hkl : k < l.length := by omega
  have hst0 := (stages_facts ((grid_ok h2).2.2 _ (List.getElem_mem hkl)).1).1
  refine ⟨fun h5 => ?_, fun h5 => ?_⟩
  · rw [if_pos h5]
    have e := eqSg s.st ⟨0, 0, 0⟩
    have e2 : ∀ x : Bool, eqL (ar [vI s.st.R, vI s.st.L, vI s.st.M]).toList (ar (({ size := 3, bytes := 24, zero := vA [vI 0, vI 0, vI 0], ag := true, d := TD.struct [(0, 1, false), (1, 1, false), (2, 1, false)] : TI }).zero.cells.toList)).toList = decide (s.st = ⟨0, 0, 0⟩) := fun _ => e
    rw [e2 true]
    refine ⟨fun h6 => ⟨h0, ?_⟩, fun h6 => ⟨h0, ?_⟩⟩
    · rw [if_neg (by simpa using h6)]
    · rw [if_pos (by simpa using h6)]
  · obtain ⟨a, rfl, c1, c2⟩ := (h.mono h0).getAx hkl
    rw [if_neg (by rw [h5]; simp), hk, axAt_nat l k hkl, if_pos hst0]
    simp only [wps, c1]
    refine ⟨by omega, ?_⟩
    refine rstages_w.use ?_
    rintro _ S2 h6 ⟨b, k2, rfl, hst⟩
    have hln := stages_len l[k].N
    generalize (stagesV l[k].N).1 = sts at hst hln ⊢
    simp only [wps]
    refine wp_loop (fun st S' m => ∃ j : Nat, st = [vI j] ∧ j ≤ sts.length ∧ m = sts.length - j ∧ S2 <+: S' ∧ (s.st ∈ sts ↔ s.st ∈ sts.drop j)) ?_ sts.length _ _ ⟨0, rfl, by omega, by omega, List.prefix_rfl, by simp⟩
    rintro st S' m ⟨j, rfl, hj, rfl, hp, hm⟩
    simp only [wps]
    have hS := (h0.trans h6).trans hp
    refine ⟨fun h7 => ⟨h7, ?_⟩, fun h7 => ?_⟩
    · have hj' : j < sts.length := by omega
      obtain ⟨x, rfl, d1, d2, d3⟩ := (hst.mono hp).getSg hj'
      rw [List.drop_eq_getElem_cons hj', List.mem_cons] at hm
      have hb3 := fun o => cell_blk (get_add (t := [o]) (pre_get hp (pre_get h6 hb)))
      simp only [wps, d1, d2, d3, hb3]
      rw [show ∀ x y z a b c : Value, (eqL (ar [x, y, z]).toList (ar [a, b, c]).toList) = eqL [x, y, z] [a, b, c] from fun _ _ _ _ _ _ => rfl, eqSg]
      refine ⟨fun h8 => ⟨pre_add hS _, ?_⟩, fun h8 => ?_⟩
      · rw [if_pos (hm.2 (.inl (by simpa using (of_decide_eq_true (by simpa using h8) : sts[j] = s.st).symm)))]
      · have h9 : ¬ sts[j] = s.st := by simpa using h8
        exact ⟨sts.length - (j + 1), by omega, j + 1, by rw [wI_ (by omega) (by omega)]; rfl, by omega, rfl, pre_add hp _, by rw [hm]; exact ⟨fun h => h.resolve_left (fun h => h9 h.symm), .inr⟩⟩
    · rw [List.drop_eq_nil_of_le (by omega)] at hm
      refine ⟨hS, ?_⟩
      rw [if_neg (fun h => by have := hm.1 h; simp at this)]
end Go.AM
set_option linter.unusedVariables false
set_option linter.unusedSimpArgs false
namespace Go.AM
open Go Go.Proofs.YtcilfgedcnehfaaGreatDoor
theorem tw1_range (p : Int) (a : Ax) (inv : Bool) (i : Nat) : 0 ≤ (if a.neg = true then powM p (rootV p (IntKind.i64.wrap (2 * a.N))).1 i else 1) ∧ (if a.neg = true then powM p (rootV p (IntKind.i64.wrap (2 * a.N))).1 i else 1) < 18446744073709551616 := by
  split
  · exact powM_range _ _ _
  · omega
theorem rtable_w {p : Int} {S : St} {axes : Option Addr} {n c : Nat} {l : List Ax} (h : Ar S axes n 2 eAx l) (hl : n ≤ 8796093022208) (inv : Bool) (s : Stp) :
    Sp (g_r16_Table [vU p, .slice axes n c, vB inv, vA [vI s.ax, vB s.tw, vI s.st.R, vI s.st.L, vI s.st.M]]) S fun v S' => ∃ b k, v = vT [.slice b (tableV p l inv s (tabV p l inv s)).length k, vI (stepV p l s)] ∧
      Ar S' b (tableV p l inv s (tabV p l inv s)).length 1 eU (tableV p l inv s (tabV p l inv s)) := by
  unfold Sp
  have hn := h.1
  rw [g_r16_Table_eq]
  simp only [wps]
  refine (rstepc_w (h.mono (List.prefix_append _ _)) hl s).use ?_
  rintro _ S1 h1 rfl
  have h0 := pre_of_add h1
  have hb := pre_get h1 get_new
  simp only [wps, cell_blk hb]
  unfold tableV
  refine ⟨fun h2 => by rw [if_neg h2]; exact ⟨h0, none, 0, rfl, .nil⟩, fun h2 => ?_⟩
  rw [if_pos h2, h2]
  obtain ⟨hk, k, hkl, e0, n1, n2, h3⟩ := tab_facts inv h2
  have hp := known_pos hk
  rcases h3 with ⟨h3, hroot, etab⟩ | ⟨h3, r1, r2, m1, m2, p1, p2, hro, etab⟩
  · obtain ⟨a, rfl, c1, c2⟩ := (h.mono h0).getAx hkl
    rw [etab, e0]
    refine ⟨fun _ => ?_, fun h4 => by rw [h3] at h4; cases h4⟩
    simp only [wps, c1, c2]
    refine ⟨by omega, ?_⟩
    obtain ⟨N, hN⟩ := Int.eq_ofNat_of_zero_le (show 0 ≤ l[k].N by omega)
    have eN : l[k].N.toNat = N := by rw [hN]; rfl
    rw [eN]
    have hSB1 := get_new (S := S1) (o := AObj.cells [vI l[k].N, vB l[k].neg] 111 none)
    have hSB2 := pre_add h0 [AObj.cells [vI l[k].N, vB l[k].neg] 111 none]
    generalize S1 ++ [AObj.cells [vI l[k].N, vB l[k].neg] 111 none] = SB at hSB1 hSB2 ⊢
    have fin : ∀ (sa : Option Addr) (j : Nat) (S' : St), j < N → SB <+: S' → ∀ w, w = tw1 p l[k] inv j →
        Ap SB none S' sa j 22 1 (((List.range j).map (tw1 p l[k] inv)).flatMap eU) →
        WP (rdN (some ⟨S'.length, 0, none⟩) 1) (S' ++ [.cells [vU w] 22 none]) fun xs S2 => WP (appM 22 1 8 sa j j 1 xs) S2 fun q S3 => ∃ n', n' < N - j ∧ ∃ (j' : Nat) (sa' : Option Addr), [Value.slice q.a q.n q.c, vI (wI ((j : Int) + 1))] = [Value.slice sa' j' j', vI (j' : Int)] ∧ j' ≤ N ∧ n' = N - j' ∧ Ap SB none S3 sa' j' 22 1 (((List.range j').map (tw1 p l[k] inv)).flatMap eU) := by
      rintro sa j S' hj hpre w rfl hap
      refine wp_push hap rfl (by omega) (by omega) rfl ?_
      intro b' S2 h6
      refine ⟨N - (j + 1), by omega, j + 1, _, by rw [wI_ (by omega) (by omega)]; rfl, by omega, rfl, ?_⟩
      rw [List.range_succ, List.map_append, List.flatMap_append]
      exact h6
    refine wp_loop (fun st S' m => ∃ (j : Nat) (sa : Option Addr), st = [.slice sa j j, vI j] ∧ j ≤ N ∧ m = N - j ∧ Ap SB none S' sa j 22 1 (((List.range j).map (tw1 p l[k] inv)).flatMap eU)) ?_ N _ _
      ⟨0, none, rfl, by omega, by omega, .nil⟩
    rintro st S' m ⟨j, sa, rfl, hj, rfl, hap⟩
    have hpre := hap.pre
    have hb5 := pre_get hpre hSB1
    simp only [wps, cell_blk hb5, hN]
    refine ⟨fun h4 => ?_, fun h4 => ?_⟩
    · have hj' : j < N := by omega
      have hfin := fin sa j S' hj' hpre
      have hu : wU (j : Int) = j := wU_ (by omega) (by omega)
      have hu2 : wU (N : Int) = N := wU_ (by omega) (by omega)
      have hrng := tw1_range p l[k] inv j
      have htw : tw1 p l[k] inv j = if inv = true then (invV p (mulF p (if l[k].neg = true then powM p (rootV p (wI (2 * l[k].N))).1 j else 1) l[k].N)).1 else (if l[k].neg = true then powM p (rootV p (wI (2 * l[k].N))).1 j else 1) := rfl
      rw [hN] at htw hrng
      refine ⟨fun h5 => ?_, fun h5 => ?_⟩
      · simp only [h5, if_true] at htw hrng
        have hpw := rpow_w (p := p) (a := (rootV p (wI (2 * (N : Int)))).1) (n := (j : Int)) (rootV_range _ _) ⟨by omega, by omega⟩
        rw [Int.toNat_natCast] at hpw
        simp only [rroot_w, wps, hu, hpw]
        generalize powM p (rootV p (wI (2 * (N : Int)))).1 j = x at htw hrng ⊢
        refine ⟨fun h6 => ?_, fun h6 => ?_⟩
        · rw [if_pos h6] at htw
          simp only [wps, cell_blk hb5, hN, hu2, rmul_w (p := p) hrng (show 0 ≤ (N : Int) ∧ (N : Int) < 18446744073709551616 by omega), rinv_w (p := p) (mulF_range p x N)]
          exact hfin _ htw.symm hap
        · rw [if_neg (by simp [h6])] at htw
          exact hfin _ htw.symm hap
      · simp only [h5, Bool.false_eq_true, if_false] at htw hrng
        refine ⟨fun h6 => ?_, fun h6 => ?_⟩
        · rw [if_pos h6] at htw
          simp only [wps, cell_blk hb5, hN, hu2, rmul_w (p := p) hrng (show 0 ≤ (N : Int) ∧ (N : Int) < 18446744073709551616 by omega), rinv_w (p := p) (mulF_range p 1 N)]
          exact hfin _ htw.symm hap
        · rw [if_neg (by simp [h6])] at htw
          exact hfin _ htw.symm hap
    · obtain rfl : j = N := by omega
      refine ⟨hSB2.trans hpre, sa, j, by simp, ?_⟩
      have := hap.ar (f := eU) (fun _ => rfl) (by decide)
      simpa using this
  · rw [etab]
    refine ⟨fun h4 => by (rw [h3] at h4; cases h4), fun _ => ?_⟩
    rw [wI_ (n := s.st.R * s.st.M) (by omega) (by omega)]
    simp only [rroot_w, wps, cell_blk hb]
    obtain ⟨R, hR⟩ := Int.eq_ofNat_of_zero_le (show 0 ≤ s.st.R by omega)
    obtain ⟨M', hM'⟩ := Int.eq_ofNat_of_zero_le (show 0 ≤ s.st.M by omega)
    generalize hO : s.st.R * s.st.M = o at hro p1 p2 ⊢
    have hRM : M' * R ≤ 4096 := by
      rw [hR, hM', ← Int.natCast_mul] at hO
      rw [Nat.mul_comm]; omega
    rw [hR, hM', Int.toNat_natCast, Int.toNat_natCast]
    refine wp_loop (fun st S' m => ∃ (j : Nat) (sa : Option Addr), st = [.slice sa (j * R) (j * R), vI j] ∧ j ≤ M' ∧ m = M' - j ∧ Ap S1 none S' sa (j * R) 22 1 ((rowsS p o inv R j).flatMap eU)) ?_ M' _ _
      ⟨0, none, by simp, by omega, by omega, by simpa [rowsS] using Ap.nil⟩
    rintro st S' m ⟨j, sa, rfl, hj, rfl, hap⟩
    have hbj := pre_get hap.pre hb
    simp only [wps, cell_blk hbj, hR]
    refine ⟨fun h4 => ?_, fun h4 => ?_⟩
    · have hj' : j < M' := by omega
      have hjr : j * R + R ≤ M' * R := by rw [← Nat.succ_mul]; exact Nat.mul_le_mul_right _ hj'
      refine wp_loop (fun st S3 m => ∃ (i : Nat) (sa : Option Addr), st = [.slice sa (j * R + i) (j * R + i), vI i] ∧ i ≤ R ∧ m = R - i ∧ Ap S1 none S3 sa (j * R + i) 22 1 ((rowsS p o inv R j ++ (List.range i).map fun r => st1 p o inv (j * r)).flatMap eU)) ?_ R _ _
        ⟨0, sa, by simp, by omega, by omega, by simpa using hap⟩
      rintro st S3 m ⟨i, sa', rfl, hi, rfl, hap3⟩
      simp only [wps]
      refine ⟨fun h5 => ?_, fun h5 => ?_⟩
      · have hi' : i < R := by omega
        have hji : j * i ≤ M' * R := Nat.mul_le_mul hj hi
        have hw : wU (wI ((j : Int) * (i : Int))) = ((j * i : Nat) : Int) := by
          rw [← Int.natCast_mul, wI_ (by omega) (by omega), wU_ (by omega) (by omega)]
        have hpw := rpow_w (p := p) (a := (rootV p o).1) (n := ((j * i : Nat) : Int)) (rootV_range _ _) ⟨by omega, by omega⟩
        rw [Int.toNat_natCast] at hpw
        simp only [hw, hpw, wps]
        have fin : ∀ w, w = st1 p o inv (j * i) → WP (rdN (some ⟨S3.length, 0, none⟩) 1) (S3 ++ [.cells [vU w] 22 none]) fun xs S2 => WP (appM 22 1 8 sa' (j * R + i) (j * R + i) 1 xs) S2 fun q S4 => ∃ n', n' < R - i ∧ ∃ (i' : Nat) (sa' : Option Addr), [Value.slice q.a q.n q.c, vI (wI ((i : Int) + 1))] = [Value.slice sa' (j * R + i') (j * R + i'), vI (i' : Int)] ∧ i' ≤ R ∧ n' = R - i' ∧ Ap S1 none S4 sa' (j * R + i') 22 1 ((rowsS p o inv R j ++ (List.range i').map fun r => st1 p o inv (j * r)).flatMap eU) := by
          rintro w rfl
          refine wp_push hap3 rfl (by omega) (by omega) rfl ?_
          intro b' S2 h6
          refine ⟨R - (i + 1), by omega, i + 1, _, by rw [wI_ (by omega) (by omega)]; rfl, by omega, rfl, ?_⟩
          rw [List.range_succ, List.map_append, ← List.append_assoc, List.flatMap_append]
          exact h6
        have hst : st1 p o inv (j * i) = if inv = true then (invV p (powM p (rootV p o).1 (j * i))).1 else powM p (rootV p o).1 (j * i) := rfl
        refine ⟨fun h6 => ?_, fun h6 => ?_⟩
        · rw [if_pos h6] at hst
          simp only [rinv_w (p := p) (powM_range p (rootV p o).1 (j * i)), wps]
          exact fin _ hst.symm
        · rw [if_neg (by simp [h6])] at hst
          exact fin _ hst.symm
      · obtain rfl : i = R := by omega
        refine ⟨M' - (j + 1), by omega, j + 1, sa', by rw [wI_ (by omega) (by omega), Nat.succ_mul]; rfl, by omega, rfl, ?_⟩
        rw [Nat.succ_mul]; exact hap3
    · obtain rfl : j = M' := by omega
      refine ⟨h0.trans hap.pre, sa, j * R, by rw [rowsS_len], ?_⟩
      have := hap.ar (f := eU) (fun _ => rfl) (by decide)
      rw [rowsS_len]; exact this
end Go.AM
set_option linter.unusedVariables false
set_option linter.unusedSimpArgs false
namespace Go.AM
open Go Go.Proofs.YtcilfgedcnehfaaGreatDoor
theorem rsteps_tail {inv : Bool} {k : Int} {sa : Option Addr} {N : Int} {neg : Bool} {q n1 : Nat} {S0 S : St} {dn : List Stp} {Q : Nat × List Value → St → Prop}
    (h : Ap S0 none S sa q 96 5 (dn.flatMap eStp)) (hn : S[n1]? = some (.cells [vI N, vB neg] 111 none)) (hk : 0 ≤ k ∧ k < 1000) (hsz : dn.length + (stagesV N).1.length + 1 ≤ 100000)
    (hq : ∀ sa' q' S', Ap S0 none S' sa' q' 96 5 ((dn ++ (stagesV N).1.map (stg k) ++ (if inv = true then [tw k] else [])).flatMap eStp) → Q (0, [.slice sa' q' q', vI (k + 1)]) S') :
    WP (k_r17_Steps_1 inv k n1 (0, [.slice sa q q])) S Q := by
  unfold k_r17_Steps_1
  simp only [wps, cell_blk hn]
  refine rstagesA_w.mono ?_
  rintro _ S1 ⟨b, rfl, hst⟩
  have h1 := hst.pre
  have hr := hst.ar (f := eSg) (fun _ => rfl) (by decide)
  have hne : ∀ x, b = some x → sa ≠ some ⟨x.block, 0, none⟩ := fun x hx e => by
    have := hst.new hx
    have h9 := h.lt e
    omega
  have h2 := h.more h1
  have hcode := (stagesV N).2
  generalize (stagesV N).1 = sts at hr hsz hq ⊢
  simp only [wps]
  refine wp_loop (fun st S' m => ∃ (j : Nat) (sa' : Option Addr) (q' : Nat), st = [.slice sa' q' q', vI j] ∧ j ≤ sts.length ∧ m = sts.length - j ∧ Ap S1 sa S' sa' q' 96 5 ((dn ++ (sts.take j).map (stg k)).flatMap eStp)) ?_ sts.length _ _
    ⟨0, sa, q, rfl, by omega, by omega, by simpa using h2.start⟩
  rintro st S' m ⟨j, sa', q', rfl, hj, rfl, ha⟩
  have hcnt := ha.cnt (fun _ => rfl) (by decide)
  simp only [List.length_append, List.length_map, List.length_take] at hcnt
  simp only [wps]
  refine ⟨fun h3 => ⟨h3, ?_⟩, fun h3 => ?_⟩
  · have hj' : j < sts.length := by omega
    obtain ⟨a, rfl, c1, c2, c3⟩ := (ha.kAr hr hne).getSg hj'
    simp only [wps, c1, c2, c3]
    refine wp_push (ha.more (List.prefix_append _ _)) rfl (by omega) (by omega) rfl ?_
    intro b' S2 h6
    simp only [wps]
    rw [wI_ (n := (j : Int) + 1) (by omega) (by omega)]
    refine ⟨sts.length - (j + 1), by omega, j + 1, _, _, rfl, by omega, rfl, ?_⟩
    have e : (dn ++ (sts.take (j + 1)).map (stg k)).flatMap eStp = (dn ++ (sts.take j).map (stg k)).flatMap eStp ++ [vI k, vB false, vI sts[j].R, vI sts[j].L, vI sts[j].M] := by
      have e0 : (sts.take (j + 1)).map (stg k) = (sts.take j).map (stg k) ++ [stg k sts[j]] := by
        rw [List.take_add_one, List.getElem?_eq_getElem hj', List.map_append]; rfl
      rw [e0, ← List.append_assoc, List.flatMap_append]; rfl
    rw [e]; exact h6
  · rw [List.take_of_length_le (by omega)] at ha
    rw [wI_ (n := k + 1) (by omega) (by omega)]
    refine ⟨fun hi => ?_, fun hi => ?_⟩
    · refine wp_push ha rfl (by omega) (by omega) rfl ?_
      intro b' S2 h6
      simp only [wps]
      refine hq _ _ _ ?_
      rw [hi, if_pos rfl]
      simpa [eStp, tw] using h2.trans h6
    · refine hq _ _ _ ?_
      rw [hi, if_neg (by simp), List.append_nil]
      exact h2.trans ha
theorem rsteps_w {p : Int} {S : St} {axes : Option Addr} {n c : Nat} {l : List Ax} (h : Ar S axes n 2 eAx l) (hl : n ≤ 8796093022208) (inv : Bool) :
    WP (g_r17_Steps [vU p, .slice axes n c, vB inv]) S fun v S' => ∃ a, v = vT [.slice a (stepsV p l inv).1.length (stepsV p l inv).1.length, vI (stepsV p l inv).2] ∧ Ap S none S' a (stepsV p l inv).1.length 96 5 ((stepsV p l inv).1.flatMap eStp) := by
  have hn := h.1
  rw [g_r17_Steps_eq]
  simp only [wps]
  refine (rgrid_w h hl).use ?_
  rintro _ S1 h1 rfl
  simp only [wps]
  unfold stepsV
  refine ⟨fun h2 => by rw [if_neg h2]; exact ⟨none, rfl, Ap.nil.more h1⟩, fun h2 => ?_⟩
  rw [if_pos h2]
  obtain ⟨hk, hal, hall⟩ := grid_ok h2
  have h4 : n ≤ 4 := by have := (allV_len hal).2.1; simp [dimsOf] at this; omega
  have hbig := (steps_are inv l (fun a ha => (hall a ha).1) l 0 rfl).2
  generalize hG : stepsGo inv 0 l = G
  have hG' : stepsGo inv ((0 : Nat) : Int) l = G := hG
  rw [hG'] at hbig
  refine wp_loop (fun st S' m => ∃ (j : Nat) (sa : Option Addr) (q : Nat) (dn : List Stp), st = [.slice sa q q, vI j] ∧ j ≤ n ∧ m = n - j ∧ Ap S1 none S' sa q 96 5 (dn.flatMap eStp) ∧
    dn ++ stepsGo inv j (l.drop j) = G) ?_ n _ _ ⟨0, none, 0, [], rfl, by omega, by omega, .nil, by simpa using hG'⟩
  rintro st S' m ⟨j, sa, q, dn, rfl, hj, rfl, ho, hd⟩
  have hq := ho.cnt (fun _ => rfl) (by decide)
  simp only [wps]
  refine ⟨fun h3 => ⟨h3, ?_⟩, fun h3 => ?_⟩
  · have hj' : j < l.length := by omega
    obtain ⟨a, rfl, c1, c2⟩ := (h.mono (h1.trans ho.pre)).getAx hj'
    rw [List.drop_eq_getElem_cons hj', stepsGo] at hd
    have hbd : dn.length + (stagesV l[j].N).1.length + 2 ≤ 100000 := by
      have : (dn ++ _).length = _ := congrArg List.length hd
      simp only [List.length_append, List.length_map] at this
      omega
    simp only [wps, c1, c2]
    have fin : ∀ (sa' : Option Addr) (q' : Nat) (S' : St), Ap S1 none S' sa' q' 96 5 ((dn ++ (if l[j].neg = true ∧ inv = false then [tw j] else []) ++ (stagesV l[j].N).1.map (stg j) ++ (if inv = true then [tw j] else [])).flatMap eStp) →
        ∃ n', n' < n - j ∧ ∃ (j_1 : Nat) (sa : Option Addr) (q : Nat) (dn : List Stp), [Value.slice sa' q' q', vI (j + 1)] = [Value.slice sa q q, vI ↑j_1] ∧ j_1 ≤ n ∧ n' = n - j_1 ∧ Ap S1 none S' sa q 96 5 (List.flatMap eStp dn) ∧ dn ++ stepsGo inv ↑j_1 (List.drop j_1 l) = G := by
      intro sa' q' S' hap
      refine ⟨n - (j + 1), by omega, j + 1, sa', q', _, by simp, by omega, rfl, hap, ?_⟩
      rw [← hd, show ((j : Int) + 1) = ((j + 1 : Nat) : Int) by omega]
      simp only [List.append_assoc]
    have hm := ho.more (List.prefix_append S' [.cells [vI l[j].N, vB l[j].neg] 111 none])
    refine ⟨fun h6 => ⟨fun h7 => ?_, fun h7 => ?_⟩, fun h6 => ?_⟩
    · refine wp_push (bt := 40) hm.start rfl (by omega) (by omega) rfl ?_
      intro b' S3 h8
      have h9 := hm.trans h8
      have e9 : dn.flatMap eStp ++ [vI (j : Int), vB true, vI 0, vI 0, vI 0] = (dn ++ [tw j]).flatMap eStp := by simp [eStp, tw]
      rw [e9] at h9
      refine rsteps_tail h9 (h8.cells get_new) ⟨by omega, by omega⟩ (by simp; omega) ?_
      intro sa' q' S' hap
      exact fin sa' q' S' (by rw [if_pos ⟨h7, h6⟩]; exact hap)
    · refine rsteps_tail hm get_new ⟨by omega, by omega⟩ (by omega) ?_
      intro sa' q' S' hap
      exact fin sa' q' S' (by rw [if_neg (by simp [h7]), List.append_nil]; exact hap)
    · refine rsteps_tail hm get_new ⟨by omega, by omega⟩ (by omega) ?_
      intro sa' q' S' hap
      exact fin sa' q' S' (by rw [if_neg (by simp [h6]), List.append_nil]; exact hap)
  · rw [List.drop_eq_nil_of_le (by omega), stepsGo, List.append_nil] at hd
    subst hd
    rw [← hq]
    exact ⟨sa, rfl, (Ap.nil.more h1).trans ho⟩
end Go.AM
set_option linter.unusedVariables false
set_option linter.unusedSimpArgs false
namespace Go.AM
open Go Go.Proofs.YtcilfgedcnehfaaGreatDoor
theorem rmake_w {p : Int} {S : St} {axes : Option Addr} {n c : Nat} {l : List Ax} (h : Ar S axes n 2 eAx l) (hl : n ≤ 8796093022208) (inv : Bool) :
    Sp (g_r17_Make [vU p, .slice axes n c, vB inv]) S fun v S' => ∃ a, v = vT [vA [vI (makeV p l inv).1.N, vI (makeV p l inv).1.T, vI (makeV p l inv).1.W, .slice a (makeV p l inv).1.st.length (makeV p l inv).1.st.length], vI (makeV p l inv).2] ∧
      Ar S' a (makeV p l inv).1.st.length 5 eStp (makeV p l inv).1.st := by
  unfold Sp
  have hn := h.1
  rw [g_r17_Make_eq]
  simp only [wps]
  refine (rsteps_w (h.mono (List.prefix_append _ _)) hl inv).mono ?_
  rintro _ S1 ⟨a, rfl, hap⟩
  have h1 := hap.pre
  have h0 := pre_of_add h1
  have hb := pre_get h1 get_new
  have har := hap.ar (f := eStp) (fun _ => rfl) (by decide)
  unfold makeV
  unfold stepsV at hap har ⊢
  by_cases h2 : gridV p l = 0
  · simp only [if_pos h2] at hap har ⊢
    obtain ⟨hk, hal, hall⟩ := grid_ok h2
    have h4 : n ≤ 4 := by have := (allV_len hal).2.1; simp [dimsOf] at this; omega
    obtain ⟨hst, hsl⟩ := steps_are inv l (fun a ha => (hall a ha).1) l 0 rfl
    simp only [wps]
    refine (r07dims_w (h.mono h0) hl).mono ?_
    rintro _ S2 ⟨a2, rfl, hd⟩
    have h5 := hd.pre
    have hd := hd.ar (f := eI) (fun _ => rfl) (by decide)
    simp only [wps, (r05all_w hd).wp, hal]
    have hN : (allV (dimsOf l)).1 = nV l := rfl
    rw [hN]
    generalize hG : stepsGo inv 0 l = G at hap har ⊢
    have hst : ∀ s ∈ G, IsStep l s := by rw [← hG]; exact hst
    have hsl : G.length ≤ l.length * 4098 := by rw [← hG]; exact hsl
    refine wp_loop (fun st S' m => ∃ (j : Nat) (t : Int), st = [vI t, vI j] ∧ j ≤ G.length ∧ m = G.length - j ∧ S2 <+: S' ∧ 0 ≤ t ∧ t ≤ 4096 ∧
      mkGo p l inv 0 G = mkGo p l inv t (G.drop j)) ?_ G.length _ _ ⟨0, 0, rfl, by omega, by omega, List.prefix_rfl, by omega, by omega, by simp⟩
    rintro st S' m ⟨j, t, rfl, hj, rfl, hp, ht0, ht1, hg⟩
    have h6 := h5.trans hp
    simp only [wps]
    refine ⟨fun h3 => ⟨h3, ?_⟩, fun h3 => ?_⟩
    · have hj' : j < G.length := by omega
      obtain ⟨x, rfl, c1, c2, c3, c4, c5⟩ := (har.mono h6).getStp hj'
      have hs := hst _ (List.getElem_mem hj')
      have hs0 := stepV_ok p l _ h2 hs
      have htl := tab_len inv h2 hs
      simp only [wps, c1, c2, c3, c4, c5]
      refine (rtable_w (h.mono ((h0.trans h6).trans (List.prefix_append _ _))) hl inv G[j]).use ?_
      rintro _ S3 h7 ⟨b, k, rfl, _⟩
      unfold tableV
      simp only [hs0, if_true]
      simp only [wps]
      refine ⟨G.length - (j + 1), by omega, j + 1, _, by rw [wI_ (n := (j : Int) + 1) (by omega) (by omega)]; rfl, by omega, rfl, hp.trans (pre_of_add h7), ?_, ?_, ?_⟩
      · split <;> omega
      · split <;> omega
      · rw [List.drop_eq_getElem_cons hj', mkGo] at hg
        exact hg
    · rw [List.drop_eq_nil_of_le (by omega), mkGo] at hg
      have hn1 := nV_range h2
      have hb3 := pre_get h6 hb
      have hlt2 := pre_lt hb3
      rw [wI_ (n := nV l + 6) (by omega) (by omega), wI_ (n := 2 * (nV l + 6)) (by omega) (by omega), wI_ (n := 2 * (nV l + 6) + t) (by omega) (by omega)]
      have g5 : ∀ c t g o, St.cell (S'.set S.length (AObj.cells c t g)) ⟨S.length, o, none⟩ = c[o]? := fun c t g o => cell_blk (List.getElem?_set_self hlt2) o
      simp only [wps, hb3, g5]
      refine ⟨pre_set' (h0.trans h6) (Nat.le_refl _), a, by rw [hg], (har.mono h6).set fun x hx => ?_⟩
      have := hap.new hx
      simp at this; omega
  · simp only [if_neg h2] at hap har ⊢
    have hlt := pre_lt hb
    have g5 : ∀ c t g o, St.cell (S1.set S.length (AObj.cells c t g)) ⟨S.length, o, none⟩ = c[o]? := fun c t g o => cell_blk (List.getElem?_set_self hlt) o
    simp only [wps, hb, g5]
    refine ⟨fun _ => ⟨pre_set' h0 (Nat.le_refl _), none, rfl, .nil⟩, fun h => absurd h h2⟩
end Go.AM
set_option linter.unusedVariables false
set_option linter.unusedSimpArgs false
namespace Go.AM
open Go Go.Proofs.YtcilfgedcnehfaaGreatDoor
theorem rin_w {p : Int} {S : St} {a : Option Addr} {n c : Nat} {l : List Int} (h : Ar S a n 1 eU l) (hl : n ≤ 140737488355328) :
    Gv (g_r01_In [vU p, .slice a n c]) S (vB (inV p l)) := by
  refine .of ?_
  have hn := h.1
  rw [g_r01_In_eq, rknown_w]
  unfold inV
  simp only [wps]
  refine wp_loop (fun st S' m => ∃ j : Nat, st = [vI j] ∧ j ≤ n ∧ m = n - j ∧ S' = S ∧ l.all (fun a => decide (a < p)) = (l.drop j).all (fun a => decide (a < p))) ?_ n _ _ ⟨0, rfl, by omega, by omega, rfl, by simp⟩
  rintro st S' m ⟨j, rfl, hj, rfl, rfl, hall⟩
  simp only [wps]
  refine ⟨fun h3 => ⟨h3, ?_⟩, fun h3 => ?_⟩
  · have hj' : j < l.length := by omega
    obtain ⟨x, rfl, c1⟩ := h.getU hj'
    rw [List.drop_eq_getElem_cons hj', List.all_cons] at hall
    simp only [wps, c1]
    refine ⟨fun h4 => ?_, fun h4 => ?_⟩
    · rw [hall, show decide (l[j] < p) = false by simp; omega]; simp
    · rw [show decide (l[j] < p) = true by simp; omega, Bool.true_and] at hall
      exact ⟨n - (j + 1), by omega, j + 1, by rw [wI_ (by omega) (by omega)]; rfl, by omega, rfl, hall⟩
  · rw [List.drop_eq_nil_of_le (by omega), List.all_nil] at hall
    rw [hall]; simp
theorem rcheck_w {S : St} {q : Req} {a1 a4 a5 : Option Addr} {c1 c4 c5 : Nat} (h : QA S q a1 a4 a5) :
    Sp (g_r17_Check [qv q a1 c1 a4 c4 a5 c5]) S fun v S' => v = vI (checkV q) := by
  unfold Sp
  rw [g_r17_Check_eq]
  simp only [wps]
  have hp : S <+: S ++ [AObj.cells (qc q a1 c1 a4 c4 a5 c5) 26 none] := List.prefix_append _ _
  have hb := get_new (S := S) (o := AObj.cells (qc q a1 c1 a4 c4 a5 c5) 26 none)
  have one : ¬ (1 ≤ q.batch ∧ q.batch ≤ 16 ∧ 0 ≤ q.retry ∧ q.retry ≤ 8 ∧ 0 ≤ q.again ∧ q.again ≤ 8) → checkV q = 1 := fun h => by unfold checkV; rw [if_neg h]
  have bad : ¬ (1 ≤ q.batch ∧ q.batch ≤ 16 ∧ 0 ≤ q.retry ∧ q.retry ≤ 8 ∧ 0 ≤ q.again ∧ q.again ≤ 8) → WP (k_r17_Check_1 S.length (1, [vI 1])) (S ++ [AObj.cells (qc q a1 c1 a4 c4 a5 c5) 26 none]) fun a S' => WP (oneV a) S' fun a S' => S <+: S' ∧ a = vI (checkV q) := fun hx => by
    unfold k_r17_Check_1
    simp only [wps]
    exact ⟨hp, by rw [one hx]⟩
  refine ⟨fun h1 => bad (by omega), fun h1 => ⟨fun h2 => bad (by omega), fun h2 => ⟨fun h3 => bad (by omega), fun h3 => ⟨fun h4 => bad (by omega), fun h4 => ⟨fun h5 => bad (by omega), fun h5 => ⟨fun h6 => bad (by omega), fun h6 => ?_⟩⟩⟩⟩⟩⟩
  unfold k_r17_Check_1
  simp only [wps, cell_blk hb]
  unfold checkV
  rw [if_pos (by omega)]
  refine (rgrid_w (h.ax.mono hp) h.b1).use ?_
  rintro _ S1 g1 rfl
  have hb1 := pre_get g1 hb
  have hq1 := hp.trans g1
  simp only [wps, cell_blk hb1]
  refine ⟨fun h2 => ⟨hq1, by rw [if_neg h2]⟩, fun h2 => ?_⟩
  rw [if_pos h2]
  obtain ⟨hk, hal, hall⟩ := grid_ok h2
  have hn1 := nV_range h2
  refine (r07dims_w (h.ax.mono hq1) h.b1).mono ?_
  rintro _ S2 ⟨b, rfl, hd⟩
  have hq2 := hq1.trans hd.pre
  have hb2 := pre_get hd.pre hb1
  have hd := hd.ar (f := eI) (fun _ => rfl) (by decide)
  have hN : (allV (dimsOf q.axes)).1 = nV q.axes := rfl
  have hnb : nV q.axes * q.batch ≤ 4096 * 16 := Int.mul_le_mul hn1.2 (by omega) (by omega) (by omega)
  have hnb0 : 0 ≤ nV q.axes * q.batch := Int.mul_nonneg (by omega) (by omega)
  simp only [wps, (r05all_w hd).wp, hal, hN, cell_blk hb2, (rin_w (p := q.P) (c := c4) (h.x.mono hq2) h.b2).wp]
  rw [wI_ (n := nV q.axes * q.batch) (by omega) (by omega)]
  refine ⟨fun h5 => ⟨hq2, by rw [if_neg (fun h => h5 h.symm)]⟩, fun h5 => ?_⟩
  rw [if_pos h5.symm]
  refine ⟨fun h7 => ⟨hq2, by rw [if_neg (by simp [h7])]⟩, fun h7 => ?_⟩
  rw [if_pos h7]
  refine ⟨fun h8 => ⟨hq2, by rw [if_neg (by omega)]⟩, fun h8 => ⟨fun h9 => ⟨hq2, by rw [if_neg (by omega)]⟩, fun h9 => ⟨hq2, by rw [if_pos (by omega)]⟩⟩⟩
end Go.AM
set_option linter.unusedVariables false
set_option linter.unusedSimpArgs false
namespace Go.AM
open Go Go.Proofs.YtcilfgedcnehfaaGreatDoor
end Go.AM
set_option linter.unusedVariables false
set_option linter.unusedSimpArgs false
namespace Go.AM
open Go Go.Proofs.YtcilfgedcnehfaaGreatDoor
def winsV (q : Req) : Int × Int := if checkV q = 0 then (1 + (q.retry + 1) * (((stepsGo q.inv 0 q.axes).length : Int) + 1), 0) else (0, checkV q)
theorem wins_w {S : St} {q : Req} {a1 a4 a5 : Option Addr} {c1 c4 c5 : Nat} (h : QA S q a1 a4 a5) :
    Sp (g_trial_Windows [qv q a1 c1 a4 c4 a5 c5]) S fun v S' => v = vT [vI (winsV q).1, vI (winsV q).2] := by
  unfold Sp
  rw [g_trial_Windows_eq]
  simp only [wps]
  have hp : S <+: S ++ [AObj.cells (qc q a1 c1 a4 c4 a5 c5) 26 none] := List.prefix_append _ _
  refine (check_w (c1 := c1) (c4 := c4) (c5 := c5) (h.mono hp)).use ?_
  rintro _ S1 h1 rfl
  have hb1 := pre_get h1 get_new
  simp only [wps, cell_blk hb1]
  unfold winsV
  refine ⟨fun hc => by rw [if_neg hc]; exact ⟨hp.trans h1, rfl⟩, fun hc => ?_⟩
  rw [if_pos hc]
  obtain ⟨q1, q2, _⟩ := check_ok hc
  obtain ⟨f1, f2, f3, f4⟩ := cost_facts q2
  refine (steps_w (h.ax.mono (hp.trans h1)) h.b1 q.inv).mono ?_
  rintro _ S2 ⟨a, rfl, hap⟩
  have hb2 := pre_get hap.pre hb1
  have hs : stepsV q.P q.axes q.inv = (stepsGo q.inv 0 q.axes, 0) := by unfold stepsV; rw [if_pos q2]
  rw [hs]
  simp only [wps, cell_blk hb2]
  refine ⟨hp.trans (h1.trans hap.pre), ?_⟩
  obtain ⟨m1, m2⟩ := mul_bnd (a := q.retry + 1) (A := 9) (b := ((stepsGo q.inv 0 q.axes).length : Int) + 1) (B := 16393) (by omega) (by omega) (by omega) (by omega)
  rw [wI_ (n := q.retry + 1) (by omega) (by omega), wI_ (n := ((stepsGo q.inv 0 q.axes).length : Int) + 1) (by omega) (by omega), wI_ (n := (q.retry + 1) * (((stepsGo q.inv 0 q.axes).length : Int) + 1)) (by omega) (by omega), wI_ (by omega) (by omega)]
def belowB (n most : Int) : Bool := decide (0 ≤ n ∧ n < most)
theorem below_w {n m : Int} : g_sparse_below [vI n, vI m] = M.ret (vB (belowB n m)) := by
  refine wp_eq fun S => ?_
  rw [g_sparse_below_eq]
  simp only [wps]
  unfold belowB
  refine ⟨fun h => ?_, fun h => ?_⟩
  · simp [h]
  · simp; omega
def liveE (q : Req) (wins W : Int) (x : Ev) : Bool := belowB x.it q.batch && belowB x.tr (q.again + 1) && belowB x.wi wins && belowB x.ad W && decide (x.ma ≠ 0)
theorem live1_w {S : St} {q : Req} {a1 a4 a5 : Option Addr} {c1 c4 c5 b0 b1 b2 : Nat} {wins N T W : Int} {sl : Value} {t0 t1 t2 : TypeId} {x : Ev} (h0 : S[b0]? = some (.cells (qc q a1 c1 a4 c4 a5 c5) t0 none))
    (h1 : S[b1]? = some (.cells [vI wins] t1 none)) (h2 : S[b2]? = some (.cells [vI N, vI T, vI W, sl] t2 none)) (hq : -1 ≤ q.again ∧ q.again ≤ 100) :
    Sp (g_sparse_Live_1 [x.val, .pointer (some ⟨b0, 0, none⟩), .pointer (some ⟨b1, 0, none⟩), .pointer (some ⟨b2, 0, none⟩)]) S fun v _ => v = vB (liveE q wins W x) := by
  unfold Sp
  rw [g_sparse_Live_1_eq]
  have hp : S <+: S ++ [AObj.cells [vI x.it, vI x.tr, vI x.wi, vI x.ti, vI x.ad, vU x.ma] 46 none] := List.prefix_append _ _
  have g0 := pre_get hp h0
  have g1 := pre_get hp h1
  have g2 := pre_get hp h2
  simp only [wps, cell_blk g0, cell_blk g1, cell_blk g2, below_w]
  rw [wI_ (n := q.again + 1) (by omega) (by omega)]
  unfold liveE
  refine ⟨fun e1 => ⟨fun e2 => ⟨fun e3 => ⟨fun e4 => ⟨hp, ?_⟩, fun e4 => ⟨hp, ?_⟩⟩, fun e3 => ⟨hp, ?_⟩⟩, fun e2 => ⟨hp, ?_⟩⟩, fun e1 => ⟨hp, ?_⟩⟩
  · simp only [e1, e2, e3, e4, Bool.true_and]
    congr 1
    by_cases h : x.ma = 0 <;> simp [h]
  · simp only [e1, e2, e3, e4, Bool.true_and, Bool.false_and]
  · simp only [e1, e2, e3, Bool.true_and, Bool.false_and]
  · simp only [e1, e2, Bool.true_and, Bool.false_and]
  · simp only [e1, Bool.true_and, Bool.false_and]
theorem picked_w {S : St} {C : FuncId → List Value → M Value} {may : Value} {f : Ev → Bool} {p : Option Addr} {n c : Nat} {l : List Ev} (h : Ar S p n 6 Ev.cells l) (hn : n ≤ 2932031007401)
    (hC : ∀ S1 (x : Ev), S <+: S1 → Sp (callV C may [x.val]) S1 fun v _ => v = vB (f x)) :
    WP (g_sparse_picked C [.slice p n c, may]) S fun v S' => ∃ a, v = .slice a (l.filter f).length (l.filter f).length ∧ Ap S none S' a (l.filter f).length 46 6 ((l.filter f).flatMap Ev.cells) := by
  have hl := h.1
  rw [g_sparse_picked_eq]
  simp only [wps]
  refine wp_loop (fun st S' m => ∃ (j : Nat) (a : Option Addr) (k : Nat), st = [.slice a k k, vI j] ∧ j ≤ n ∧ m = n - j ∧ Ap S none S' a k 46 6 (((l.take j).filter f).flatMap Ev.cells)) ?_ n _ _
    ⟨0, none, 0, rfl, by omega, by omega, Ap.nil⟩
  rintro st S' m ⟨j, a, k, rfl, hj, rfl, ha⟩
  have hcnt := ha.cnt (fun _ => rfl) (by decide)
  have hcl : ((l.take j).filter f).length ≤ n := Nat.le_trans (List.length_filter_le _ _) (by rw [List.length_take]; omega)
  simp only [wps]
  refine ⟨fun h3 => ⟨h3, ?_⟩, fun h3 => ?_⟩
  · have hj' : j < l.length := by omega
    obtain ⟨x, rfl, d0, d1, d2, d3, d4, d5⟩ := (h.mono ha.pre).getEv hj'
    have et : (l.take (j + 1)).filter f = (l.take j).filter f ++ (if f l[j] = true then [l[j]] else []) := by
      rw [List.take_add_one, List.getElem?_eq_getElem hj', List.filter_append]
      congr 1
      by_cases hf : f l[j] = true <;> simp [hf]
    simp only [wps, d0, d1, d2, d3, d4, d5]
    have hp2 := List.prefix_append S' [AObj.cells [vI l[j].it, vI l[j].tr, vI l[j].wi, vI l[j].ti, vI l[j].ad, vU l[j].ma] 46 none]
    refine (hC _ l[j] (ha.pre.trans hp2)).use ?_
    rintro _ S2 h5 rfl
    have hb := pre_get h5 get_new
    simp only [wps, cell_blk hb]
    rw [wI_ (n := (j : Int) + 1) (by omega) (by omega)]
    refine ⟨fun hf => ?_, fun hf => ?_⟩
    · refine wp_push (ha.more (hp2.trans h5)) rfl (by omega) (by omega) rfl ?_
      intro b' S3 h6
      simp only [wps]
      refine ⟨n - (j + 1), by omega, j + 1, _, _, rfl, by omega, rfl, ?_⟩
      rw [et, if_pos hf, List.flatMap_append]
      exact h6
    · refine ⟨n - (j + 1), by omega, j + 1, _, _, rfl, by omega, rfl, ?_⟩
      rw [et, if_neg (by simp [hf]), List.append_nil]
      exact ha.more (hp2.trans h5)
  · rw [List.take_of_length_le (by omega)] at ha hcnt
    subst hcnt
    exact ⟨_, rfl, ha⟩
def liveV (q : Req) (l : List Ev) : List Ev × Int :=
  if checkV q = 0 then (if 1024 < l.length then ([], 1) else (l.filter (liveE q (winsV q).1 (makeV q.P q.axes q.inv).1.W), 0)) else ([], checkV q)
theorem live_w {S : St} {q : Req} {a1 a4 a5 p : Option Addr} {c1 c4 c5 n c : Nat} {l : List Ev} (h : QA S q a1 a4 a5) (hl : Ar S p n 6 Ev.cells l) (hn : n ≤ 2932031007401) :
    Sp (g_sparse_Live [qv q a1 c1 a4 c4 a5 c5, .slice p n c]) S fun v S' => ∃ a, v = vT [.slice a (liveV q l).1.length (liveV q l).1.length, vI (liveV q l).2] ∧ Ap S none S' a (liveV q l).1.length 46 6 ((liveV q l).1.flatMap Ev.cells) := by
  have hln := hl.1
  unfold Sp
  rw [g_sparse_Live_eq]
  simp only [wps]
  have hp : S <+: S ++ [AObj.cells (qc q a1 c1 a4 c4 a5 c5) 26 none] := List.prefix_append _ _
  refine (wins_w (c1 := c1) (c4 := c4) (c5 := c5) (h.mono hp)).use ?_
  rintro _ S1 h1 rfl
  have hb1 := pre_get h1 get_new
  simp only [wps]
  have hp2 := List.prefix_append S1 [AObj.cells [vI (winsV q).1] 3 none]
  have hb2 := pre_get hp2 hb1
  unfold liveV
  by_cases hc : checkV q = 0
  · have hw : winsV q = (1 + (q.retry + 1) * (((stepsGo q.inv 0 q.axes).length : Int) + 1), 0) := by unfold winsV; rw [if_pos hc]
    obtain ⟨q1, q2, _⟩ := check_ok hc
    rw [if_pos hc]
    have hw2 : (winsV q).2 = 0 := by rw [hw]
    simp only [wps, hw2, chk10_w.wp]
    by_cases h24 : 1024 < l.length
    · simp only [if_pos h24, if_pos (show 1024 < n by omega)]
      exact ⟨fun _ => ⟨hp.trans (h1.trans hp2), none, rfl, Ap.nil.more (hp.trans (h1.trans hp2))⟩, fun h => absurd h (by decide)⟩
    · simp only [if_neg h24, if_neg (show ¬ 1024 < n by omega)]
      simp only [wps, cell_blk hb2]
      have hS2 := hp.trans (h1.trans hp2)
      refine (make_w (h.ax.mono hS2) h.b1 q.inv).use ?_
      rintro _ S3 h3 ⟨a, rfl, har⟩
      have hm2 : (makeV q.P q.axes q.inv).2 = 0 := by unfold makeV; rw [if_pos q2]
      simp only [wps, hm2]
      have hp4 := List.prefix_append S3 [AObj.cells [vI (makeV q.P q.axes q.inv).1.N, vI (makeV q.P q.axes q.inv).1.T, vI (makeV q.P q.axes q.inv).1.W, .slice a (makeV q.P q.axes q.inv).1.st.length (makeV q.P q.axes q.inv).1.st.length] 63 none]
      have hS4 := hS2.trans (h3.trans hp4)
      have e0 := pre_get (h3.trans hp4) hb2
      have e1 := pre_get (h3.trans hp4) (get_new (S := S1) (o := AObj.cells [vI (winsV q).1] 3 none))
      have e2 := get_new (S := S3) (o := AObj.cells [vI (makeV q.P q.axes q.inv).1.N, vI (makeV q.P q.axes q.inv).1.T, vI (makeV q.P q.axes q.inv).1.W, .slice a (makeV q.P q.axes q.inv).1.st.length (makeV q.P q.axes q.inv).1.st.length] 63 none)
      refine (picked_w (f := liveE q (winsV q).1 (makeV q.P q.axes q.inv).1.W) (hl.mono hS4) hn ?_).mono ?_
      · intro S5 x h5
        simp only [wps, beq_self_eq_true]
        exact live1_w (pre_get h5 e0) (pre_get h5 e1) (pre_get h5 e2) (by omega)
      · rintro _ S6 ⟨b, rfl, hap⟩
        simp only [wps]
        exact ⟨hS4.trans hap.pre, b, rfl, hap.base hS4⟩
  · have hw : winsV q = (0, checkV q) := by unfold winsV; rw [if_neg hc]
    rw [if_neg hc]
    have hw2 : (winsV q).2 = checkV q := by rw [hw]
    simp only [wps, hw2]
    exact ⟨fun _ => ⟨hp.trans (h1.trans hp2), none, rfl, Ap.nil.more (hp.trans (h1.trans hp2))⟩, fun h => absurd h hc⟩
def sureV (q : Req) (l : List Ev) : Bool × Int := if (liveV q l).2 = 0 then (sparseB (liveV q l).1 && decide (1 ≤ q.retry), 0) else (false, (liveV q l).2)
theorem sure_w {S : St} {q : Req} {a1 a4 a5 p : Option Addr} {c1 c4 c5 n c : Nat} {l : List Ev} (h : QA S q a1 a4 a5) (hl : Ar S p n 6 Ev.cells l) (hn : n ≤ 2932031007401) :
    Sp (g_sparse_Sure [qv q a1 c1 a4 c4 a5 c5, .slice p n c]) S fun v S' => v = vT [vB (sureV q l).1, vI (sureV q l).2] := by
  have hln := hl.1
  unfold Sp
  rw [g_sparse_Sure_eq]
  simp only [wps]
  have hp : S <+: S ++ [AObj.cells (qc q a1 c1 a4 c4 a5 c5) 26 none] := List.prefix_append _ _
  refine (live_w (c := c) (c1 := c1) (c4 := c4) (c5 := c5) (h.mono hp) (hl.mono hp) hn).use ?_
  rintro _ S1 h1 ⟨a, rfl, hap⟩
  have har := hap.ar (fun _ => rfl) (by decide)
  have hb1 := pre_get h1 get_new
  unfold sureV
  simp only [wps]
  refine ⟨fun h2 => by rw [if_neg h2]; exact ⟨hp.trans h1, rfl⟩, fun h2 => ?_⟩
  rw [if_pos h2]
  have hlen : (liveV q l).1.length ≤ 1024 := by
    unfold liveV at h2 ⊢
    split
    · split
      · simp
      · have := List.length_filter_le (liveE q (winsV q).1 (makeV q.P q.axes q.inv).1.W) l
        dsimp only; omega
    · simp
  simp only [wps, (sparse_w har hlen).wp, cell_blk hb1]
  refine ⟨fun h3 => ⟨hp.trans h1, ?_⟩, fun h3 => ⟨hp.trans h1, ?_⟩⟩
  · rw [h3, Bool.true_and]
  · rw [h3, Bool.false_and]
end Go.AM
set_option linter.unusedVariables false
set_option linter.unusedSimpArgs false
namespace Go.AM
open Go Go.Proofs.YtcilfgedcnehfaaGreatDoor
def ev3 (w : Int) : Ev := ⟨0, 0, w, 0, 0, 0⟩
theorem live23_w {S : St} : Sp (g_l23_live []) S fun v _ => v = vB true := by
  unfold Sp
  rw [g_l23_live_eq]
  simp only [wps]
  have hp : S <+: S ++ [AObj.cells ([ev3 3, ev3 4, ev3 5].flatMap Ev.cells) 46 none] := List.prefix_append _ _
  refine (thin_w (n := 3) (l := [ev3 3, ev3 4, ev3 5]) (ar_lit _ get_new rfl rfl) (by omega)).use ?_
  rintro _ S1 h1 ⟨a, rfl, har⟩
  have ht : thin [ev3 3, ev3 4, ev3 5] = [ev3 3, ev3 5] := by decide +kernel
  rw [ht] at har ⊢
  have hp2 := List.prefix_append S1 [AObj.cells ([ev3 3, ev3 5].flatMap Ev.cells) 46 none]
  simp only [wps]
  have := r10same_w (c := 2) (d := 2) (har.mono hp2) (ar_lit [ev3 3, ev3 5] (get_new (S := S1)) rfl rfl) (by simp)
  simp only [decide_true] at this
  refine (Gv.wp this _).mpr ?_
  simp only [wps]
  exact hp.trans (h1.trans hp2)
end Go.AM
set_option linter.unusedVariables false
set_option linter.unusedSimpArgs false
namespace Go.AM
open Go Go.Proofs.YtcilfgedcnehfaaGreatDoor
theorem nearW_comm (a b : Int) : nearW a b = nearW b a := by unfold nearW; rw [Int.max_comm, Int.min_comm]
theorem nearAny_eq (out : List Ev) (x : Ev) : nearAny out x = out.any fun y => nearE x y := by
  unfold nearAny sel
  rw [List.any_map, List.any_filter]
  congr 1
  funext y
  unfold nearE evKey
  simp only [Function.comp, nearW_comm x.wi y.wi, Prod.mk.injEq]
  by_cases h1 : x.it = y.it
  · by_cases h2 : x.tr = y.tr
    · simp [h1, h2]
    · have : ¬ y.tr = x.tr := fun e => h2 e.symm
      simp [h1, h2, this]
  · have : ¬ y.it = x.it := fun e => h1 e.symm
    simp [h1, this]
def thinV (l : List Ev) : List Ev × Int := if 1024 < l.length then ([], 1) else (thin l, 0)
theorem thin_ap {S : St} {p : Option Addr} {n c : Nat} {l : List Ev} (h : Ar S p n 6 Ev.cells l) (hn : n ≤ 2000) :
    WP (g_sparse_Thin [.slice p n c]) S fun v S' => ∃ a, v = vT [.slice a (thinV l).1.length (thinV l).1.length, vI (thinV l).2] ∧ Ap S none S' a (thinV l).1.length 46 6 ((thinV l).1.flatMap Ev.cells) := by
  have hl := h.1
  unfold thinV
  by_cases hc : 1024 < n
  · rw [if_pos (by omega)]
    exact (Gv.wp (thin_big_w h hc hn) _).mpr ⟨none, rfl, Ap.nil⟩
  rw [if_neg (by omega)]
  unfold g_sparse_Thin thinG readR
  simp only [wps]
  refine wp_rdA h (fun _ => rfl) ?_
  have : thinR n (l.flatMap Ev.cells) = some ((thin l).flatMap Ev.cells, (thin l).length, .int .i64 0) := by
    unfold thinR
    simp only [evOf_evs, if_pos (show n ≤ 1024 by omega)]
    rfl
  rw [this]
  rcases he : (thin l).length with _ | k
  · have : thin l = [] := List.eq_nil_of_length_eq_zero he
    dsimp only
    simp only [wps]
    exact ⟨none, rfl, by rw [this]; exact Ap.nil⟩
  · dsimp only
    refine ⟨_, _, rfl, _, rfl, ?_⟩
    refine ⟨by simp, fun i hi _ => List.getElem?_append_left hi, .inr ⟨_, rfl, Nat.le_refl _⟩, ?_, .inr ⟨_, rfl, get_new⟩, .inl rfl⟩
    rw [flat_len (e := Ev.cells) (w := 6) (fun _ => rfl), he]
theorem thin_step {l : List Ev} {j : Nat} (hj : j < l.length) : thin (l.take (j + 1)) = thin1 (thin (l.take j)) l[j] := by
  unfold thin; rw [take_snoc hj, List.foldl_append]; rfl
theorem thin_len (l : List Ev) : (thin l).length ≤ l.length := (thin_sub l).length_le
theorem any_take {l : List Ev} {f : Ev → Bool} {j : Nat} (hj : j < l.length) : (l.take (j + 1)).any f = ((l.take j).any f || f l[j]) := by
  rw [take_snoc hj, List.any_append]; simp
set_option maxHeartbeats 1000000 in
theorem rthin_w {S : St} {p : Option Addr} {n c : Nat} {l : List Ev} (h : Ar S p n 6 Ev.cells l) (hn : n ≤ 2000) :
    WP (g_r23_Thin [.slice p n c]) S fun v S' => ∃ a, v = vT [.slice a (thinV l).1.length (thinV l).1.length, vI (thinV l).2] ∧ Ap S none S' a (thinV l).1.length 46 6 ((thinV l).1.flatMap Ev.cells) := by
  have hl := h.1
  unfold thinV
  rw [g_r23_Thin_eq]
  by_cases hc : 1024 < n
  · simp only [wps, r10chk_w.wp, if_pos hc, if_pos (show 1024 < l.length by omega)]
    exact ⟨fun _ => ⟨none, rfl, Ap.nil⟩, fun h => absurd h (by decide)⟩
  simp only [wps, r10chk_w.wp, if_neg hc, if_neg (show ¬ 1024 < l.length by omega)]
  refine wp_loop (fun st S' m => ∃ (j : Nat) (a : Option Addr) (k : Nat), st = [.slice a k k, vI j] ∧ j ≤ n ∧ m = n - j ∧ Ap S none S' a k 46 6 ((thin (l.take j)).flatMap Ev.cells)) ?_ n _ _
    ⟨0, none, 0, rfl, by omega, by omega, Ap.nil⟩
  rintro st S' m ⟨j, a, k, rfl, hj, rfl, ha⟩
  have hcnt := ha.cnt (fun _ => rfl) (by decide)
  have hcl : k ≤ n := by rw [hcnt]; exact Nat.le_trans (thin_len _) (by rw [List.length_take]; omega)
  simp only [wps]
  refine ⟨fun h3 => ⟨h3, ?_⟩, fun h3 => ?_⟩
  · have hj' : j < l.length := by omega
    obtain ⟨ad1, rfl, d0, d1, d2, d3, d4, d5⟩ := (h.mono ha.pre).getEv hj'
    simp only [wps, d0, d1, d2, d3, d4, d5]
    have hp2 := List.prefix_append S' [AObj.cells [vI l[j].it, vI l[j].tr, vI l[j].wi, vI l[j].ti, vI l[j].ad, vU l[j].ma] 46 none]
    have hb := get_new (S := S') (o := AObj.cells [vI l[j].it, vI l[j].tr, vI l[j].wi, vI l[j].ti, vI l[j].ad, vU l[j].ma] 46 none)
    have ha2 := ha.more hp2
    have harO := ha2.ar (fun _ => rfl) (by decide)
    have hst := thin_step hj'
    generalize hO : thin (l.take j) = O at ha2 harO hcnt hst
    refine wp_loop (fun st S2 m => ∃ i : Nat, st = [vB ((O.take i).any fun y => nearE l[j] y), vI i] ∧ i ≤ k ∧ m = k - i ∧ S' ++ [AObj.cells [vI l[j].it, vI l[j].tr, vI l[j].wi, vI l[j].ti, vI l[j].ad, vU l[j].ma] 46 none] <+: S2) ?_ k _ _ ⟨0, rfl, by omega, rfl, List.prefix_rfl⟩
    rintro st S2 m ⟨i, rfl, hi, rfl, h4⟩
    simp only [wps]
    refine ⟨fun h5 => ⟨h5, ?_⟩, fun h5 => ?_⟩
    · have hi' : i < O.length := by omega
      obtain ⟨ad2, rfl, d0, d1, d2, d3, d4, d5⟩ := (harO.mono h4).getEv hi'
      have hp5 := List.prefix_append S2 [AObj.cells [vI O[i].it, vI O[i].tr, vI O[i].wi, vI O[i].ti, vI O[i].ad, vU O[i].ma] 46 none]
      have hb5 := get_new (S := S2) (o := AObj.cells [vI O[i].it, vI O[i].tr, vI O[i].wi, vI O[i].ti, vI O[i].ad, vU O[i].ma] 46 none)
      have hb6 := pre_get (h4.trans hp5) hb
      have hat := any_take (f := fun y => nearE l[j] y) hi'
      simp only [wps, d0, d1, d2, d3, d4, d5, cell_blk hb6, cell_blk hb5]
      rw [wI_ (n := (i : Int) + 1) (by omega) (by omega)]
      refine ⟨fun hq => ⟨k - (i + 1), by omega, i + 1, by rw [hat, hq]; rfl, by omega, rfl, h4.trans hp5⟩, fun hq => ?_⟩
      refine (r10near_w (x := l[j]) (y := O[i])).use ?_
      rintro _ S3 h6 rfl
      simp only [wps]
      exact ⟨k - (i + 1), by omega, i + 1, by rw [hat, hq]; rfl, by omega, rfl, h4.trans (hp5.trans h6)⟩
    · rw [List.take_of_length_le (by omega), ← nearAny_eq]
      rw [wI_ (n := (j : Int) + 1) (by omega) (by omega)]
      have hb6 := pre_get h4 hb
      have ha4 := ha2.more h4
      simp only [wps, cell_blk hb6]
      refine ⟨fun hq => ?_, fun hq => ?_⟩
      · refine wp_push (x := [vI l[j].it, vI l[j].tr, vI l[j].wi, vI l[j].ti, vI l[j].ad, vU l[j].ma]) ha4 rfl (by omega) (by omega) rfl ?_
        intro b4 S5 ha5
        simp only [wps]
        refine ⟨n - (j + 1), by omega, j + 1, _, _, rfl, by omega, rfl, ?_⟩
        rw [hst]
        unfold thin1
        rw [hq, if_neg (by simp), List.flatMap_append, List.flatMap_singleton]
        exact ha5
      · refine ⟨n - (j + 1), by omega, j + 1, _, _, rfl, by omega, rfl, ?_⟩
        rw [hst]
        unfold thin1
        rw [hq, if_pos rfl]
        exact ha4
  · rw [List.take_of_length_le (by omega)] at ha hcnt
    exact ⟨a, by rw [hcnt], by rw [← hcnt]; exact ha⟩
theorem rwins_w {S : St} {q : Req} {a1 a4 a5 : Option Addr} {c1 c4 c5 : Nat} (h : QA S q a1 a4 a5) :
    Sp (g_r20_Windows [qv q a1 c1 a4 c4 a5 c5]) S fun v S' => v = vT [vI (winsV q).1, vI (winsV q).2] := by
  unfold Sp
  rw [g_r20_Windows_eq]
  simp only [wps]
  have hp : S <+: S ++ [AObj.cells (qc q a1 c1 a4 c4 a5 c5) 26 none] := List.prefix_append _ _
  refine (rcheck_w (c1 := c1) (c4 := c4) (c5 := c5) (h.mono hp)).use ?_
  rintro _ S1 h1 rfl
  have hb1 := pre_get h1 get_new
  simp only [wps, cell_blk hb1]
  unfold winsV
  refine ⟨fun hc => by rw [if_neg hc]; exact ⟨hp.trans h1, rfl⟩, fun hc => ?_⟩
  rw [if_pos hc]
  obtain ⟨q1, q2, _⟩ := check_ok hc
  obtain ⟨f1, f2, f3, f4⟩ := cost_facts q2
  refine (rsteps_w (h.ax.mono (hp.trans h1)) h.b1 q.inv).mono ?_
  rintro _ S2 ⟨a, rfl, hap⟩
  have hb2 := pre_get hap.pre hb1
  have hs : stepsV q.P q.axes q.inv = (stepsGo q.inv 0 q.axes, 0) := by unfold stepsV; rw [if_pos q2]
  rw [hs]
  simp only [wps, cell_blk hb2]
  refine ⟨hp.trans (h1.trans hap.pre), ?_⟩
  obtain ⟨m1, m2⟩ := mul_bnd (a := q.retry + 1) (A := 9) (b := ((stepsGo q.inv 0 q.axes).length : Int) + 1) (B := 16393) (by omega) (by omega) (by omega) (by omega)
  rw [wI_ (n := q.retry + 1) (by omega) (by omega), wI_ (n := ((stepsGo q.inv 0 q.axes).length : Int) + 1) (by omega) (by omega), wI_ (n := (q.retry + 1) * (((stepsGo q.inv 0 q.axes).length : Int) + 1)) (by omega) (by omega), wI_ (by omega) (by omega)]
theorem liveE_iff {q : Req} {wins W : Int} {x : Ev} : liveE q wins W x = true ↔ (¬ x.it < 0 ∧ ¬ q.batch ≤ x.it) ∧ (¬ x.tr < 0 ∧ ¬ q.again < x.tr) ∧ (¬ x.wi < 0 ∧ ¬ wins ≤ x.wi) ∧ x.nothing W = false := by
  unfold liveE belowB Ev.nothing
  simp only [Bool.and_eq_true, decide_eq_true_eq, Bool.or_eq_false_iff, decide_eq_false_iff_not, beq_eq_false_iff_ne]
  constructor
  · rintro ⟨⟨⟨⟨h1, h2⟩, h3⟩, h4⟩, h5⟩
    exact ⟨by omega, by omega, by omega, ⟨h5, by omega⟩, by omega⟩
  · rintro ⟨h1, h2, h3, ⟨h4, h5⟩, h6⟩
    exact ⟨⟨⟨⟨by omega, by omega⟩, by omega⟩, by omega⟩, h4⟩
set_option maxHeartbeats 1000000 in
set_option maxRecDepth 20000 in
theorem rlive_w {S : St} {q : Req} {a1 a4 a5 p : Option Addr} {c1 c4 c5 n c : Nat} {l : List Ev} (h : QA S q a1 a4 a5) (hl : Ar S p n 6 Ev.cells l) (hn : n ≤ 2000) :
    Sp (g_r23_Live [qv q a1 c1 a4 c4 a5 c5, .slice p n c]) S fun v S' => ∃ a, v = vT [.slice a (liveV q l).1.length (liveV q l).1.length, vI (liveV q l).2] ∧ Ap S none S' a (liveV q l).1.length 46 6 ((liveV q l).1.flatMap Ev.cells) := by
  have hln := hl.1
  unfold Sp
  rw [g_r23_Live_eq]
  simp only [wps]
  have hp : S <+: S ++ [AObj.cells (qc q a1 c1 a4 c4 a5 c5) 26 none] := List.prefix_append _ _
  refine (rcheck_w (c1 := c1) (c4 := c4) (c5 := c5) (h.mono hp)).use ?_
  rintro _ S1 h1 rfl
  have hb1 := pre_get h1 get_new
  have h01 := hp.trans h1
  unfold liveV
  by_cases hc : checkV q = 0
  · obtain ⟨q1, q2, _⟩ := check_ok hc
    rw [if_pos hc]
    simp only [wps, hc, r10chk_w.wp]
    by_cases h24 : 1024 < l.length
    · simp only [if_pos h24, if_pos (show 1024 < n by omega)]
      exact ⟨fun _ => ⟨h01, none, rfl, Ap.nil.more h01⟩, fun h => absurd h (by decide)⟩
    · simp only [if_neg h24, if_neg (show ¬ 1024 < n by omega)]
      simp only [wps, cell_blk hb1]
      refine (rmake_w (h.ax.mono h01) h.b1 q.inv).use ?_
      rintro _ S3 h3 ⟨a, rfl, har⟩
      have hm2 : (makeV q.P q.axes q.inv).2 = 0 := by unfold makeV; rw [if_pos q2]
      have hp4 := List.prefix_append S3 [AObj.cells [vI (makeV q.P q.axes q.inv).1.N, vI (makeV q.P q.axes q.inv).1.T, vI (makeV q.P q.axes q.inv).1.W, .slice a (makeV q.P q.axes q.inv).1.st.length (makeV q.P q.axes q.inv).1.st.length] 63 none]
      have hb4 := pre_get (h3.trans hp4) hb1
      have e2 := get_new (S := S3) (o := AObj.cells [vI (makeV q.P q.axes q.inv).1.N, vI (makeV q.P q.axes q.inv).1.T, vI (makeV q.P q.axes q.inv).1.W, .slice a (makeV q.P q.axes q.inv).1.st.length (makeV q.P q.axes q.inv).1.st.length] 63 none)
      have h04 := h01.trans (h3.trans hp4)
      simp only [wps, cell_blk hb4]
      refine (rwins_w (c1 := c1) (c4 := c4) (c5 := c5) (h.mono h04)).use ?_
      rintro _ S5 h5 rfl
      have hb5 := pre_get h5 hb4
      have e5 := pre_get h5 e2
      have h05 := h04.trans h5
      generalize hW : (makeV q.P q.axes q.inv).1.W = W at e5
      generalize (winsV q).1 = wins
      simp only [wps]
      refine wp_loop (fun st S' m => ∃ (j : Nat) (a : Option Addr) (k : Nat), st = [.slice a k k, vI j] ∧ j ≤ n ∧ m = n - j ∧ Ap S5 none S' a k 46 6 (((l.take j).filter (liveE q wins W)).flatMap Ev.cells)) ?_ n _ _
        ⟨0, none, 0, rfl, by omega, by omega, Ap.nil⟩
      rintro st S' m ⟨j, a, k, rfl, hj, rfl, ha⟩
      have hcnt := ha.cnt (fun _ => rfl) (by decide)
      have hcl : ((l.take j).filter (liveE q wins W)).length ≤ n := Nat.le_trans (List.length_filter_le _ _) (by rw [List.length_take]; omega)
      simp only [wps]
      refine ⟨fun g3 => ⟨g3, ?_⟩, fun g3 => ?_⟩
      · have hj' : j < l.length := by omega
        obtain ⟨x, rfl, d0, d1, d2, d3, d4, d5⟩ := (hl.mono (h05.trans ha.pre)).getEv hj'
        have et : (l.take (j + 1)).filter (liveE q wins W) = (l.take j).filter (liveE q wins W) ++ (if liveE q wins W l[j] = true then [l[j]] else []) := by
          rw [take_snoc hj', List.filter_append]
          congr 1
          by_cases hf : liveE q wins W l[j] = true <;> simp [hf]
        have hp6 := List.prefix_append S' [AObj.cells [vI l[j].it, vI l[j].tr, vI l[j].wi, vI l[j].ti, vI l[j].ad, vU l[j].ma] 46 none]
        have hb6 := get_new (S := S') (o := AObj.cells [vI l[j].it, vI l[j].tr, vI l[j].wi, vI l[j].ti, vI l[j].ad, vU l[j].ma] 46 none)
        have hq6 := pre_get (ha.pre.trans hp6) hb5
        have hw6 := pre_get (ha.pre.trans hp6) e5
        unfold k_r23_Live_1
        simp only [wps, d0, d1, d2, d3, d4, d5, cell_blk hb6, cell_blk hq6, cell_blk hw6]
        rw [wI_ (n := (j : Int) + 1) (by omega) (by omega)]
        have skip : ∀ S7, S' ++ [AObj.cells [vI l[j].it, vI l[j].tr, vI l[j].wi, vI l[j].ti, vI l[j].ad, vU l[j].ma] 46 none] <+: S7 → liveE q wins W l[j] = false → ∃ n' < n - j, ∃ (j' : Nat) (a' : Option Addr) (k' : Nat), [Value.slice a k k, vI ((j : Int) + 1)] = [Value.slice a' k' k', vI j'] ∧ j' ≤ n ∧ n' = n - j' ∧
            Ap S5 none S7 a' k' 46 6 (((l.take j').filter (liveE q wins W)).flatMap Ev.cells) := by
          intro S7 h7 hf
          refine ⟨n - (j + 1), by omega, j + 1, _, _, rfl, by omega, rfl, ?_⟩
          rw [et, if_neg (by simp [hf]), List.append_nil]
          exact ha.more (hp6.trans h7)
        have notl : ∀ (P : Prop), P → (liveE q wins W l[j] = true → ¬ P) → liveE q wins W l[j] = false := fun P hP hn => by
          cases hh : liveE q wins W l[j] with
          | false => rfl
          | true => exact absurd hP (hn hh)
        refine ⟨fun e1 => skip _ List.prefix_rfl (notl _ e1 fun h => (liveE_iff.1 h).1.1), fun e1 => ⟨fun e2' => skip _ List.prefix_rfl (notl _ e2' fun h => (liveE_iff.1 h).1.2), fun e2' => ⟨fun e3 => skip _ List.prefix_rfl (notl _ e3 fun h => (liveE_iff.1 h).2.1.1),
          fun e3 => ⟨fun e4 => skip _ List.prefix_rfl (notl _ e4 fun h => (liveE_iff.1 h).2.1.2), fun e4 => ⟨fun e5' => skip _ List.prefix_rfl (notl _ e5' fun h => (liveE_iff.1 h).2.2.1.1), fun e5' => ⟨fun e6 => skip _ List.prefix_rfl (notl _ e6 fun h => (liveE_iff.1 h).2.2.1.2), fun e6 => ?_⟩⟩⟩⟩⟩⟩
        refine (r10nothing_w (x := l[j]) (n := W)).use ?_
        rintro _ S7 h7 rfl
        have hb7 := pre_get h7 hb6
        simp only [wps, cell_blk hb7]
        refine ⟨fun e7 => skip _ h7 (notl _ e7 fun h => by rw [(liveE_iff.1 h).2.2.2]; simp), fun e7 => ?_⟩
        have hlive : liveE q wins W l[j] = true := liveE_iff.2 ⟨⟨e1, e2'⟩, ⟨e3, e4⟩, ⟨e5', e6⟩, e7⟩
        refine wp_push (x := [vI l[j].it, vI l[j].tr, vI l[j].wi, vI l[j].ti, vI l[j].ad, vU l[j].ma]) (ha.more (hp6.trans h7)) rfl (by omega) (by omega) rfl ?_
        intro b' S8 h8
        simp only [wps]
        refine ⟨n - (j + 1), by omega, j + 1, _, _, rfl, by omega, rfl, ?_⟩
        rw [et, if_pos hlive, List.flatMap_append, List.flatMap_singleton]
        exact h8
      · rw [List.take_of_length_le (by omega)] at ha hcnt
        exact ⟨h05.trans ha.pre, a, by rw [hcnt], by rw [← hcnt]; exact ha.base h05⟩
  · rw [if_neg hc]
    simp only [wps]
    exact ⟨fun _ => ⟨h01, none, rfl, Ap.nil.more h01⟩, fun h => absurd h hc⟩
theorem live_sub (q : Req) (l : List Ev) : (liveV q l).1.Sublist l := by
  unfold liveV
  split
  · split
    · exact List.nil_sublist _
    · exact List.filter_sublist
  · exact List.nil_sublist _
theorem live_len (q : Req) (l : List Ev) : (liveV q l).1.length ≤ 1024 := by
  unfold liveV
  split
  · split
    · simp
    · have := List.length_filter_le (liveE q (winsV q).1 (makeV q.P q.axes q.inv).1.W) l
      dsimp only; omega
  · simp
theorem rsure_w {S : St} {q : Req} {a1 a4 a5 p : Option Addr} {c1 c4 c5 n c : Nat} {l : List Ev} (h : QA S q a1 a4 a5) (hl : Ar S p n 6 Ev.cells l) (hn : n ≤ 2000) (hr : ∀ x ∈ l, i64r x.wi) :
    Sp (g_r23_Sure [qv q a1 c1 a4 c4 a5 c5, .slice p n c]) S fun v S' => v = vT [vB (sureV q l).1, vI (sureV q l).2] := by
  have hln := hl.1
  unfold Sp
  rw [g_r23_Sure_eq]
  simp only [wps]
  have hp : S <+: S ++ [AObj.cells (qc q a1 c1 a4 c4 a5 c5) 26 none] := List.prefix_append _ _
  refine (rlive_w (c := c) (c1 := c1) (c4 := c4) (c5 := c5) (h.mono hp) (hl.mono hp) hn).use ?_
  rintro _ S1 h1 ⟨a, rfl, hap⟩
  have har := hap.ar (fun _ => rfl) (by decide)
  have hb1 := pre_get h1 get_new
  unfold sureV
  simp only [wps]
  refine ⟨fun h2 => by rw [if_neg h2]; exact ⟨hp.trans h1, rfl⟩, fun h2 => ?_⟩
  rw [if_pos h2]
  have hlen := live_len q l
  refine (r10sparse_w har (Nat.le_refl _) (fun x hx => hr x ((live_sub q l).mem hx))).use ?_
  rintro _ S2 h3 rfl
  have hd : decide ((liveV q l).1.length ≤ 1024) = true := by simpa using hlen
  have hb2 := pre_get h3 hb1
  simp only [wps, cell_blk hb2, hd, Bool.true_and]
  refine ⟨fun h4 => ⟨hp.trans (h1.trans h3), ?_⟩, fun h4 => ⟨hp.trans (h1.trans h3), ?_⟩⟩
  · rw [h4, Bool.true_and]
  · rw [h4, Bool.false_and]
theorem Ap.stay {S S1 S2 : St} {a : Option Addr} {k : Nat} {t : TypeId} {w : Nat} {cs : List Value} (h : Ap S none S1 a k t w cs) (hs : S <+: S2) (hk : ∀ b, a = some ⟨b, 0, none⟩ → ∀ o, S1[b]? = some o → S2[b]? = some o) : Ap S none S2 a k t w cs where
  len := hs.length_le
  keep := fun i hi _ => pre_at hs hi
  at_ := h.at_
  size := h.size
  own := h.own.imp id fun ⟨b, h1, h2⟩ => ⟨b, h1, hk b h1 _ h2⟩
  was := .inl rfl
set_option maxHeartbeats 2000000 in
set_option maxRecDepth 20000 in
theorem does23b_w {S0 S : St} {q : Req} {a1 a4 a5 p : Option Addr} {c1 c4 c5 n c b : Nat} {l : List Ev} (h0 : S0 <+: S) (hq : QA S q a1 a4 a5) (hb : S[b]? = some (.cells (qc q a1 c1 a4 c4 a5 c5) 26 none)) (h : Ar S p n 6 Ev.cells l) (hr : ∀ x ∈ l, i64r x.wi) (hn : n ≤ 40 ∨ 1024 < n ∧ n ≤ 1030) :
    WP (k_l23_SparseDoes_2 p n c b (0, [])) S fun q S' => WP (oneV q) S' fun v S' => S0 <+: S' ∧ v = vB true := by
  have hl := h.1
  unfold k_l23_SparseDoes_2
  simp only [wps]
  refine wp_rdA h (fun _ => rfl) ?_
  refine wp_apps (m := n) Ap.nil (by rw [evc_len]; omega) (by omega) (by omega) (by omega) (evs_leaf l) ?_
  intro aq S1 haq
  rw [List.nil_append, Nat.zero_add] at haq
  have hcp := haq.ar (fun _ => rfl) (by decide)
  have h1 := haq.pre
  simp only [wps]
  refine (thin_ap (c := c) (h.mono h1) (by omega)).mono ?_
  rintro _ S2 ⟨a2, rfl, ha2⟩
  have h2 := h1.trans ha2.pre
  simp only [wps]
  refine (rthin_w (c := c) (h.mono h2) (by omega)).mono ?_
  rintro _ S3 ⟨a3, rfl, ha3⟩
  have h3 := h2.trans ha3.pre
  have hb3 := pre_get h3 hb
  simp only [wps, cell_blk hb3]
  refine (live_w (c := c) (c1 := c1) (c4 := c4) (c5 := c5) (hq.mono h3) (h.mono h3) (by omega)).use ?_
  rintro _ S4 h34 ⟨a4', rfl, ha4⟩
  have h4 := h3.trans h34
  have hb4 := pre_get h4 hb
  simp only [wps, cell_blk hb4]
  refine (rlive_w (c := c) (c1 := c1) (c4 := c4) (c5 := c5) (hq.mono h4) (h.mono h4) (by omega)).use ?_
  rintro _ S5 h45 ⟨a5', rfl, ha5⟩
  have h5 := h4.trans h45
  have hb5 := pre_get h5 hb
  simp only [wps, cell_blk hb5]
  refine (sure_w (c := c) (c1 := c1) (c4 := c4) (c5 := c5) (hq.mono h5) (h.mono h5) (by omega)).use ?_
  rintro _ S6 h56 rfl
  have h6 := h5.trans h56
  have hb6 := pre_get h6 hb
  simp only [wps, cell_blk hb6]
  refine (rsure_w (c := c) (c1 := c1) (c4 := c4) (c5 := c5) (hq.mono h6) (h.mono h6) (by omega) hr).use ?_
  rintro _ S7 h67 rfl
  have h7 := h6.trans h67
  have h27 := ha3.pre.trans (h34.trans (h45.trans (h56.trans h67)))
  have h47 := h45.trans (h56.trans h67)
  have htl : (thinV l).1.length ≤ 1030 := by
    unfold thinV
    split
    · simp
    · have := thin_len l; dsimp only; omega
  have hll := live_len q l
  have s1 := r10same_w (c := (thinV l).1.length) (d := (thinV l).1.length) ((ha2.ar (fun _ => rfl) (by decide)).mono h27) ((ha3.ar (fun _ => rfl) (by decide)).mono (h34.trans h47)) (by omega)
  have s2 := r10same_w (c := (liveV q l).1.length) (d := (liveV q l).1.length) ((ha4.ar (fun _ => rfl) (by decide)).mono h47) ((ha5.ar (fun _ => rfl) (by decide)).mono (h56.trans h67)) (by omega)
  simp only [decide_true] at s1 s2
  simp only [wps, s1.wp, s2.wp, beq_self_eq_true]
  unfold k_l23_SparseDoes_1
  simp only [wps]
  have hA2 : Ap S1 none S7 a2 (thinV l).1.length 46 6 ((thinV l).1.flatMap Ev.cells) := ha2.more h27
  have hA4 : Ap S3 none S7 a4' (liveV q l).1.length 46 6 ((liveV q l).1.flatMap Ev.cells) := ha4.more h47
  refine mutE_w hA2 (by omega) fun S8 h18 hk8 => ?_
  simp only [wps]
  have h13 : S1 <+: S3 := ha2.pre.trans ha3.pre
  have hA4' : Ap S1 none S8 a4' (liveV q l).1.length 46 6 ((liveV q l).1.flatMap Ev.cells) := by
    refine (hA4.base h13).stay h18 fun b4 e4 o ho => hk8 b4 o ho ?_
    intro e2
    have l2 := ha2.lt e2
    have l4 := ha4.new e4
    have := ha3.pre.length_le
    dsimp at l4
    omega
  refine mutE_w hA4' (by omega) fun S9 h19 _ => ?_
  have s3 := r10same_w (c := c) (d := n) (h.mono (h1.trans h19)) (hcp.mono h19) (by omega)
  simp only [decide_true] at s3
  simp only [wps, s3.wp]
  exact h0.trans (h1.trans h19)
set_option maxRecDepth 20000 in
theorem does23_law {S : St} {q : Req} {a1 a4 a5 p : Option Addr} {c1 c4 c5 n c : Nat} {l : List Ev} (hq : QA S q a1 a4 a5) (h : Ar S p n 6 Ev.cells l) (hr : ∀ x ∈ l, i64r x.wi) :
    Sp (g_l23_SparseDoes [qv q a1 c1 a4 c4 a5 c5, .slice p n c]) S fun v _ => v = vB true := by
  unfold Sp
  rw [g_l23_SparseDoes_eq]
  simp only [wps]
  have hp : S <+: S ++ [AObj.cells (qc q a1 c1 a4 c4 a5 c5) 26 none] := List.prefix_append _ _
  refine live23_w.use ?_
  rintro _ S1 h1 rfl
  have hb1 := pre_get h1 get_new
  have h01 := hp.trans h1
  simp only [wps, cell_blk hb1]
  refine (r17few_w (c1 := c1) (c4 := c4) (c5 := c5) (hq.mono h01) (by omega)).use ?_
  rintro _ S2 h2 rfl
  have h02 := h01.trans h2
  have hb2 := pre_get h2 hb1
  have early : WP (k_l23_SparseDoes_2 p n c S.length (1, [vB true])) S2 fun q S' => WP (oneV q) S' fun v S' => S <+: S' ∧ v = vB true := by
    unfold k_l23_SparseDoes_2
    simp only [wps]
    exact h02
  simp only [wps]
  repeat' refine And.intro (fun _ => ?_) (fun _ => ?_)
  all_goals first
    | exact early
    | exact does23b_w h02 (hq.mono h02) hb2 (h.mono h02) hr (by omega)
end Go.AM
