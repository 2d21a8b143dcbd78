/-
  Part of the proof of a law: what the functions compute. Conditions: none.
-/
import Derived.Test.YtcilfgedcnehfaaGreatDoorVW1
set_option linter.unusedVariables false
set_option linter.unusedSectionVars false
set_option linter.unusedSimpArgs false
set_option linter.deprecated false
set_option linter.unusedVariables false
set_option linter.unusedSimpArgs false
namespace Go.AM
open Go Go.Proofs.YtcilfgedcnehfaaGreatDoor
theorem live24_w {S : St} : Sp (g_l24_live []) S fun v _ => v = vB true := by
  unfold Sp
  rw [g_l24_live_eq]
  simp only [wps]
  refine (match_w (l := []) (rs := []) (p := none) (r := none) (n := 0) (m := 0) (Ar.nil) (Ar.nil) (by simp) (by simp)).use ?_
  rintro _ S1 h1 rfl
  simp only [wps]
  have hp := List.prefix_append S1 [AObj.cells [vI 0, vI 0, vI 0, vI 0, vU 0, vU 0] 51 none]
  have hr : Ar (S1 ++ [AObj.cells [vI 0, vI 0, vI 0, vI 0, vU 0, vU 0] 51 none]) (some (ad S1.length 0)) 1 6 Rc.cells [⟨0, 0, 0, 0, 0, 0⟩] := Ar.blk (l := [(⟨0, 0, 0, 0, 0, 0⟩ : Rc)]) get_new (fun _ _ => rfl) rfl
  refine (match_w (l := []) (p := none) (n := 0) (Ar.nil) hr (by simp) (by simp [i64r])).use ?_
  rintro _ S2 h2 rfl
  simp only [wps]
  have e1 : matchV [] [] = (true, 0) := by simp [matchV]
  have e2 : matchV [] [(⟨0, 0, 0, 0, 0, 0⟩ : Rc)] = (false, 0) := by simp [matchV]
  rw [e1, e2]
  have hS := h1.trans (hp.trans h2)
  simp [hS]
set_option maxRecDepth 20000 in
theorem does24_law {S : St} {q : Req} {a1 a4 a5 p b1 b2 b3 : Option Addr} {c1 c4 c5 d1 d2 d3 n c : Nat} {l : List Ev} {r : Rp} (hq : QA S q a1 a4 a5) (h : Ar S p n 6 Ev.cells l) (hr : ∀ x ∈ l, i64r x.wi) (k : RA S r b1 b2 b3) (hk : ∀ x ∈ r.fixes, i64r x.wi) (hd : r.slips.length ≤ d2 ∧ r.falls.length ≤ d3) :
    Sp (g_l24_AuditDoes [qv q a1 c1 a4 c4 a5 c5, .slice p n c, rv_ r b1 d1 b2 d2 b3 d3]) S fun v _ => v = vB true := by
  unfold Sp
  rw [g_l24_AuditDoes_eq]
  simp only [wps, List.append_assoc, List.cons_append, List.nil_append, List.length_append, List.length_cons, List.length_nil, Nat.zero_add, Nat.reduceAdd, getA0, getA1, cell_blk getA0, cell_blk getA1]
  generalize hY : S ++ [AObj.cells (qc q a1 c1 a4 c4 a5 c5) 26 none, AObj.cells (rc_ r b1 d1 b2 d2 b3 d3) 32 none] = Y
  have hp : S <+: Y := ⟨_, hY⟩
  have y0 : Y[S.length]? = some (AObj.cells (qc q a1 c1 a4 c4 a5 c5) 26 none) := by rw [← hY]; exact getA0
  have y1 : Y[S.length + 1]? = some (AObj.cells (rc_ r b1 d1 b2 d2 b3 d3) 32 none) := by rw [← hY]; exact getA1
  refine live24_w.use ?_
  rintro _ S1 k1 rfl
  have z0 := pre_get k1 y0
  have z1 := pre_get k1 y1
  have hp1 := hp.trans k1
  simp only [wps, cell_blk z0]
  refine (r17few_w (c1 := c1) (c4 := c4) (c5 := c5) (hq.mono hp1) (by omega)).use ?_
  rintro _ S2 k2 rfl
  have z0 := pre_get k2 z0
  have z1 := pre_get k2 z1
  have hp2 := hp1.trans k2
  have early : WP (k_l24_AuditDoes_1 p n c S.length (S.length + 1) (1, [vB true])) S2 fun q S' => WP (oneV q) S' fun v S' => S <+: S' ∧ v = vB true := by
    unfold k_l24_AuditDoes_1
    simp only [wps]
    exact hp2
  have late : WP (k_l24_AuditDoes_1 p n c S.length (S.length + 1) (0, [])) S2 fun q S' => WP (oneV q) S' fun v S' => S <+: S' ∧ v = vB true := by
    unfold k_l24_AuditDoes_1
    simp only [wps, cell_blk z1]
    refine (match_w (c := c) (d := d1) (h.mono hp2) (k.fx.mono hp2) hr hk).use ?_
    rintro _ S3 k3 rfl
    have z0 := pre_get k3 z0
    have z1 := pre_get k3 z1
    have hp3 := hp2.trans k3
    simp only [wps, cell_blk z1]
    refine (rmatch_w (c := c) (d := d1) (h.mono hp3) (k.fx.mono hp3) hr hk).use ?_
    rintro _ S4 k4 rfl
    have z0 := pre_get k4 z0
    have z1 := pre_get k4 z1
    have hp4 := hp3.trans k4
    simp only [wps, cell_blk z0, cell_blk z1]
    refine (bounds_w (c1 := c1) (c4 := c4) (c5 := c5) (d1 := d1) (d2 := d2) (d3 := d3) (hq.mono hp4) (k.mono hp4)).use ?_
    rintro _ S5 k5 rfl
    have z0 := pre_get k5 z0
    have z1 := pre_get k5 z1
    have hp5 := hp4.trans k5
    simp only [wps, cell_blk z0, cell_blk z1]
    refine (rbounds_w (c1 := c1) (c4 := c4) (c5 := c5) (d1 := d1) (d2 := d2) (d3 := d3) (hq.mono hp5) (k.mono hp5) hd).use ?_
    rintro _ S6 k6 rfl
    have hp6 := hp5.trans k6
    simp only [wps, beq_self_eq_true]
    simp [hp6]
  simp only [wps, cell_blk z1]
  repeat' refine And.intro (fun _ => ?_) (fun _ => ?_)
  all_goals first
    | exact early
    | exact late
end Go.AM
