import Derived.Test.YtcilfgedcnehfaaPThin
import Derived.Test.YtcilfgedcnehfaaScr1
import Derived.Test.YtcilfgedcnehfaaSame
set_option linter.unusedVariables false
set_option linter.unusedSectionVars false
set_option linter.unusedSimpArgs false
namespace Go.Proofs.Ytcilfgedcnehfaa
open Go.RowKit

theorem thin_live : thin [⟨0, 0, 3, 0, 0, 0⟩, ⟨0, 0, 4, 0, 0, 0⟩, ⟨0, 0, 5, 0, 0, 0⟩] = [⟨0, 0, 3, 0, 0, 0⟩, ⟨0, 0, 5, 0, 0, 0⟩] := by kernel_rfl
theorem thin_v (w : World) (u : Value) (n : Nat) (l : List Ev) (h : RdV w 6 u n (evs l)) (hn : n ≤ 1024) :
    Calls Try.prog 15 #[u] w fun en w' => ∃ v, en = .returned (.tuple #[v, .int .i64 0]) ∧ RdV w' 6 v (thin l).length (evs (thin l)) ∧ Below w.heap.size w w' := by
  obtain ⟨A, c, rfl, _, h⟩ := h
  have hl := h.ev_len
  have hs := (thin_sub l).length_le
  exact (thin_walk w A n c l h hn).mono fun e w' ⟨v, he, ho, hb⟩ => ⟨v, he, RdV.of_own ho (by omega), hb⟩
theorem sparse_v (w : World) (u : Value) (n : Nat) (l : List Ev) (h : RdV w 6 u n (evs l)) (hn : n ≤ 1024) :
    Calls Try.prog 16 #[u] w fun en w' => en = .returned (.tuple #[.bool (sparseB l), .int .i64 0]) ∧ Below w.heap.size w w' := by
  obtain ⟨A, c, rfl, _, h⟩ := h
  exact sparse_walk w A n c l h hn
theorem sameEv_v (w : World) (u v : Value) (n m : Nat) (l r : List Ev) (h : RdV w 6 u n (evs l)) (g : RdV w 6 v m (evs r)) :
    Calls Try.prog 17 #[u, v] w fun en w' => en = .returned (.bool (decide (l = r))) ∧ Below w.heap.size w w' := by
  obtain ⟨A, c, rfl, _, h⟩ := h
  obtain ⟨B, d, rfl, _, g⟩ := g
  exact sameEv_any w A B n m c d l r h g

set_option maxRecDepth 100000 in
theorem live23_any (w : World) : Calls Try.prog 14 #[] w fun en w' => en = .returned (.bool true) ∧ Below w.heap.size w w' := by
  have HT := Lib.hid thin_live
  go_enter Try.func14, Try.ntmps14
  go_wp2_with fail
  refine (thin_v _ _ 3 [⟨0, 0, 3, 0, 0, 0⟩, ⟨0, 0, 4, 0, 0, 0⟩, ⟨0, 0, 5, 0, 0, 0⟩] (RdV.mk (rd_at w _ _ 6 3 _ rfl rfl (by omega)) (Nat.le_refl _)) (by omega)).mono ?_
  rintro e w1 ⟨v, rfl, hr, hB⟩
  rw [HT.out] at hr
  go_wp2_with fail
  refine (sameEv_v _ _ _ _ 2 _ [⟨0, 0, 3, 0, 0, 0⟩, ⟨0, 0, 5, 0, 0, 0⟩] (hr.alloc _) (RdV.mk (rd_at w1 _ _ 6 2 _ rfl rfl (by omega)) (Nat.le_refl _))).mono ?_
  rintro e w2 ⟨rfl, hC⟩
  rw [decide_eq_true rfl]
  go_wp2
  go_ret
  exact ⟨rfl, bthen (bafter hB) (bafter hC)⟩

set_option maxHeartbeats 2000000 in
set_option maxRecDepth 100000 in
theorem sparseThin_any (w : World) (A : Option Addr) (n c : Nat) (l : List Ev) (h : Rd w 6 A n (evs l)) (hnc : n ≤ c) (hn : n ≤ 40) (hl : ∀ x ∈ l, i64r x.wi) :
    Calls Try.prog 4 #[.slice A n c] w fun en w' => en = .returned (.bool true) ∧ Below w.heap.size w w' := by
  have hb := h.big
  have hL := h.ev_len
  obtain ⟨q1, q2, q3, q4⟩ := thin_laws l hl
  have ht := (thin_sub l).length_le
  have HQ1 := Lib.hid q1
  have HQ2 := Lib.hid q2
  have HQ3 := Lib.hid q3
  have HQ4 := Lib.hid q4
  clear q1 q2 q3 q4
  go_enter Try.func4, Try.ntmps4
  go_wp2_with fail
  refine (live23_any _).mono ?_
  rintro e w1 ⟨rfl, hB1⟩
  go_wp2_with fail
  refine (thin_v _ _ n l (RdV.mk (h.below hB1) hnc) (by omega)).mono ?_
  rintro e w2 ⟨a, rfl, hra, hB2'⟩
  have hB2 := bthen hB1 hB2'
  go_wp2_with fail
  refine (sparse_v _ _ _ (thin l) hra (by omega)).mono ?_
  rintro e w3 ⟨rfl, hB3'⟩
  have hB3 := bthen hB2 hB3'
  rw [HQ1.out]
  go_wp2_with fail
  refine (sparse_v _ _ n l (RdV.mk (h.below hB3) hnc) (by omega)).mono ?_
  rintro e w4 ⟨rfl, hB4'⟩
  have hB4 := bthen hB3 hB4'
  have hra4 := (hra.below hB3').below hB4'
  go_wp2_with fail
  refine (thin_v _ _ _ (thin l) hra4 (by omega)).mono ?_
  rintro e w5 ⟨b, rfl, hrb, hB5'⟩
  have hB5 := bthen hB4 hB5'
  rw [HQ2.out] at hrb
  have hra5 := hra4.below hB5'
  go_wp2_with fail
  refine (sameEv_v _ _ _ _ _ _ _ hra5 hrb).mono ?_
  rintro e w6 ⟨rfl, hB6'⟩
  rw [decide_eq_true rfl]
  have hB6 := bthen hB5 hB6'
  have hra6 := hra5.below hB6'
  have hrl := RdV.mk (h.below hB6) hnc
  obtain ⟨A2, c2, rfl, hc2, hra7⟩ := hra6
  have HLN : Hid (sparseB l = true → (thin l).length = n) := fun h => by rw [HQ4.out h]; exact hL
  have HNE : Hid (sparseB l = false → (thin l).length ≠ n) := fun h e => by
    have := HQ3.out
    rw [h] at this
    exact absurd (e.trans hL.symm) (by simpa using this.symm)
  generalize htn : (thin l).length = tn at *
  have HTN := Lib.hid htn
  clear htn
  cases hsp : sparseB l with
  | true =>
    obtain rfl : tn = n := HLN.out hsp
    rw [HQ4.out hsp] at hra7
    have HSP := Lib.hid hsp
    clear hsp hL
    go_wp2_with fail
    refine (sameEv_v _ _ _ _ tn l l (RdV.mk hra7 hc2) (RdV.mk (h.below hB6) hnc)).mono ?_
    rintro e w7 ⟨rfl, hB7⟩
    rw [decide_eq_true rfl]
    go_wp2
    go_ret
    exact ⟨rfl, bthen hB6 hB7⟩
  | false =>
    have hne := HNE.out hsp
    have HSP := Lib.hid hsp
    clear hsp hL
    go_wp2
    go_ret
    have hbe : ((tn : Int) == (n : Int)) = false := by simp; omega
    refine ⟨?_, hB6⟩
    rw [hbe]; rfl

set_option maxRecDepth 100000 in
theorem sparseThin_far (w : World) (A : Option Addr) (n c : Nat) (hn : n ≤ 140737488355328) (hf : 40 < n) :
    Calls Try.prog 4 #[.slice A n c] w fun en w' => en = .returned (.bool true) ∧ Below w.heap.size w w' := by
  go_enter Try.func4, Try.ntmps4
  go_wp2_with fail
  refine (live23_any _).mono ?_
  rintro e w1 ⟨rfl, hB⟩
  go_wp2
  go_ret
  exact ⟨rfl, hB⟩
end Go.Proofs.Ytcilfgedcnehfaa
