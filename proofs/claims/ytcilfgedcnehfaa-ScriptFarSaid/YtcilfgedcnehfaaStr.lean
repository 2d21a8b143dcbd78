import Derived.Test.YtcilfgedcnehfaaScr2
set_option linter.unusedVariables false
set_option linter.unusedSectionVars false
set_option linter.unusedSimpArgs false
namespace Go.Proofs.Ytcilfgedcnehfaa
open Go.RowKit

theorem infoU64 : (Try.prog.info? 24).map (fun i => (i.zero, i.size, i.bytes)) = some (some (.int .u64 0), 1, 8) := by kernel_rfl
theorem own_empty (W : World) (base : Nat) (e : TypeId) (size : Nat) (hb : base ≤ W.heap.size) : (W.alloc (.cells #[] e)).ownsRow base e size (.slice (some ⟨W.heap.size, 0, none⟩) 0 0) 0 [] :=
  World.ownsRow_made W #[] 0 hb (by simp) (by simp)

set_option maxRecDepth 100000 in
theorem cloneU_any (w : World) (A : Option Addr) (n c : Nat) (l : List Int) (h : Rd w 1 A n (ints .u64 l)) (hn : n ≤ 1000000) :
    Calls Try.prog 35 #[.slice A n c] w fun en w' => ∃ v, en = .returned v ∧ w'.ownsRow w.heap.size 24 1 v n (ints .u64 l) ∧ Below w.heap.size w w' := by
  have hb := h.big
  cases A with
  | none =>
    have h0 : n = 0 := by
      rcases Nat.eq_zero_or_pos n with h0 | h0
      · exact h0
      · obtain ⟨b, o, e, _⟩ := h.at_ h0; cases e
    subst h0
    have hl : l = [] := List.eq_nil_of_length_eq_zero h.u_len
    subst hl
    have hnil := Lib.run_eql_slice_nil (P := Try.prog)
    go_enter Try.func35, Try.ntmps35
    go_wp2
    go_ret
    exact ⟨_, rfl, World.ownsRow_nil _ _ _ _, Below.refl _ _⟩
  | some a =>
    have hnil := Lib.run_eql_slice_nil (P := Try.prog)
    go_enter Try.func35, Try.ntmps35
    go_wp2_with (with_reducible refine stop_at 7 rfl ?_)
    unfold Stop
    refine wpList_append_rd _ rfl (.tmp 5) (.tmp 6) 41 rfl w.heap.size 24 _ 1 8 (by kernel_rfl) infoU64 rfl (by omega) _ 0 [] rfl (own_empty _ _ _ _ (Nat.le_refl _)) (some a) n c (ints .u64 l) rfl (h.alloc _) (ints_one _ _) (by omega) (by omega) (by simp) ?_
    intro v1 w1 hown hg hat
    go_wp2
    go_ret
    refine ⟨v1, rfl, ?_, (balloc (Below.refl _ _) _).grown hg (by simp) (fun k hk => ((own_empty w w.heap.size 24 1 (Nat.le_refl _)).lt k hk).1)⟩
    rw [Nat.zero_add, List.nil_append] at hown
    exact hown

set_option maxHeartbeats 1000000 in
set_option maxRecDepth 100000 in
theorem strike_walk (w : World) (A B : Option Addr) (n c m d : Nat) (l : List Ev) (ws : List Int) (h : Rd w 6 A n (evs l)) (g : Rd w 1 B m (ints .u64 ws)) (hn : n ≤ 1024) (hm : m ≤ 16384) :
    Calls Try.prog 19 #[.slice A n c, .slice B m d] w fun en w' => ∃ v, en = .returned (.tuple #[v, .int .i64 0]) ∧ w'.ownsRow w.heap.size 24 1 v m (ints .u64 (strike l ws)) ∧ Below w.heap.size w w' := by
  have hb := h.big
  have gb := g.big
  have HL := Lib.hid h.ev_len
  have HW := Lib.hid g.u_len
  have HC := Lib.hid (cloneU_any w B m d ws g (by omega))
  go_enter Try.func19, Try.ntmps19
  go_wp2_with (first | (go_at_call 27; refine (check_ok _ _ _ _ hn).mono ?_; rintro e w' ⟨rfl, rfl⟩) | (go_at_call 35; refine HC.out.mono ?_; rintro e w1 ⟨v, rfl, hown, hB⟩; obtain ⟨A2, c2, hv, hc2, _⟩ := Rd.of_own hown (by omega); subst hv))
  go_loopg [22] n (fun g s wr => ∃ (k : Nat), k + g = n ∧ s = .int .i64 k ∧ Below w.heap.size w wr ∧ wr.ownsRow w.heap.size 24 1 (.slice A2 m c2) m (ints .u64 (strike (l.take k) ws)))
  case atStart => exact ⟨0, by omega, rfl, hB, hown⟩
  case round =>
    obtain ⟨k, hk, rfl, hB, hO⟩ := hrel
    by_cases hlt : k < n
    · obtain ⟨x, hx⟩ : ∃ x, l[k]? = some x := ⟨_, List.getElem?_eq_getElem (by rw [HL.out]; exact hlt)⟩
      obtain ⟨b, o, rfl, hbl, g0, g1, g2, g3, g4, g5⟩ := (h.below hB).ev k x hx
      have hs : strike (l.take (k + 1)) ws = hit (strike (l.take k) ws) x := by rw [List.take_add_one, hx]; unfold strike; rw [List.foldl_append]; rfl
      have HS := Lib.hid hs
      have hln := strike_len (l.take k) ws
      rw [HW.out] at hln
      have HLN := Lib.hid hln
      clear hx hs hln
      generalize strike (l.take k) ws = cur at *
      have hh : hit cur x = if x.nothing m then cur else cur.set x.ad.toNat (bits .xor .u64 (cur.getD x.ad.toNat 0) x.ma) := by unfold hit; rw [HLN.out]
      have HH := Lib.hid hh
      clear hh
      cases hq : x.nothing m with
      | true =>
        have HQ := Lib.hid hq
        clear hq
        go_wp2_with (first | (go_at_call 36; refine (nothing_any _ x _).mono ?_; rintro e w1 ⟨rfl, hB1⟩; rw [HQ.out]))
        go_roundg (n - (k + 1))
        case measure => omega
        case rel => exact ⟨k + 1, by omega, by go_num, bthen (balloc hB _) hB1, by rw [HS.out, HH.out, if_pos HQ.out]; exact obelow (hO.alloc _) hB1⟩
      | false =>
        have HQ := Lib.hid hq
        have hx0 : 0 ≤ x.ad ∧ x.ad < m := by simp [Ev.nothing] at hq; omega
        clear hq
        obtain ⟨hx0, hx1⟩ := hx0
        obtain ⟨g2, cap, he, hgb, hgl⟩ := hO.form (by omega)
        injection he with e1 _ e2
        subst e1
        subst e2
        go_wp2_with (first | (go_at_call 36; refine (nothing_any _ x _).mono ?_; rintro e w1 ⟨rfl, hB1⟩; rw [HQ.out]))
        have hO1 := obelow (hO.alloc (.cells #[.int .i64 x.it, .int .i64 x.tr, .int .i64 x.wi, .int .i64 x.ti, .int .i64 x.ad, .int .u64 x.ma] 26)) hB1
        have c4 := new_cell hB1 4
        have c5 := new_cell hB1 5
        have hcell : w1.cell? ⟨g2, x.ad.toNat, none⟩ = some (.int .u64 (cur.getD x.ad.toNat 0)) := by
          have := hO1.cells (g := g2) rfl x.ad.toNat (.int .u64 (cur.getD x.ad.toNat 0)) (by simp [ints, List.getElem?_eq_getElem (show x.ad.toNat < cur.length by rw [HLN.out]; omega), List.getD_eq_getElem?_getD])
          rwa [add_addr, Nat.zero_add] at this
        have hfr : w1.frozen? ⟨g2, x.ad.toNat, none⟩ = false := own_free hO1 _
        go_still_tail 9, (by kernel_rfl)
        go_wp2
        go_roundg (n - (k + 1))
        case measure => omega
        case rel =>
          refine ⟨k + 1, by omega, by go_num, ?_, ?_⟩
          · exact Below.setCell (bthen (balloc hB _) hB1).drew hgb _
          · rw [HS.out, HH.out, if_neg (by rw [HQ.out]; simp)]
            have hst := hO1.stored x.ad.toNat (.int .u64 (bits .xor .u64 (cur.getD x.ad.toNat 0) x.ma))
            have he : (ints .u64 cur).set x.ad.toNat (.int .u64 (bits .xor .u64 (cur.getD x.ad.toNat 0) x.ma)) = ints .u64 (cur.set x.ad.toNat (bits .xor .u64 (cur.getD x.ad.toNat 0) x.ma)) := by simp [ints, List.map_set]
            rw [he] at hst
            exact hst.1
    · obtain rfl : k = n := by omega
      rw [List.take_of_length_le (by rw [HL.out]; exact Nat.le_refl _)] at hO
      go_wp2
      go_ret2
      exact ⟨_, rfl, hO, hB⟩
end Go.Proofs.Ytcilfgedcnehfaa
