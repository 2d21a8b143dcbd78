import Derived.Test.YtcilfgedcnehfaaStr
set_option linter.unusedVariables false
set_option linter.unusedSectionVars false
set_option linter.unusedSimpArgs false
namespace Go.Proofs.Ytcilfgedcnehfaa
open Go.RowKit

theorem live10_any (w : World) : Calls Try.prog 18 #[] w fun en w' => en = .returned (.bool true) ∧ Below w.heap.size w w' := by
  have h1 : sparseB [⟨0, 0, 3, 0, 0, 0⟩, ⟨0, 0, 4, 0, 0, 0⟩] = false := by
    rw [Bool.eq_false_iff, ne_eq, sparse_iff _ (by intro x hx; simp at hx; rcases hx with rfl | rfl <;> simp [i64r])]
    simp [apart, evKey, far]
  have h2 : sparseB [⟨0, 0, 3, 0, 0, 0⟩, ⟨0, 0, 5, 0, 0, 0⟩] = true := by
    rw [sparse_iff _ (by intro x hx; simp at hx; rcases hx with rfl | rfl <;> simp [i64r])]
    simp [apart, evKey, far]
  have H1 := Lib.hid h1
  have H2 := Lib.hid h2
  clear h1 h2
  go_enter Try.func18, Try.ntmps18
  go_wp2_with fail
  refine (sparse_walk _ _ 2 2 [⟨0, 0, 3, 0, 0, 0⟩, ⟨0, 0, 4, 0, 0, 0⟩] (rd_at w _ _ 6 2 _ rfl rfl (by omega)) (by omega)).mono ?_
  rintro e w1 ⟨rfl, hB⟩
  rw [H1.out]
  go_wp2_with fail
  refine (sparse_walk _ _ 2 2 [⟨0, 0, 3, 0, 0, 0⟩, ⟨0, 0, 5, 0, 0, 0⟩] (rd_at w1 _ _ 6 2 _ rfl rfl (by omega)) (by omega)).mono ?_
  rintro e w2 ⟨rfl, hC⟩
  rw [H2.out]
  go_wp2
  go_ret
  exact ⟨rfl, bthen (bafter hB) (bafter hC)⟩

theorem strike_v (w : World) (u v : Value) (n m : Nat) (l : List Ev) (ws : List Int) (h : RdV w 6 u n (evs l)) (g : RdV w 1 v m (ints .u64 ws)) (hn : n ≤ 1024) (hm : m ≤ 16384) :
    Calls Try.prog 19 #[u, v] w fun en w' => ∃ r, en = .returned (.tuple #[r, .int .i64 0]) ∧ RdV w' 1 r m (ints .u64 (strike l ws)) ∧ Below w.heap.size w w' := by
  obtain ⟨A, c, rfl, _, h⟩ := h
  obtain ⟨B, d, rfl, _, g⟩ := g
  exact (strike_walk w A B n c m d l ws h g hn hm).mono fun e w' ⟨v, he, ho, hb⟩ => ⟨v, he, RdV.of_own ho (by omega), hb⟩
theorem sameU_v (w : World) (u v : Value) (n m : Nat) (l r : List Int) (h : RdV w 1 u n (ints .u64 l)) (g : RdV w 1 v m (ints .u64 r)) :
    Calls Try.prog 20 #[u, v] w fun en w' => en = .returned (.bool (decide (l = r))) ∧ Below w.heap.size w w' := by
  obtain ⟨A, c, rfl, _, h⟩ := h
  obtain ⟨B, d, rfl, _, g⟩ := g
  exact sameU_any w A B n m c d l r h g
theorem quiet_v (w : World) (u : Value) (n : Nat) (l : List Ev) (h : RdV w 6 u n (evs l)) (hn : n ≤ 1024) (q : Int) :
    Calls Try.prog 21 #[u, .int .i64 q] w fun en w' => en = .returned (.tuple #[.bool (quietB l q), .int .i64 0]) ∧ Below w.heap.size w w' := by
  obtain ⟨A, c, rfl, _, h⟩ := h
  exact quiet_walk w A n c l h hn q

/-- struck twice is as it was -/
def inU (x : Int) : Prop := 0 ≤ x ∧ x ≤ 18446744073709551615
set_option maxHeartbeats 1000000 in
set_option maxRecDepth 100000 in
theorem scriptBack_any (w : World) (A B : Option Addr) (n c m d : Nat) (l : List Ev) (ws : List Int) (h : Rd w 6 A n (evs l)) (g : Rd w 1 B m (ints .u64 ws)) (hnc : n ≤ c) (hmd : m ≤ d) (hn : n ≤ 60) (hm : m ≤ 60) (hback : strike l (strike l ws) = ws) :
    Calls Try.prog 6 #[.slice A n c, .slice B m d] w fun en w' => en = .returned (.bool true) ∧ Below w.heap.size w w' := by
  have hb := h.big
  have gb := g.big
  have HL := Lib.hid h.ev_len
  have HBK := Lib.hid hback
  clear hback
  go_enter Try.func6, Try.ntmps6
  go_wp2_with fail
  refine (live10_any _).mono ?_
  rintro e w1 ⟨rfl, hB1⟩
  go_wp2_with fail
  refine (strike_v _ _ _ n m l ws (RdV.mk (h.below hB1) hnc) (RdV.mk (g.below hB1) hmd) (by omega) (by omega)).mono ?_
  rintro e w2 ⟨r1, rfl, hr1, hB2'⟩
  have hB2 := bthen hB1 hB2'
  go_wp2_with fail
  refine (strike_v _ _ _ n m l (strike l ws) (RdV.mk (h.below hB2) hnc) hr1 (by omega) (by omega)).mono ?_
  rintro e w3 ⟨r2, rfl, hr2, hB3'⟩
  rw [HBK.out] at hr2
  have hB3 := bthen hB2 hB3'
  go_wp2_with fail
  refine (sameU_v _ _ _ m m ws ws hr2 (RdV.mk (g.below hB3) hmd)).mono ?_
  rintro e w4 ⟨rfl, hB4'⟩
  rw [decide_eq_true rfl]
  have hB4 := bthen hB3 hB4'
  have hr1' := (hr1.below hB3').below hB4'
  clear hr1 hr2
  go_wp2
  go_loopg [9, 51] n (fun g v9 v wr => ∃ (k : Nat), k + g = n ∧ v = .int .i64 k ∧ Below w4.heap.size w4 wr ∧ RdV wr 1 v9 m (ints .u64 (strike (l.take k) ws)))
  case atStart => exact ⟨0, by omega, rfl, Below.refl _ _, RdV.mk (g.below hB4) hmd⟩
  case round =>
    obtain ⟨k, hk, rfl, hB, hR⟩ := hrel
    by_cases hlt : k < n
    · obtain ⟨x, hx⟩ : ∃ x, l[k]? = some x := ⟨_, List.getElem?_eq_getElem (by rw [HL.out]; exact hlt)⟩
      obtain ⟨b, o, rfl, hbl, g0, g1, g2, g3, g4, g5⟩ := ((h.below hB4).below hB).ev k x hx
      have hs : strike (l.take (k + 1)) ws = strike [x] (strike (l.take k) ws) := by rw [List.take_add_one, hx]; unfold strike; rw [List.foldl_append]; rfl
      have HS := Lib.hid hs
      clear hx hs
      generalize strike (l.take k) ws = cur at *
      go_wp2_with fail
      refine (strike_v _ _ _ 1 m [x] cur (RdV.mk (rd_at _ _ _ 6 1 _ (by simp) rfl (by omega)) (Nat.le_refl _)) ((hR.alloc _).alloc _) (by omega) (by omega)).mono ?_
      rintro e w5 ⟨r5, rfl, hr5, hB5⟩
      have hb5 := bthen (balloc (balloc hB _) _) hB5
      go_wp2
      go_roundg (n - (k + 1))
      case measure => omega
      case rel => exact ⟨k + 1, by omega, by go_num, hb5, by rw [HS.out]; exact hr5⟩
    · obtain rfl : k = n := by omega
      rw [List.take_of_length_le (by rw [HL.out]; exact Nat.le_refl _)] at hR
      go_wp2_with fail
      refine (sameU_v _ _ _ m m _ _ hR (hr1'.below hB)).mono ?_
      rintro e w5 ⟨rfl, hB5⟩
      rw [decide_eq_true rfl]
      go_wp2
      go_ret
      exact ⟨rfl, bthen (bthen hB4 hB) hB5⟩

set_option maxHeartbeats 1000000 in
set_option maxRecDepth 100000 in
theorem scriptQuiet_any (w : World) (A B : Option Addr) (n c m d : Nat) (l : List Ev) (ws : List Int) (h : Rd w 6 A n (evs l)) (g : Rd w 1 B m (ints .u64 ws)) (hnc : n ≤ c) (hmd : m ≤ d) (hn : n ≤ 60) (hm : m ≤ 60)
    (hq1 : quietB l m = true → strike l ws = ws) (hq2 : ∀ x ∈ l, x.nothing m = decide (strike [x] ws = ws)) :
    Calls Try.prog 7 #[.slice A n c, .slice B m d] w fun en w' => en = .returned (.bool true) ∧ Below w.heap.size w w' := by
  have hb := h.big
  have gb := g.big
  have HL := Lib.hid h.ev_len
  have HQ1 := Lib.hid hq1
  have HQ2 := Lib.hid hq2
  clear hq1 hq2
  go_enter Try.func7, Try.ntmps7
  go_wp2_with fail
  refine (live10_any _).mono ?_
  rintro e w1 ⟨rfl, hB1⟩
  go_wp2_with fail
  refine (quiet_v _ _ n l (RdV.mk (h.below hB1) hnc) (by omega) _).mono ?_
  rintro e w2 ⟨rfl, hB2'⟩
  have hB2 := bthen hB1 hB2'
  go_wp2_with fail
  refine (strike_v _ _ _ n m l ws (RdV.mk (h.below hB2) hnc) (RdV.mk (g.below hB2) hmd) (by omega) (by omega)).mono ?_
  rintro e w3 ⟨r2, rfl, hr2, hB3'⟩
  have hB3 := bthen hB2 hB3'
  have hfin : quietB l m = l.all fun x => x.nothing m := rfl
  have HF := Lib.hid hfin
  clear hfin
  generalize quietB l m = qb at *
  go_upto_region 7 with fail
  go_cut [53] (fun s53 wx => s53 = .bool false ∧ Below w3.heap.size w3 wx)
  case first =>
    cases qb with
    | false =>
      go_wp2
      go_meet
      exact ⟨rfl, Below.refl _ _⟩
    | true =>
      have HST := Lib.hid (HQ1.out rfl)
      go_wp2_with (first | (go_at_call 20; refine (sameU_v _ _ _ m m _ _ hr2 (RdV.mk (g.below hB3) hmd)).mono ?_; rintro e w4 ⟨rfl, hB4⟩; rw [HST.out, decide_eq_true rfl]))
      go_meet
      exact ⟨rfl, hB4⟩
  case rest =>
    obtain ⟨rfl, hcut⟩ := hcut
    obtain ⟨w4, rfl⟩ : ∃ w4 : World, w4 = wc := ⟨_, rfl⟩
    have hB4 := bthen hB3 hcut
    clear hcut hr2
    go_wp2
    go_loopg [9, 56] n (fun g v9 v wr => ∃ (k : Nat), k + g = n ∧ v = .int .i64 k ∧ Below w4.heap.size w4 wr ∧ v9 = .bool ((l.take k).all fun x => x.nothing m))
    case atStart => exact ⟨0, by omega, rfl, Below.refl _ _, rfl⟩
    case round =>
      obtain ⟨k, hk, rfl, hB, rfl⟩ := hrel
      by_cases hlt : k < n
      · obtain ⟨x, hx⟩ : ∃ x, l[k]? = some x := ⟨_, List.getElem?_eq_getElem (by rw [HL.out]; exact hlt)⟩
        obtain ⟨b, o, rfl, hbl, g0, g1, g2, g3, g4, g5⟩ := ((h.below hB4).below hB).ev k x hx
        have hs : (l.take (k + 1)).all (fun x => x.nothing m) = ((l.take k).all (fun x => x.nothing m) && x.nothing m) := by rw [List.take_add_one, hx, List.all_append]; simp
        have hone : quietB [x] m = x.nothing m := by simp [quietB]
        have hq := HQ2.out x (List.mem_of_getElem? hx)
        have HS := Lib.hid hs
        have HO := Lib.hid hone
        have HQ := Lib.hid hq
        clear hx hs hone hq
        generalize (l.take k).all (fun x => x.nothing m) = al at *
        go_wp2_with fail
        refine (quiet_v _ _ 1 [x] (RdV.mk (rd_at _ _ _ 6 1 _ (by simp) rfl (by omega)) (Nat.le_refl _)) (by omega) _).mono ?_
        rintro e w5 ⟨rfl, hB5'⟩
        rw [HO.out]
        have hB5 := bthen (balloc (balloc hB _) _) hB5'
        have hxc : ∀ j, w5.cell? ⟨wr.heap.size, j, none⟩ = (#[Value.int .i64 x.it, .int .i64 x.tr, .int .i64 x.wi, .int .i64 x.ti, .int .i64 x.ad, .int .u64 x.ma])[j]? := fun j => by
          rw [hB5'.cell (by simp; omega)]
          exact new_cell (W := (_ : World).alloc _) (balloc (Below.refl _ _) _) j
        have c0 := hxc 0
        have c1 := hxc 1
        have c2 := hxc 2
        have c3 := hxc 3
        have c4 := hxc 4
        have c5 := hxc 5
        clear hxc
        go_wp2_with fail
        refine (strike_v _ _ _ 1 m [x] ws (RdV.mk (rd_at _ _ _ 6 1 _ (by simp) rfl (by omega)) (Nat.le_refl _)) ((RdV.mk ((g.below hB4).below hB5) hmd).alloc _) (by omega) (by omega)).mono ?_
        rintro e w6 ⟨r6, rfl, hr6, hB6'⟩
        have hB6 := bthen (balloc hB5 _) hB6'
        go_wp2_with fail
        refine (sameU_v _ _ _ m m _ _ hr6 (RdV.mk ((g.below hB4).below hB6) hmd)).mono ?_
        rintro e w7 ⟨rfl, hB7'⟩
        rw [← HQ.out]
        have hB7 := bthen hB6 hB7'
        clear hr6
        generalize x.nothing m = xn at *
        go_wp2
        all_goals
          go_roundg (n - (k + 1))
          case measure => omega
          case rel => exact ⟨k + 1, by omega, by go_num, hB7, by rw [HS.out]; first | rfl | simp [*]⟩
      · obtain rfl : k = n := by omega
        rw [List.take_of_length_le (by rw [HL.out]; exact Nat.le_refl _), ← HF.out]
        go_wp2
        go_ret
        exact ⟨by simp, bthen hB4 hB⟩
end Go.Proofs.Ytcilfgedcnehfaa
