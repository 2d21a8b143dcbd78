import Derived.Test.YtcilfgedcnehfaaScr0
set_option linter.unusedVariables false
set_option linter.unusedSectionVars false
set_option linter.unusedSimpArgs false
namespace Go.Proofs.Ytcilfgedcnehfaa
open Go.RowKit

def cmpTick : Value := .func (.func 38) #[] #[]

set_option maxRecDepth 100000 in
theorem stable_tiny (w : World) (A : Option Addr) (n c : Nat) (f : Value) (hn : n ≤ 1) :
    Calls Try.prog 47 #[.slice A n c, .int .i64 n, f] w fun en w' => en = .returned (.tuple #[]) ∧ w = w' := by
  have hins : ∀ w, Calls Try.prog 61 #[.slice A n c, .int .i64 0, .int .i64 n, f] w fun en w' => en = .returned (.tuple #[]) ∧ w = w' := by
    intro w
    go_enter Try.func61, Try.ntmps61
    go_wp2
    refine wp_loop_rounds 1 ?_
    rw [rounds_succ]
    go_wp2
    go_end0
    exact ⟨rfl, rfl⟩
  go_enter Try.func47, Try.ntmps47
  go_wp2
  refine wp_loop_rounds 1 ?_
  rw [rounds_succ]
  go_wp2_with (go_at_call 61; refine (hins _).mono ?_; rintro e w' ⟨rfl, rfl⟩)
  refine wp_loop_rounds 1 ?_
  rw [rounds_succ]
  go_wp2
  go_end0
  exact ⟨rfl, rfl⟩
theorem sortStable_tiny (w : World) (A : Option Addr) (n c : Nat) (f : Value) (hn : n ≤ 1) :
    Calls Try.prog 37 #[.slice A n c, f] w fun en w' => en = .returned (.tuple #[]) ∧ w = w' := by
  go_enter Try.func37, Try.ntmps37
  go_wp2_with fail
  refine (stable_tiny w A n c f hn).mono ?_
  rintro e w' ⟨rfl, rfl⟩
  go_wp2
  go_end0
  exact ⟨rfl, rfl⟩

/-- an event of that window -/
def Ev.of (x : Ev) (it tr wi : Int) : Bool := x.it == it && x.tr == tr && x.wi == wi
def ofL (l : List Ev) (it tr wi : Int) : List Ev := l.filter fun x => x.of it tr wi

set_option maxHeartbeats 1000000 in
set_option maxRecDepth 100000 in
theorem of_walk (w : World) (A : Option Addr) (n c : Nat) (l : List Ev) (h : Rd w 6 A n (evs l)) (hn : n ≤ 1024) (it tr wi : Int) (R : List Ev)
    (hS : ∀ (wr : World) v, wr.ownsRow w.heap.size 26 6 v (ofL l it tr wi).length (evs (ofL l it tr wi)) → w.heap.size ≤ wr.heap.size →
      Calls Try.prog 37 #[v, cmpTick] wr fun e w' => e = .returned (.tuple #[]) ∧ Below w.heap.size wr w' ∧ w'.ownsRow w.heap.size 26 6 v (ofL l it tr wi).length (evs R)) :
    Calls Try.prog 22 #[.slice A n c, .int .i64 it, .int .i64 tr, .int .i64 wi] w fun en w' => ∃ v, en = .returned (.tuple #[v, .int .i64 0]) ∧ w'.ownsRow w.heap.size 26 6 v (ofL l it tr wi).length (evs R) ∧ Below w.heap.size w w' := by
  have hbig := h.big
  have HL := Lib.hid h.ev_len
  have HSS := Lib.hid hS
  clear hS
  go_enter Try.func22, Try.ntmps22
  go_wp2_with (first | (go_at_call 27; refine (check_ok _ _ _ _ hn).mono ?_; rintro e w' ⟨rfl, rfl⟩))
  go_loopg [11, 21] n (fun g vo v wr => ∃ (k : Nat) (out : List Ev), k + g = n ∧ v = .int .i64 k ∧ Below w.heap.size w wr ∧
    wr.ownsRow w.heap.size 26 6 vo out.length (evs out) ∧ out.length ≤ k ∧ Hid (ofL (l.take k) it tr wi = out))
  case atStart => exact ⟨0, [], by omega, rfl, Below.refl _ _, World.ownsRow_nil _ _ _ _, Nat.le_refl _, rfl⟩
  case round =>
    obtain ⟨k, out, hk, rfl, hB, hO, hol, HT⟩ := hrel
    by_cases hlt : k < n
    · obtain ⟨x, hx⟩ : ∃ x, l[k]? = some x := ⟨_, List.getElem?_eq_getElem (by rw [HL.out]; exact hlt)⟩
      obtain ⟨b, o, rfl, hbl, g0, g1, g2, g3, g4, g5⟩ := (h.below hB).ev k x hx
      have hs : ofL (l.take (k + 1)) it tr wi = if x.of it tr wi then out ++ [x] else out := by
        rw [List.take_add_one, hx, ← HT.out]
        unfold ofL
        rw [List.filter_append]
        cases hq : x.of it tr wi <;> simp [hq]
      have HS := Lib.hid hs
      by_cases hq : x.of it tr wi = true
      · have HQ := Lib.hid hq
        unfold Ev.of at hq
        simp only [Bool.and_eq_true, beq_iff_eq] at hq
        obtain ⟨⟨h1, h2⟩, h3⟩ := hq
        clear hx hs HT
        go_wp2_with (with_reducible refine stop_at 44 rfl ?_)
        unfold Stop
        refine wpList_append_rd _ rfl (.tmp 41) (.tmp 43) 22 rfl w.heap.size 26 _ 6 48 (by kernel_rfl) infoEv rfl (by omega) _ out.length (evs out) rfl ((hO.alloc _).alloc _) _ 1 1 (evs [x]) rfl ?_ (evs_one _) (by omega) (by omega) (by simp; have := hB.size; omega) ?_
        · have hr := rd_at (wr.alloc (.cells #[.int .i64 x.it, .int .i64 x.tr, .int .i64 x.wi, .int .i64 x.ti, .int .i64 x.ad, .int .u64 x.ma] 26)) #[.int .i64 x.it, .int .i64 x.tr, .int .i64 x.wi, .int .i64 x.ti, .int .i64 x.ad, .int .u64 x.ma] 26 6 1 (wr.heap.size + 1) (by simp) rfl (by omega)
          simp only [h1, h2, h3] at hr ⊢
          rw [show evs [x] = [.int .i64 it, .int .i64 tr, .int .i64 wi, .int .i64 x.ti, .int .i64 x.ad, .int .u64 x.ma] from by simp [evs, Ev.cells, h1, h2, h3]]
          exact hr
        intro v3 w4 hO4 hg4 hat4
        have hO4' : w4.ownsRow w.heap.size 26 6 v3 (out ++ [x]).length (evs (out ++ [x])) := by rw [List.length_append, ← evs_append]; exact hO4
        have hB4 := (balloc (balloc hB (.cells #[.int .i64 x.it, .int .i64 x.tr, .int .i64 x.wi, .int .i64 x.ti, .int .i64 x.ad, .int .u64 x.ma] 26)) (.cells #[.int .i64 x.it, .int .i64 x.tr, .int .i64 x.wi, .int .i64 x.ti, .int .i64 x.ad, .int .u64 x.ma] 26))
        simp only [h1, h2, h3] at hB4
        have hB5 := bgrown hB4 hg4 (obase hO)
        go_wp2
        go_roundg (n - (k + 1))
        case measure => omega
        case rel => exact ⟨k + 1, out ++ [x], by omega, by go_num, hB5, hO4', by simp; omega, by show _ = _; rw [HS.out, HQ.out]; rfl⟩
      · have HQ := Lib.hid (Bool.eq_false_iff.2 hq)
        have hs2 : ofL (l.take (k + 1)) it tr wi = out := by rw [HS.out, HQ.out]; rfl
        have HS2 := Lib.hid hs2
        unfold Ev.of at hq
        simp only [Bool.and_eq_true, beq_iff_eq] at hq
        clear hx hs HT hs2
        by_cases h1 : x.it = it
        · by_cases h2 : x.tr = tr
          · have h3 : ¬ x.wi = wi := fun e => hq ⟨⟨h1, h2⟩, e⟩
            clear hq
            go_wp2
            go_roundg (n - (k + 1))
            case measure => omega
            case rel => exact ⟨k + 1, out, by omega, by go_num, balloc hB _, hO.alloc _, by omega, HS2⟩
          · clear hq
            go_wp2
            go_roundg (n - (k + 1))
            case measure => omega
            case rel => exact ⟨k + 1, out, by omega, by go_num, balloc hB _, hO.alloc _, by omega, HS2⟩
        · clear hq
          go_wp2
          go_roundg (n - (k + 1))
          case measure => omega
          case rel => exact ⟨k + 1, out, by omega, by go_num, balloc hB _, hO.alloc _, by omega, HS2⟩
    · obtain rfl : k = n := by omega
      rw [List.take_of_length_le (by rw [HL.out]; exact Nat.le_refl _)] at HT
      obtain rfl := HT.out
      go_wp2_with fail
      refine (HSS.out wr u11 hO hB.size).mono ?_
      rintro e w5 ⟨rfl, hB5, hO5⟩
      go_wp2
      go_ret2
      exact ⟨u11, rfl, hO5, hB.trans hB5⟩

/-- one at the most of that window: no sorting -/
theorem of_tiny (w : World) (A : Option Addr) (n c : Nat) (l : List Ev) (h : Rd w 6 A n (evs l)) (hn : n ≤ 1024) (it tr wi : Int) (R : List Ev) (hR : ofL l it tr wi = R) (h1 : R.length ≤ 1) :
    Calls Try.prog 22 #[.slice A n c, .int .i64 it, .int .i64 tr, .int .i64 wi] w fun en w' => ∃ v, en = .returned (.tuple #[v, .int .i64 0]) ∧ RdV w' 6 v R.length (evs R) ∧ Below w.heap.size w w' := by
  subst hR
  refine (of_walk w A n c l h hn it tr wi (ofL l it tr wi) fun wr v hO hs => ?_).mono fun e w' ⟨v, he, ho, hb⟩ => ⟨v, he, RdV.of_own ho (by omega), hb⟩
  obtain ⟨A1, c1, rfl, hc1, _⟩ := RdV.of_own hO (by omega)
  refine (sortStable_tiny wr A1 _ c1 cmpTick h1).mono ?_
  rintro e w' ⟨rfl, rfl⟩
  exact ⟨rfl, Below.refl _ _ |>.mono hs, hO⟩
end Go.Proofs.Ytcilfgedcnehfaa
