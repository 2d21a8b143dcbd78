import Derived.Test.YtcilfgedcnehfaaScr1
import Derived.Test.YtcilfgedcnehfaaSame
import Derived.Test.YtcilfgedcnehfaaPStr
set_option linter.unusedVariables false
set_option linter.unusedSectionVars false
set_option linter.unusedSimpArgs false
namespace Go.Proofs.Ytcilfgedcnehfaa
open Go.RowKit

theorem nothing_any (w : World) (x : Ev) (n : Int) : Calls Try.prog 36 #[x.val, .int .i64 n] w fun en w' => en = .returned (.bool (x.nothing n)) ∧ Below w.heap.size w w' := by
  obtain ⟨a, b, c, d, e, m⟩ := x
  dsimp only [Ev.val]
  go_enter Try.func36, Try.ntmps36
  go_wp2
  all_goals (go_ret; refine ⟨?_, (Below.refl _ _).alloc (Nat.le_refl _) _⟩; (try simp [Ev.nothing, *]) <;> omega)

set_option maxHeartbeats 1000000 in
theorem quiet_walk (w : World) (A : Option Addr) (n c : Nat) (l : List Ev) (h : Rd w 6 A n (evs l)) (hn : n ≤ 1024) (q : Int) :
    Calls Try.prog 21 #[.slice A n c, .int .i64 q] w fun en w' => en = .returned (.tuple #[.bool (quietB l q), .int .i64 0]) ∧ Below w.heap.size w w' := by
  have hb := h.big
  have HL := Lib.hid h.ev_len
  go_enter Try.func21, Try.ntmps21
  go_wp2_with (first | (go_at_call 27; refine (check_ok _ _ _ _ hn).mono ?_; rintro e w' ⟨rfl, rfl⟩))
  go_loopg [16] n (fun g v wr => ∃ (k : Nat), k + g = n ∧ v = .int .i64 k ∧ Below w.heap.size w wr ∧ Hid ((l.take k).all (fun x => x.nothing q) = true))
  case atStart => exact ⟨0, by omega, rfl, Below.refl _ _, rfl⟩
  case round =>
    obtain ⟨k, hk, rfl, hB, HT⟩ := hrel
    by_cases hlt : k < n
    · obtain ⟨x, hx⟩ : ∃ x, l[k]? = some x := ⟨_, List.getElem?_eq_getElem (by rw [HL.out]; exact hlt)⟩
      obtain ⟨b, o, rfl, hbl, g0, g1, g2, g3, g4, g5⟩ := (h.below hB).ev k x hx
      have hs : (l.take (k + 1)).all (fun x => x.nothing q) = x.nothing q := by rw [List.take_add_one, hx, List.all_append, HT.out]; simp
      have hf : x.nothing q = false → quietB l q = false := fun hf => by
        unfold quietB
        rw [List.all_eq_false]
        exact ⟨x, List.mem_of_getElem? hx, by simp [hf]⟩
      have HS := Lib.hid hs
      have HF := Lib.hid hf
      clear hx hs hf
      cases hq : x.nothing q with
      | false =>
        have HQ := Lib.hid hq
        clear hq
        go_wp2_with (first | (go_at_call 36; refine (nothing_any _ x _).mono ?_; rintro e w1 ⟨rfl, hB1⟩; rw [HQ.out]))
        go_ret2
        exact ⟨by rw [HF.out HQ.out]; rfl, bthen (balloc hB _) hB1⟩
      | true =>
        have HQ := Lib.hid hq
        clear hq
        go_wp2_with (first | (go_at_call 36; refine (nothing_any _ x _).mono ?_; rintro e w1 ⟨rfl, hB1⟩; rw [HQ.out]))
        go_roundg (n - (k + 1))
        case measure => omega
        case rel => exact ⟨k + 1, by omega, by go_num, bthen (balloc hB _) hB1, by show _ = _; rw [HS.out, HQ.out]⟩
    · obtain rfl : k = n := by omega
      have hq : quietB l q = true := by
        have := HT.out
        rw [List.take_of_length_le (by rw [HL.out]; exact Nat.le_refl _)] at this
        exact this
      have HQ := Lib.hid hq
      clear hq
      go_wp2
      go_ret2
      exact ⟨by rw [HQ.out]; rfl, hB⟩
end Go.Proofs.Ytcilfgedcnehfaa
