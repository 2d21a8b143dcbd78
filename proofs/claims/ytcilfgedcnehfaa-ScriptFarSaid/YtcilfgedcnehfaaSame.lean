import Derived.Test.YtcilfgedcnehfaaAud1
set_option linter.unusedVariables false
set_option linter.unusedSectionVars false
set_option linter.unusedSimpArgs false
namespace Go.Proofs.Ytcilfgedcnehfaa
open Go.RowKit

theorem neqEv_run (x y : Ev) (W : World) : (binOp .neq 26 x.val y.val).run Try.prog W = .ok (.bool (!decide (x = y))) W := by
  obtain ⟨x0, x1, x2, x3, x4, x5⟩ := x
  obtain ⟨y0, y1, y2, y3, y4, y5⟩ := y
  dsimp only [Ev.val]
  go_simp
  by_cases h0 : x0 = y0 <;> by_cases h1 : x1 = y1 <;> by_cases h2 : x2 = y2 <;> by_cases h3 : x3 = y3 <;> by_cases h4 : x4 = y4 <;> by_cases h5 : x5 = y5 <;> simp [h0, h1, h2, h3, h4, h5]
theorem eqlEv_run (x y : Ev) (W : World) : (binOp .eql 26 x.val y.val).run Try.prog W = .ok (.bool (decide (x = y))) W := by
  obtain ⟨x0, x1, x2, x3, x4, x5⟩ := x
  obtain ⟨y0, y1, y2, y3, y4, y5⟩ := y
  dsimp only [Ev.val]
  go_simp
  by_cases h0 : x0 = y0 <;> by_cases h1 : x1 = y1 <;> by_cases h2 : x2 = y2 <;> by_cases h3 : x3 = y3 <;> by_cases h4 : x4 = y4 <;> by_cases h5 : x5 = y5 <;> simp [h0, h1, h2, h3, h4, h5]

set_option maxHeartbeats 1000000 in
theorem sameEv_any (w : World) (A B : Option Addr) (n m c d : Nat) (l r : List Ev) (h : Rd w 6 A n (evs l)) (g : Rd w 6 B m (evs r)) :
    Calls Try.prog 17 #[.slice A n c, .slice B m d] w fun en w' => en = .returned (.bool (decide (l = r))) ∧ Below w.heap.size w w' := by
  have hb := h.big
  have gb := g.big
  have HL := Lib.hid h.ev_len
  have HR := Lib.hid g.ev_len
  by_cases hnm : n = m
  · subst hnm
    go_enter Try.func17, Try.ntmps17
    go_wp2
    go_loopg [13] n (fun g v wr => ∃ (k : Nat), k + g = n ∧ v = .int .i64 k ∧ Below w.heap.size w wr ∧ Hid (l.take k = r.take k))
    case atStart => exact ⟨0, by omega, rfl, Below.refl _ _, rfl⟩
    case round =>
      obtain ⟨k, hk, rfl, hB, HT⟩ := hrel
      by_cases hlt : k < n
      · obtain ⟨x, hx⟩ : ∃ x, l[k]? = some x := ⟨_, List.getElem?_eq_getElem (by rw [HL.out]; exact hlt)⟩
        obtain ⟨y, hy⟩ : ∃ x, r[k]? = some x := ⟨_, List.getElem?_eq_getElem (by rw [HR.out]; exact hlt)⟩
        obtain ⟨b, o, rfl, hbl, g0, g1, g2, g3, g4, g5⟩ := (h.below hB).ev k x hx
        obtain ⟨b', o', rfl, hbl', k0, k1, k2, k3, k4, k5⟩ := (g.below hB).ev k y hy
        have HX := Lib.hid hx
        have HY := Lib.hid hy
        have hne := neqEv_run x y
        clear hx hy
        go_wp2
        go_quiet (fail)
        go_wp2
        · have hxy : (!decide (x = y)) = true := by assumption
          have hlr : decide (l = r) = false := by
            have h1 : x ≠ y := by simpa using hxy
            simp only [decide_eq_false_iff_not]
            rintro rfl
            exact h1 (Option.some.inj (HX.out.symm.trans HY.out))
          have HLR := Lib.hid hlr
          go_ret
          exact ⟨by rw [HLR.out]; rfl, below_drewN hB _⟩
        · have hxy : (!decide (x = y)) = false := by assumption
          go_roundg (n - (k + 1))
          case measure => omega
          case rel => exact ⟨k + 1, by omega, by go_num, below_drewN hB _, by
            have h1 : x = y := by simpa using hxy
            show _ = _
            rw [List.take_add_one, List.take_add_one, HX.out, HY.out, HT.out, h1]⟩
      · obtain rfl : k = n := by omega
        have hlr : decide (l = r) = true := by
          have := HT.out
          rw [List.take_of_length_le (by rw [HL.out]; exact Nat.le_refl _), List.take_of_length_le (by rw [HR.out]; exact Nat.le_refl _)] at this
          simpa using this
        have HLR := Lib.hid hlr
        clear hlr
        go_wp2
        go_ret
        exact ⟨by rw [HLR.out]; rfl, hB⟩
  · have hne : ((n : Int) == (m : Int)) = false := beq_eq_false_iff_ne.2 (by omega)
    have hne' : ((n : Int) != (m : Int)) = true := bne_iff_ne.2 (by omega)
    have hlr : decide (l = r) = false := by
      simp only [decide_eq_false_iff_not]
      rintro rfl
      exact hnm (HL.out.symm.trans HR.out)
    have HLR := Lib.hid hlr
    clear hlr hnm
    go_enter Try.func17, Try.ntmps17
    go_wp2
    go_ret
    exact ⟨by rw [HLR.out]; rfl, Below.refl _ _⟩

set_option maxHeartbeats 1000000 in
theorem sameU_any (w : World) (A B : Option Addr) (n m c d : Nat) (l r : List Int) (h : Rd w 1 A n (ints .u64 l)) (g : Rd w 1 B m (ints .u64 r)) :
    Calls Try.prog 20 #[.slice A n c, .slice B m d] w fun en w' => en = .returned (.bool (decide (l = r))) ∧ Below w.heap.size w w' := by
  have hb := h.big
  have gb := g.big
  have HL := Lib.hid h.u_len
  have HR := Lib.hid g.u_len
  by_cases hnm : n = m
  · subst hnm
    go_enter Try.func20, Try.ntmps20
    go_wp2
    go_loopg [13] n (fun g v wr => ∃ (k : Nat), k + g = n ∧ v = .int .i64 k ∧ Below w.heap.size w wr ∧ Hid (l.take k = r.take k))
    case atStart => exact ⟨0, by omega, rfl, Below.refl _ _, rfl⟩
    case round =>
      obtain ⟨k, hk, rfl, hB, HT⟩ := hrel
      by_cases hlt : k < n
      · obtain ⟨x, hx⟩ : ∃ x, l[k]? = some x := ⟨_, List.getElem?_eq_getElem (by rw [HL.out]; exact hlt)⟩
        obtain ⟨y, hy⟩ : ∃ x, r[k]? = some x := ⟨_, List.getElem?_eq_getElem (by rw [HR.out]; exact hlt)⟩
        obtain ⟨b, o, rfl, hbl, g0⟩ := (h.below hB).int k x hx
        obtain ⟨b', o', rfl, hbl', k0⟩ := (g.below hB).int k y hy
        have HX := Lib.hid hx
        have HY := Lib.hid hy
        clear hx hy
        go_wp2
        go_quiet (fail)
        go_wp2
        · have hxy : (!(x == y)) = true := by assumption
          have hlr : decide (l = r) = false := by
            have h1 : x ≠ y := by simpa using hxy
            simp only [decide_eq_false_iff_not]
            rintro rfl
            exact h1 (Option.some.inj (HX.out.symm.trans HY.out))
          have HLR := Lib.hid hlr
          go_ret
          exact ⟨by rw [HLR.out]; rfl, below_drewN hB _⟩
        · have hxy : (!(x == y)) = false := by assumption
          go_roundg (n - (k + 1))
          case measure => omega
          case rel => exact ⟨k + 1, by omega, by go_num, below_drewN hB _, by
            have h1 : x = y := by simpa using hxy
            show _ = _
            rw [List.take_add_one, List.take_add_one, HX.out, HY.out, HT.out, h1]⟩
      · obtain rfl : k = n := by omega
        have hlr : decide (l = r) = true := by
          have := HT.out
          rw [List.take_of_length_le (by rw [HL.out]; exact Nat.le_refl _), List.take_of_length_le (by rw [HR.out]; exact Nat.le_refl _)] at this
          simpa using this
        have HLR := Lib.hid hlr
        clear hlr
        go_wp2
        go_ret
        exact ⟨by rw [HLR.out]; rfl, hB⟩
  · have hne : ((n : Int) == (m : Int)) = false := beq_eq_false_iff_ne.2 (by omega)
    have hne' : ((n : Int) != (m : Int)) = true := bne_iff_ne.2 (by omega)
    have hlr : decide (l = r) = false := by
      simp only [decide_eq_false_iff_not]
      rintro rfl
      exact hnm (HL.out.symm.trans HR.out)
    have HLR := Lib.hid hlr
    clear hlr hnm
    go_enter Try.func20, Try.ntmps20
    go_wp2
    go_ret
    exact ⟨by rw [HLR.out]; rfl, Below.refl _ _⟩
end Go.Proofs.Ytcilfgedcnehfaa
