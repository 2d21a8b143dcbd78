import Derived.Test.YtcilfgedcnehfaaPScr
import Derived.Laws.Bits64
set_option linter.unusedVariables false
set_option linter.unusedSectionVars false
set_option linter.unusedSimpArgs false
namespace Go.Proofs.Ytcilfgedcnehfaa
open Go.RowKit

/-- an event does nothing to so many words -/
def Ev.nothing (x : Ev) (n : Int) : Bool := x.ma == 0 || decide (x.ad < 0) || decide (n ≤ x.ad)
def quietB (l : List Ev) (n : Int) : Bool := l.all fun x => x.nothing n
/-- what an event makes of words -/
def hit (ws : List Int) (x : Ev) : List Int := if x.nothing ws.length then ws else ws.set x.ad.toNat (bits .xor .u64 (ws.getD x.ad.toNat 0) x.ma)
def strike (l : List Ev) (ws : List Int) : List Int := l.foldl hit ws
theorem hit_len (ws : List Int) (x : Ev) : (hit ws x).length = ws.length := by unfold hit; split <;> simp
theorem strike_len (l : List Ev) : ∀ ws, (strike l ws).length = ws.length := by
  induction l with
  | nil => intro ws; rfl
  | cons x l ih => intro ws; show (strike l (hit ws x)).length = _; rw [ih, hit_len]


def u64r (x : Int) : Prop := 0 ≤ x ∧ x ≤ 18446744073709551615
abbrev xor64 (a b : Int) : Int := bits .xor .u64 a b
theorem xor_nat {a b : Int} (ha : u64r a) (hb : u64r b) : xor64 a b = ((a.toNat ^^^ b.toNat : Nat) : Int) := by
  obtain ⟨n, rfl⟩ := Int.eq_ofNat_of_zero_le ha.1
  obtain ⟨m, rfl⟩ := Int.eq_ofNat_of_zero_le hb.1
  have h1 := ha.2
  have h2 := hb.2
  unfold xor64
  rw [bits_xor_u64_nat n m (by omega) (by omega)]
  simp
theorem xor_r {a b : Int} (ha : u64r a) (hb : u64r b) : u64r (xor64 a b) := by
  rw [xor_nat ha hb]
  have h1 := ha.2
  have h2 := hb.2
  have := Nat.xor_lt_two_pow (x := a.toNat) (y := b.toNat) (n := 64) (by unfold u64r at *; omega) (by unfold u64r at *; omega)
  constructor <;> omega
theorem xor_comm3 {a b c : Int} (ha : u64r a) (hb : u64r b) (hc : u64r c) : xor64 (xor64 a b) c = xor64 (xor64 a c) b := by
  rw [xor_nat (xor_r ha hb) hc, xor_nat (xor_r ha hc) hb, xor_nat ha hb, xor_nat ha hc]
  simp only [Int.toNat_natCast, Nat.xor_assoc, Nat.xor_comm b.toNat]
theorem xor_self2 {a b : Int} (ha : u64r a) (hb : u64r b) : xor64 (xor64 a b) b = a := by
  rw [xor_nat (xor_r ha hb) hb, xor_nat ha hb]
  simp only [Int.toNat_natCast, Nat.xor_assoc, Nat.xor_self, Nat.xor_zero]
  unfold u64r at ha; omega
theorem xor_eq_iff {a b : Int} (ha : u64r a) (hb : u64r b) : xor64 a b = a ↔ b = 0 := by
  constructor
  · intro h
    have h1 := xor_self2 ha hb
    rw [h] at h1
    have h2 : xor64 a a = 0 := by rw [xor_nat ha ha]; simp
    have h3 := xor_self2 ha hb
    have h4 : xor64 (xor64 a b) a = b := by
      rw [xor_nat (xor_r ha hb) ha, xor_nat ha hb]
      simp only [Int.toNat_natCast]
      rw [Nat.xor_comm a.toNat, Nat.xor_assoc, Nat.xor_self, Nat.xor_zero]
      unfold u64r at hb; omega
    rw [h, h2] at h4
    exact h4.symm
  · rintro rfl
    rw [xor_nat ha hb]
    simp
    unfold u64r at ha; omega

def wsOk (ws : List Int) : Prop := ∀ x ∈ ws, u64r x
theorem getD_ok {ws : List Int} (h : wsOk ws) (i : Nat) : u64r (ws.getD i 0) := by
  rw [List.getD_eq_getElem?_getD]
  cases hx : ws[i]? with
  | none => simp [u64r]
  | some x => exact h x (List.mem_of_getElem? hx)
theorem hit_ok {ws : List Int} {x : Ev} (h : wsOk ws) (hx : u64r x.ma) : wsOk (hit ws x) := by
  unfold hit
  split
  · exact h
  · intro y hy
    rcases List.mem_or_eq_of_mem_set hy with hy | rfl
    · exact h y hy
    · exact xor_r (getD_ok h _) hx
theorem strike_ok (l : List Ev) : ∀ ws, wsOk ws → (∀ x ∈ l, u64r x.ma) → wsOk (strike l ws) := by
  induction l with
  | nil => intro ws h _; exact h
  | cons x l ih => intro ws h hl; exact ih _ (hit_ok h (hl x (by simp))) (fun y hy => hl y (by simp [hy]))
theorem hit_comm {ws : List Int} {x y : Ev} (h : wsOk ws) (hx : u64r x.ma) (hy : u64r y.ma) : hit (hit ws x) y = hit (hit ws y) x := by
  unfold hit
  by_cases h1 : x.nothing ws.length <;> by_cases h2 : y.nothing ws.length <;> simp only [h1, h2, if_true, if_false, List.length_set, Bool.false_eq_true]
  have hxr : x.ad.toNat < ws.length := by simp [Ev.nothing] at h1; omega
  have hyr : y.ad.toNat < ws.length := by simp [Ev.nothing] at h2; omega
  by_cases he : x.ad.toNat = y.ad.toNat
  · rw [he]
    simp only [List.getD_eq_getElem?_getD, List.getElem?_set_self hyr, Option.getD_some, List.set_set]
    congr 1
    have := xor_comm3 (getD_ok h y.ad.toNat) hx hy
    simpa [List.getD_eq_getElem?_getD] using this
  · simp only [List.getD_eq_getElem?_getD, List.getElem?_set_ne he, List.getElem?_set_ne (Ne.symm he)]
    rw [List.set_comm _ _ he]
theorem hit_self {ws : List Int} {x : Ev} (h : wsOk ws) (hx : u64r x.ma) : hit (hit ws x) x = ws := by
  unfold hit
  by_cases h1 : x.nothing ws.length <;> simp only [h1, if_true, if_false, List.length_set, Bool.false_eq_true]
  have hxr : x.ad.toNat < ws.length := by simp [Ev.nothing] at h1; omega
  simp only [List.getD_eq_getElem?_getD, List.getElem?_set_self hxr, Option.getD_some, List.set_set]
  have := xor_self2 (getD_ok h x.ad.toNat) hx
  simp only [List.getD_eq_getElem?_getD] at this
  unfold xor64 at this
  rw [this, List.getElem?_eq_getElem hxr]
  simp
theorem strike_hit (l : List Ev) (x : Ev) (hx : u64r x.ma) : ∀ ws, wsOk ws → (∀ y ∈ l, u64r y.ma) → strike l (hit ws x) = hit (strike l ws) x := by
  induction l with
  | nil => intro ws _ _; rfl
  | cons y l ih =>
    intro ws h hl
    show strike l (hit (hit ws x) y) = hit (strike l (hit ws y)) x
    rw [hit_comm h hx (hl y (by simp)), ih _ (hit_ok h (hl y (by simp))) (fun z hz => hl z (by simp [hz]))]
theorem strike_twice (l : List Ev) : ∀ ws, wsOk ws → (∀ y ∈ l, u64r y.ma) → strike l (strike l ws) = ws := by
  induction l with
  | nil => intro ws _ _; rfl
  | cons x l ih =>
    intro ws h hl
    have hl' : ∀ y ∈ l, u64r y.ma := fun y hy => hl y (by simp [hy])
    have hx := hl x (by simp)
    show strike l (hit (strike l (hit ws x)) x) = ws
    rw [strike_hit l x hx ws h hl', hit_self (strike_ok l ws h hl') hx]
    exact ih ws h hl'
theorem strike_quiet (l : List Ev) (ws : List Int) (h : quietB l ws.length = true) : strike l ws = ws := by
  induction l with
  | nil => rfl
  | cons x l ih =>
    simp only [quietB, List.all_cons, Bool.and_eq_true] at h
    show strike l (hit ws x) = ws
    have : hit ws x = ws := by unfold hit; rw [if_pos h.1]
    rw [this]
    exact ih h.2
theorem nothing_iff (x : Ev) (ws : List Int) (h : wsOk ws) (hx : u64r x.ma) : x.nothing ws.length = decide (strike [x] ws = ws) := by
  show _ = decide (hit ws x = ws)
  unfold hit
  by_cases h1 : x.nothing ws.length
  · rw [if_pos h1, h1]; simp
  · rw [if_neg h1]
    have h1' : x.nothing ws.length = false := by simpa using h1
    rw [h1']
    have hxr : x.ad.toNat < ws.length := by simp [Ev.nothing] at h1; omega
    have hm : x.ma ≠ 0 := by intro hm0; simp [Ev.nothing, hm0] at h1'
    symm
    rw [decide_eq_false_iff_not]
    intro e
    have e2 := congrArg (fun l => l.getD x.ad.toNat 0) e
    simp only [List.getD_eq_getElem?_getD, List.getElem?_set_self hxr, Option.getD_some] at e2
    have := (xor_eq_iff (getD_ok h x.ad.toNat) hx).1 (by simpa [List.getD_eq_getElem?_getD] using e2)
    exact hm this
end Go.Proofs.Ytcilfgedcnehfaa
