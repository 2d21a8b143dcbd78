import Derived.WalkKit
import Derived.BigQuiet
import Derived.Deep.QuietTactic
import Derived.Deep.DeepFit
import Derived.WalkLawsBesides
import Derived.WalkSpells
import Derived.Deep.LoopGhost
import Derived.Deep.Draws
import Derived.Deep.AppendLies
import Derived.Maps.AppendAt
import Derived.Lib.Hide
import Derived.StillTailTactics
import Derived.Deep.RegionHeld3
import Derived.Deep.DeepCutAuto
import Derived.KernelRfl
set_option linter.unusedVariables false
set_option linter.unusedSectionVars false
set_option linter.unusedSimpArgs false
namespace Go.Proofs.Ytcilfgedcnehfaa
open Go.RowKit

/-! ### Values -/
/-- an event -/
structure Ev where
  it : Int
  tr : Int
  wi : Int
  ti : Int
  ad : Int
  ma : Int
/-- a record -/
structure Rc where
  it : Int
  tr : Int
  wi : Int
  ad : Int
  ba : Int
  go : Int
theorem Ev.eq_iff (x y : Ev) : x = y ↔ x.it = y.it ∧ x.tr = y.tr ∧ x.wi = y.wi ∧ x.ti = y.ti ∧ x.ad = y.ad ∧ x.ma = y.ma := by
  cases x; cases y; simp
theorem Rc.eq_iff (x y : Rc) : x = y ↔ x.it = y.it ∧ x.tr = y.tr ∧ x.wi = y.wi ∧ x.ad = y.ad ∧ x.ba = y.ba ∧ x.go = y.go := by
  cases x; cases y; simp
instance : DecidableEq Ev := fun x y => decidable_of_iff _ (Ev.eq_iff x y).symm
instance : DecidableEq Rc := fun x y => decidable_of_iff _ (Rc.eq_iff x y).symm
def Ev.cells (x : Ev) : List Value := [.int .i64 x.it, .int .i64 x.tr, .int .i64 x.wi, .int .i64 x.ti, .int .i64 x.ad, .int .u64 x.ma]
def Rc.cells (x : Rc) : List Value := [.int .i64 x.it, .int .i64 x.tr, .int .i64 x.wi, .int .i64 x.ad, .int .u64 x.ba, .int .u64 x.go]
abbrev Ev.val (x : Ev) : Value := .agg #[.int .i64 x.it, .int .i64 x.tr, .int .i64 x.wi, .int .i64 x.ti, .int .i64 x.ad, .int .u64 x.ma]
abbrev Rc.val (x : Rc) : Value := .agg #[.int .i64 x.it, .int .i64 x.tr, .int .i64 x.wi, .int .i64 x.ad, .int .u64 x.ba, .int .u64 x.go]

/-! ### A row of cells that is read -/
/-- the slice value '.slice A n c' (elements of 'size' cells) reads as the cells 'xs' -/
structure Rd (w : World) (size : Nat) (A : Option Addr) (n : Nat) (xs : List Value) : Prop where
  len : xs.length = n * size
  big : n ≤ 140737488355328
  at_ : 0 < n → ∃ b o, A = some ⟨b, o, none⟩ ∧ b < w.heap.size ∧ ∀ j u, xs[j]? = some u → w.cell? ⟨b, o + j, none⟩ = some u

theorem Rd.below {w w1 : World} {size n : Nat} {A : Option Addr} {xs : List Value} (h : Rd w size A n xs) (hb : Below w.heap.size w w1) : Rd w1 size A n xs :=
  ⟨h.len, h.big, fun hn => by
    obtain ⟨b, o, e, hlt, hc⟩ := h.at_ hn
    exact ⟨b, o, e, Nat.lt_of_lt_of_le hlt hb.size, fun j u hu => (hb.cell hlt).trans (hc j u hu)⟩⟩
theorem Rd.grown {w w1 : World} {size n : Nat} {A : Option Addr} {xs : List Value} (h : Rd w size A n xs) {row : Option Nat} (hg : w.grownBy w1 row) (hne : ∀ b o, A = some ⟨b, o, none⟩ → row ≠ some b) : Rd w1 size A n xs :=
  ⟨h.len, h.big, fun hn => by
    obtain ⟨b, o, e, hlt, hc⟩ := h.at_ hn
    exact ⟨b, o, e, Nat.lt_of_lt_of_le hlt hg.size, fun j u hu => (World.cell?_of_block (hg.block b hlt (fun x => hne b o e x.symm))).trans (hc j u hu)⟩⟩
theorem Rd.alloc {w : World} {size n : Nat} {A : Option Addr} {xs : List Value} (h : Rd w size A n xs) (o : Obj) : Rd (w.alloc o) size A n xs := h.below ((Below.refl _ _).alloc (Nat.le_refl _) _)
theorem Rd.drew {w : World} {size n : Nat} {A : Option Addr} {xs : List Value} (h : Rd w size A n xs) : Rd w.drew size A n xs := ⟨h.len, h.big, h.at_⟩
theorem Rd.drewN {w : World} {size n : Nat} {A : Option Addr} {xs : List Value} (h : Rd w size A n xs) (k : Nat) : Rd (w.drewN k) size A n xs := ⟨h.len, h.big, h.at_⟩
theorem Rd.nil (w : World) (size : Nat) (A : Option Addr) : Rd w size A 0 [] := ⟨by simp, by omega, fun h => absurd h (by omega)⟩
theorem Rd.of_own {w : World} {base n : Nat} {e : TypeId} {size : Nat} {v : Value} {xs : List Value} (h : w.ownsRow base e size v n xs) (hb : n ≤ 140737488355328) : ∃ A c, v = .slice A n c ∧ n ≤ c ∧ Rd w size A n xs ∧ (∀ g, v.ownBlock = some g → A = some ⟨g, 0, none⟩) := by
  rcases h.2 with ⟨rfl, rfl⟩ | ⟨g, cap, cur, rfl, hg, hh, hnc, _⟩
  · exact ⟨none, 0, rfl, Nat.le_refl _, ⟨by simpa using h.1, hb, fun h => absurd h (by omega)⟩, by simp [Value.ownBlock]⟩
  · refine ⟨_, cap, rfl, hnc, ⟨h.1, hb, fun _ => ⟨g, 0, rfl, (Array.getElem?_eq_some_iff.1 hh).1, fun j u hu => ?_⟩⟩, by simp [Value.ownBlock]⟩
    have := h.cells (g := g) rfl j u hu
    have ha : (⟨g, 0, none⟩ : Addr).add j = ⟨g, 0 + j, none⟩ := by unfold Addr.add; split <;> simp_all
    rwa [ha] at this

/-! ### New blocks -/
theorem alloc_size (w : World) (o : Obj) : (w.alloc o).heap.size = w.heap.size + 1 := by simp
theorem new_cell {w W : World} {cs : Array Value} {t : TypeId} (hB : Below (w.alloc (.cells cs t)).heap.size (w.alloc (.cells cs t)) W) (j : Nat) : W.cell? ⟨w.heap.size, j, none⟩ = cs[j]? := by
  rw [hB.cell (by simp), cell_of_row _ _ j cs t (0, 0) (heap_alloc_new w _)]
theorem new_lt {w W : World} {o : Obj} (hB : Below (w.alloc o).heap.size (w.alloc o) W) : w.heap.size < W.heap.size := by
  have := hB.size; rw [alloc_size] at this; omega
/-- behind a new block -/
theorem bafter {w W : World} {o : Obj} (hB : Below (w.alloc o).heap.size (w.alloc o) W) : Below w.heap.size w W :=
  ((Below.refl _ _).alloc (Nat.le_refl _) o).trans (hB.mono (by rw [alloc_size]; omega))
theorem bthen {w w1 w2 : World} (h : Below w.heap.size w w1) (k : Below w1.heap.size w1 w2) : Below w.heap.size w w2 := h.trans (k.mono h.size)

theorem balloc {w W : World} (h : Below w.heap.size w W) (o : Obj) : Below w.heap.size w (W.alloc o) := h.alloc h.size o
theorem bgrown {w W W' : World} {row : Option Nat} (h : Below w.heap.size w W) (hg : W.grownBy W' row) (hr : ∀ k, row = some k → w.heap.size ≤ k) : Below w.heap.size w W' := h.grown hg h.size hr
theorem none_own {B : Nat} : ∀ k, (Value.slice none 0 0).ownBlock = some k → B ≤ k := by simp [Value.ownBlock]
theorem odrew {w : World} {base n : Nat} {e : TypeId} {size : Nat} {v : Value} {xs : List Value} (h : w.ownsRow base e size v n xs) : w.drew.ownsRow base e size v n xs := h
theorem obelow {w w1 : World} {base n : Nat} {e : TypeId} {size : Nat} {v : Value} {xs : List Value} (h : w.ownsRow base e size v n xs) (hb : Below w.heap.size w w1) : w1.ownsRow base e size v n xs :=
  h.kept (row := none) ⟨hb.os, hb.tape, hb.output, hb.size, fun i hi _ => hb.block i hi⟩ (by cases v.ownBlock <;> simp)
theorem obase {w : World} {base n : Nat} {e : TypeId} {size : Nat} {v : Value} {xs : List Value} (h : w.ownsRow base e size v n xs) : ∀ k, v.ownBlock = some k → base ≤ k := fun k hk => (h.lt k hk).1

/-! ### What a call keeps: all blocks that were there but those of T -/
structure Kp (T : Nat → Prop) (w w' : World) : Prop where
  os : w'.os = w.os
  tape : w'.tape = w.tape
  output : w'.output = w.output
  size : w.heap.size ≤ w'.heap.size
  block : ∀ k, k < w.heap.size → ¬ T k → w'.heap[k]? = w.heap[k]?
theorem Kp.refl (T : Nat → Prop) (w : World) : Kp T w w := ⟨rfl, rfl, rfl, Nat.le_refl _, fun _ _ _ => rfl⟩
theorem Kp.trans {T : Nat → Prop} {a b c : World} (h : Kp T a b) (k : Kp T b c) : Kp T a c :=
  ⟨k.os.trans h.os, k.tape.trans h.tape, k.output.trans h.output, Nat.le_trans h.size k.size, fun i hi ht => (k.block i (Nat.lt_of_lt_of_le hi h.size) ht).trans (h.block i hi ht)⟩
theorem Kp.mono {T T' : Nat → Prop} {a b : World} (h : Kp T a b) (hT : ∀ k, k < a.heap.size → T k → T' k) : Kp T' a b := ⟨h.os, h.tape, h.output, h.size, fun i hi ht => h.block i hi fun x => ht (hT i hi x)⟩
theorem Kp.of_below {T : Nat → Prop} {a b : World} (h : Below a.heap.size a b) : Kp T a b := ⟨h.os, h.tape, h.output, h.size, fun i hi _ => h.block i hi⟩
theorem Kp.below {T : Nat → Prop} {a b : World} (h : Kp T a b) {B : Nat} (hB : B ≤ a.heap.size) (hT : ∀ k, k < B → ¬ T k) : Below B a b := ⟨h.os, h.tape, h.output, h.size, fun i hi => h.block i (by omega) (hT i hi)⟩
theorem Kp.drew {T : Nat → Prop} {a b : World} (h : Kp T a b) : Kp T a b.drew := ⟨h.os, h.tape, h.output, h.size, h.block⟩
theorem Kp.drewN {T : Nat → Prop} {a b : World} (h : Kp T a b) (n : Nat) : Kp T a (b.drewN n) := ⟨h.os, h.tape, h.output, h.size, h.block⟩
theorem Kp.alloc {T : Nat → Prop} {a b : World} (h : Kp T a b) (o : Obj) : Kp T a (b.alloc o) := h.trans (Kp.of_below ((Below.refl _ _).alloc (Nat.le_refl _) o))
theorem Kp.setCell {T : Nat → Prop} {a b : World} (h : Kp T a b) {p : Addr} (hp : T p.block ∨ a.heap.size ≤ p.block) (u : Value) : Kp T a (b.setCell p u) :=
  ⟨h.os, h.tape, h.output, by simpa [World.setCell] using h.size, fun i hi ht => (Below.heap_setCell b p u i (by
    rintro rfl
    rcases hp with hp | hp
    · exact ht hp
    · omega)).trans (h.block i hi ht)⟩
theorem Kp.grown {T : Nat → Prop} {a b c : World} (h : Kp T a b) {row : Option Nat} (hg : b.grownBy c row) (hr : ∀ g, row = some g → T g ∨ a.heap.size ≤ g) : Kp T a c :=
  ⟨hg.os.trans h.os, hg.tape.trans h.tape, hg.output.trans h.output, Nat.le_trans h.size hg.size, fun i hi ht => (hg.block i (Nat.lt_of_lt_of_le hi h.size) (fun e => by
    rcases hr i e.symm with x | x
    · exact ht x
    · omega)).trans (h.block i hi ht)⟩
theorem Kp.cell {T : Nat → Prop} {a b : World} (h : Kp T a b) {p : Addr} (hp : p.block < a.heap.size) (ht : ¬ T p.block) : b.cell? p = a.cell? p := World.cell?_of_block (w := a) (h.block p.block hp ht)
theorem Kp.then_below {T : Nat → Prop} {a b c : World} (h : Kp T a b) (k : Below b.heap.size b c) : Kp T a c := h.trans (Kp.of_below k)
theorem Rd.kp {w w1 : World} {size n : Nat} {A : Option Addr} {xs : List Value} (h : Rd w size A n xs) {T : Nat → Prop} (hg : Kp T w w1) (hne : ∀ b o, A = some ⟨b, o, none⟩ → ¬ T b) : Rd w1 size A n xs :=
  ⟨h.len, h.big, fun hn => by
    obtain ⟨b, o, e, hlt, hc⟩ := h.at_ hn
    exact ⟨b, o, e, Nat.lt_of_lt_of_le hlt hg.size, fun j u hu => (World.cell?_of_block (hg.block b hlt (hne b o e))).trans (hc j u hu)⟩⟩

/-! ### Lists of structs as cells -/
theorem flat_at {α : Type} (f : α → List Value) (s : Nat) (hs : ∀ x, (f x).length = s) : ∀ (l : List α) (k j : Nat) (x : α), l[k]? = some x → j < s → (l.flatMap f)[k * s + j]? = (f x)[j]?
  | [], k, j, x, h, _ => by simp at h
  | y :: l, 0, j, x, h, hj => by
    have hx : y = x := by simpa using h
    subst hx
    rw [List.flatMap_cons, Nat.zero_mul, Nat.zero_add, List.getElem?_append_left (by rw [hs]; exact hj)]
  | y :: l, k + 1, j, x, h, hj => by
    have e : (k + 1) * s + j = (f y).length + (k * s + j) := by rw [hs, Nat.add_mul]; omega
    rw [List.flatMap_cons, e, List.getElem?_append_right (by omega), Nat.add_sub_cancel_left]
    exact flat_at f s hs l k j x (by simpa using h) hj
theorem flat_len {α : Type} (f : α → List Value) (s : Nat) (hs : ∀ x, (f x).length = s) (l : List α) : (l.flatMap f).length = l.length * s := by
  induction l with
  | nil => simp
  | cons x l ih => rw [List.flatMap_cons, List.length_append, hs, ih, List.length_cons, Nat.add_mul]; omega

def evs (l : List Ev) : List Value := l.flatMap Ev.cells
def rcs (l : List Rc) : List Value := l.flatMap Rc.cells
theorem evs_len (l : List Ev) : (evs l).length = l.length * 6 := flat_len _ 6 (fun _ => rfl) l
theorem rcs_len (l : List Rc) : (rcs l).length = l.length * 6 := flat_len _ 6 (fun _ => rfl) l
theorem Rd.ev_len {w : World} {A : Option Addr} {n : Nat} {l : List Ev} (h : Rd w 6 A n (evs l)) : l.length = n := by have := h.len; rw [evs_len] at this; omega
theorem Rd.rc_len {w : World} {A : Option Addr} {n : Nat} {l : List Rc} (h : Rd w 6 A n (rcs l)) : l.length = n := by have := h.len; rw [rcs_len] at this; omega
theorem Rd.ev {w : World} {A : Option Addr} {n : Nat} {l : List Ev} (h : Rd w 6 A n (evs l)) (k : Nat) (x : Ev) (hx : l[k]? = some x) :
    ∃ b o, A = some ⟨b, o, none⟩ ∧ b < w.heap.size ∧ w.cell? ⟨b, o + k * 6, none⟩ = some (.int .i64 x.it) ∧ w.cell? ⟨b, o + k * 6 + 1, none⟩ = some (.int .i64 x.tr) ∧ w.cell? ⟨b, o + k * 6 + 2, none⟩ = some (.int .i64 x.wi)
      ∧ w.cell? ⟨b, o + k * 6 + 3, none⟩ = some (.int .i64 x.ti) ∧ w.cell? ⟨b, o + k * 6 + 4, none⟩ = some (.int .i64 x.ad) ∧ w.cell? ⟨b, o + k * 6 + 5, none⟩ = some (.int .u64 x.ma) := by
  have hk : k < n := by rw [← h.ev_len]; exact (List.getElem?_eq_some_iff.1 hx).1
  obtain ⟨b, o, e, hb, hc⟩ := h.at_ (by omega)
  have g : ∀ j u, x.cells[j]? = some u → j < 6 → w.cell? ⟨b, o + k * 6 + j, none⟩ = some u := fun j u hu hj => by
    rw [Nat.add_assoc]; exact hc _ _ ((flat_at Ev.cells 6 (fun _ => rfl) l k j x hx hj).trans hu)
  exact ⟨b, o, e, hb, g 0 _ rfl (by omega), g 1 _ rfl (by omega), g 2 _ rfl (by omega), g 3 _ rfl (by omega), g 4 _ rfl (by omega), g 5 _ rfl (by omega)⟩
theorem Rd.rc {w : World} {A : Option Addr} {n : Nat} {l : List Rc} (h : Rd w 6 A n (rcs l)) (k : Nat) (x : Rc) (hx : l[k]? = some x) :
    ∃ b o, A = some ⟨b, o, none⟩ ∧ b < w.heap.size ∧ w.cell? ⟨b, o + k * 6, none⟩ = some (.int .i64 x.it) ∧ w.cell? ⟨b, o + k * 6 + 1, none⟩ = some (.int .i64 x.tr) ∧ w.cell? ⟨b, o + k * 6 + 2, none⟩ = some (.int .i64 x.wi)
      ∧ w.cell? ⟨b, o + k * 6 + 3, none⟩ = some (.int .i64 x.ad) ∧ w.cell? ⟨b, o + k * 6 + 4, none⟩ = some (.int .u64 x.ba) ∧ w.cell? ⟨b, o + k * 6 + 5, none⟩ = some (.int .u64 x.go) := by
  have hk : k < n := by rw [← h.rc_len]; exact (List.getElem?_eq_some_iff.1 hx).1
  obtain ⟨b, o, e, hb, hc⟩ := h.at_ (by omega)
  have g : ∀ j u, x.cells[j]? = some u → j < 6 → w.cell? ⟨b, o + k * 6 + j, none⟩ = some u := fun j u hu hj => by
    rw [Nat.add_assoc]; exact hc _ _ ((flat_at Rc.cells 6 (fun _ => rfl) l k j x hx hj).trans hu)
  exact ⟨b, o, e, hb, g 0 _ rfl (by omega), g 1 _ rfl (by omega), g 2 _ rfl (by omega), g 3 _ rfl (by omega), g 4 _ rfl (by omega), g 5 _ rfl (by omega)⟩

theorem rd_new (w : World) (cs : Array Value) (t : TypeId) (size n : Nat) (hl : cs.size = n * size) (hn : n ≤ 140737488355328) : Rd (w.alloc (.cells cs t)) size (some ⟨w.heap.size, 0, none⟩) n cs.toList :=
  ⟨by simpa using hl, hn, fun _ => ⟨_, _, rfl, by simp, fun j u hu => by rw [Nat.zero_add, cell_of_row _ _ j cs t (0, 0) (heap_alloc_new w _)]; simpa using hu⟩⟩

/-! ### xs[k:], xs[:k] -/
theorem rd_take {w : World} {size n k : Nat} {A : Option Addr} {xs : List Value} (h : Rd w size A n xs) (hk : k ≤ n) : Rd w size A k (xs.take (k * size)) := by
  have hl : k * size ≤ n * size := Nat.mul_le_mul_right _ hk
  refine ⟨by rw [List.length_take, h.len]; omega, by have := h.big; omega, fun h0 => ?_⟩
  obtain ⟨b, o, e, hb, hc⟩ := h.at_ (by omega)
  refine ⟨b, o, e, hb, fun j u hu => hc j u ?_⟩
  rw [List.getElem?_take] at hu
  split at hu
  · exact hu
  · cases hu
theorem add_addr (b o j : Nat) : (⟨b, o, none⟩ : Addr).add j = ⟨b, o + j, none⟩ := by unfold Addr.add; split <;> simp_all
theorem rd_drop {w : World} {size n k : Nat} {A : Option Addr} {xs : List Value} (h : Rd w size A n xs) (hk : k ≤ n) (A' : Option Addr) (hA : k < n → A' = A.map (·.add (k * size))) : Rd w size A' (n - k) (xs.drop (k * size)) := by
  refine ⟨by rw [List.length_drop, h.len, Nat.sub_mul], by have := h.big; omega, fun h0 => ?_⟩
  obtain ⟨b, o, e, hb, hc⟩ := h.at_ (by omega)
  refine ⟨b, o + k * size, by rw [hA (by omega), e]; simp [add_addr], hb, fun j u hu => ?_⟩
  rw [Nat.add_assoc]
  exact hc _ u (by rwa [List.getElem?_drop] at hu)
section
variable {P : Program} (t e : TypeId) (z : Value) (size bytes : Nat) (ht : P.underlying t = some (.slice e)) (hinfo : (P.info? e).map (fun i => (i.zero, i.size, i.bytes)) = some (some z, size, bytes))
include ht hinfo
theorem cut_from (A : Option Addr) (n c : Nat) (hnc : n ≤ c) (i : Int) (k : Nat) (hi : i = (k : Int)) (hk : k ≤ n) :
    ∃ A' : Option Addr, (∀ W : World, (Instr.slice t (.slice A n c) (some (.int .i64 i)) none none).run P W = .ok (.slice A' (n - k) (c - k)) W) ∧ ∀ (w : World) (xs : List Value), Rd w size A n xs → Rd w size A' (n - k) (xs.drop (k * size)) := by
  obtain ⟨ii, hii, hzz⟩ := Option.map_eq_some_iff.1 hinfo
  simp only [Prod.mk.injEq] at hzz
  obtain ⟨_, hsz, _⟩ := hzz
  subst hi
  refine ⟨if c = k then A else A.map (·.add (k * size)), fun W => ?_, fun w xs h => rd_drop h hk _ (fun hlt => if_neg (by omega))⟩
  have hel : P.elem t = e := by simp [Program.elem, ht]
  have hu : P.underlying t = some (.slice (P.elem t)) := by rw [hel]; exact ht
  rw [run_slice_l W t A n c hu .i64 (k : Int) (Int.natCast_nonneg _) (by omega), hel]
  simp [sizeOf, typeInfo, hii, hsz, sliced, Result.andThen]
theorem cut_to (A : Option Addr) (n c : Nat) (hnc : n ≤ c) (i : Int) (k : Nat) (hi : i = (k : Int)) (hk : k ≤ n) :
    ∃ A' : Option Addr, (∀ W : World, (Instr.slice t (.slice A n c) none (some (.int .i64 i)) none).run P W = .ok (.slice A' k c) W) ∧ ∀ (w : World) (xs : List Value), Rd w size A n xs → Rd w size A' k (xs.take (k * size)) := by
  obtain ⟨ii, hii, hzz⟩ := Option.map_eq_some_iff.1 hinfo
  simp only [Prod.mk.injEq] at hzz
  obtain ⟨_, hsz, _⟩ := hzz
  subst hi
  refine ⟨if c = 0 then A else A.map (·.add 0), fun W => ?_, fun w xs h => ?_⟩
  · have hel : P.elem t = e := by simp [Program.elem, ht]
    have hu : P.underlying t = some (.slice (P.elem t)) := by rw [hel]; exact ht
    rw [run_slice_h W t A n c hu .i64 (k : Int) (Int.natCast_nonneg _) (by omega), hel]
    simp [sizeOf, typeInfo, hii, sliced, Result.andThen]
  · have hA : (if c = 0 then A else A.map (·.add 0)) = A := by
      split
      · rfl
      · cases A with
        | none => rfl
        | some a => simp [Addr.add]
    rw [hA]
    exact rd_take h hk
end

/-- a slice value that reads as the cells xs -/
def RdV (w : World) (size : Nat) (v : Value) (n : Nat) (xs : List Value) : Prop := ∃ A c, v = .slice A n c ∧ n ≤ c ∧ Rd w size A n xs
theorem RdV.mk {w : World} {size n c : Nat} {A : Option Addr} {xs : List Value} (h : Rd w size A n xs) (hc : n ≤ c) : RdV w size (.slice A n c) n xs := ⟨A, c, rfl, hc, h⟩
theorem RdV.below {w w1 : World} {size n : Nat} {v : Value} {xs : List Value} (h : RdV w size v n xs) (hb : Below w.heap.size w w1) : RdV w1 size v n xs := by
  obtain ⟨A, c, hv, hc, hr⟩ := h; exact ⟨A, c, hv, hc, hr.below hb⟩
theorem RdV.of_own {w : World} {base n : Nat} {e : TypeId} {size : Nat} {v : Value} {xs : List Value} (h : w.ownsRow base e size v n xs) (hb : n ≤ 140737488355328) : RdV w size v n xs := by
  obtain ⟨A, c, hv, hc, hr, _⟩ := Rd.of_own h hb; exact ⟨A, c, hv, hc, hr⟩
theorem RdV.alloc {w : World} {size n : Nat} {v : Value} {xs : List Value} (h : RdV w size v n xs) (o : Obj) : RdV (w.alloc o) size v n xs := by
  obtain ⟨A, c, hv, hc, hr⟩ := h; exact ⟨A, c, hv, hc, hr.alloc o⟩
theorem RdV.nil (w : World) (size : Nat) : RdV w size (.slice none 0 0) 0 [] := ⟨none, 0, rfl, Nat.le_refl _, Rd.nil _ _ _⟩
theorem rd_at (w : World) (cs : Array Value) (t : TypeId) (size n b : Nat) (hb : b = w.heap.size) (hl : cs.size = n * size) (hn : n ≤ 140737488355328) : Rd (w.alloc (.cells cs t)) size (some ⟨b, 0, none⟩) n cs.toList := by
  subst hb; exact rd_new w cs t size n hl hn
theorem evs_append (l r : List Ev) : evs l ++ evs r = evs (l ++ r) := by simp [evs]
theorem rcs_append (l r : List Rc) : rcs l ++ rcs r = rcs (l ++ r) := by simp [rcs]
theorem evs_take (l : List Ev) (k : Nat) : (evs l).take (k * 6) = evs (l.take k) := by
  induction k generalizing l with
  | zero => simp [evs]
  | succ k ih => cases l with
    | nil => simp [evs]
    | cons x l => rw [Nat.add_mul, List.take_succ_cons]; show ((x.cells ++ evs l).take _) = x.cells ++ evs (l.take k); rw [List.take_append, ← ih]; simp [Ev.cells, List.take_of_length_le]
theorem evs_drop (l : List Ev) (k : Nat) : (evs l).drop (k * 6) = evs (l.drop k) := by
  induction k generalizing l with
  | zero => simp
  | succ k ih => cases l with
    | nil => simp [evs]
    | cons x l => rw [Nat.add_mul, List.drop_succ_cons]; show ((x.cells ++ evs l).drop _) = evs (l.drop k); rw [List.drop_append, ← ih]; simp [Ev.cells]
theorem rcs_take (l : List Rc) (k : Nat) : (rcs l).take (k * 6) = rcs (l.take k) := by
  induction k generalizing l with
  | zero => simp [rcs]
  | succ k ih => cases l with
    | nil => simp [rcs]
    | cons x l => rw [Nat.add_mul, List.take_succ_cons]; show ((x.cells ++ rcs l).take _) = x.cells ++ rcs (l.take k); rw [List.take_append, ← ih]; simp [Rc.cells, List.take_of_length_le]
theorem rcs_drop (l : List Rc) (k : Nat) : (rcs l).drop (k * 6) = rcs (l.drop k) := by
  induction k generalizing l with
  | zero => simp
  | succ k ih => cases l with
    | nil => simp [rcs]
    | cons x l => rw [Nat.add_mul, List.drop_succ_cons]; show ((x.cells ++ rcs l).drop _) = rcs (l.drop k); rw [List.drop_append, ← ih]; simp [Rc.cells]
theorem evs_one (l : List Ev) : ∀ u ∈ evs l, u.oneCell' = true := by
  intro u hu
  simp only [evs, List.mem_flatMap, Ev.cells, List.mem_cons, List.not_mem_nil, or_false] at hu
  obtain ⟨x, _, h⟩ := hu
  rcases h with rfl | rfl | rfl | rfl | rfl | rfl <;> rfl
theorem rcs_one (l : List Rc) : ∀ u ∈ rcs l, u.oneCell' = true := by
  intro u hu
  simp only [rcs, List.mem_flatMap, Rc.cells, List.mem_cons, List.not_mem_nil, or_false] at hu
  obtain ⟨x, _, h⟩ := hu
  rcases h with rfl | rfl | rfl | rfl | rfl | rfl <;> rfl
def ints (k : IntKind) (l : List Int) : List Value := l.map (.int k)
theorem ints_len (k : IntKind) (l : List Int) : (ints k l).length = l.length := by simp [ints]
theorem ints_append (k : IntKind) (l r : List Int) : ints k l ++ ints k r = ints k (l ++ r) := by simp [ints]
theorem ints_one (k : IntKind) (l : List Int) : ∀ u ∈ ints k l, u.oneCell' = true := by
  intro u hu
  simp only [ints, List.mem_map] at hu
  obtain ⟨x, _, rfl⟩ := hu
  rfl

/-- to look at an operation: the arm '(refine stop_at 36 rfl ?_)' halts the walk there -/
def Stop (p : Prop) : Prop := p
theorem stop_at {P : Program} {ops : Array Oper} {rest : List Oper} {o : Oper} {a : Act} {w : World} {Q : Exit → Act → World → Prop} (n : Nat) (h : o.dst = some n) (k : Stop (wpList P ops Q (o :: rest) a w)) : wpList P ops Q (o :: rest) a w := k

theorem Rd.u_len {w : World} {A : Option Addr} {n : Nat} {k : IntKind} {l : List Int} (h : Rd w 1 A n (ints k l)) : l.length = n := by have := h.len; rw [ints_len] at this; omega
theorem Rd.int {w : World} {A : Option Addr} {n : Nat} {kk : IntKind} {l : List Int} (h : Rd w 1 A n (ints kk l)) (k : Nat) (x : Int) (hx : l[k]? = some x) : ∃ b o, A = some ⟨b, o, none⟩ ∧ b < w.heap.size ∧ w.cell? ⟨b, o + k, none⟩ = some (.int kk x) := by
  have hk : k < n := by rw [← h.u_len]; exact (List.getElem?_eq_some_iff.1 hx).1
  obtain ⟨b, o, e, hb, hc⟩ := h.at_ (by omega)
  exact ⟨b, o, e, hb, hc k _ (by simp [ints, hx])⟩
theorem own_free {w : World} {base : Nat} {e : TypeId} {size n cap g : Nat} {xs : List Value} (h : w.ownsRow base e size (.slice (some ⟨g, 0, none⟩) n cap) n xs) (j : Nat) : w.frozen? ⟨g, j, none⟩ = false := by
  rcases h.2 with ⟨h', _⟩ | ⟨g', cap', cur, h', _, hh, _⟩
  · cases h'
  · have : g = g' := by injection h' with h'; injection h' with h'; injection h' with h'
    subst this
    simp [World.frozen?, hh]
theorem below_drewN {B : Nat} {a w : World} (h : Below B a w) (n : Nat) : Below B a (w.drewN n) := ⟨h.os, h.tape, h.output, h.size, h.block⟩

/-! ### append onto a row of one's own, from whatever source that is read -/
section
variable {P : Program} (w : World)
theorem run_append_rd_nil (base : Nat) (t ty e : TypeId) (i : TypeInfo) (size : Nat) (ht : P.underlying t = some (.slice e)) (hi : P.info? e = some i)
    (v : Value) (n : Nat) (xs : List Value) (hown : w.ownsRow base e size v n xs) (c : Nat) : (Builtin.append_ #[t, t] ty #[v, .slice none 0 c]).run P w = .ok v w := by
  rcases hown.2 with ⟨rfl, rfl⟩ | ⟨g, cap, cur, rfl, _, _, hnc, _⟩
  · simp [Builtin.append_, run_underlying ht, sizeOf, typeInfo, hi, Builtin.lenOf, Builtin.firstCells]
  · simp [Builtin.append_, run_underlying ht, sizeOf, typeInfo, hi, Builtin.lenOf, Builtin.firstCells, hnc, storeCells]

theorem run_append_rd (base : Nat) (t ty e : TypeId) (z : Value) (size bytes : Nat) (ht : P.underlying t = some (.slice e)) (hinfo : (P.info? e).map (fun i => (i.zero, i.size, i.bytes)) = some (some z, size, bytes)) (hzs : z.cells.size = size) (hsz : 0 < size)
    (v : Value) (n : Nat) (xs : List Value) (hown : w.ownsRow base e size v n xs)
    (A : Option Addr) (m c : Nat) (news : List Value) (hr : Rd w size A m news) (h1 : ∀ u ∈ news, u.oneCell' = true)
    (hbytes : (n + m) * bytes ≤ 140737488355328) (hb0 : 0 < bytes) (hbase : base ≤ w.heap.size) :
    ∃ v' w', (Builtin.append_ #[t, t] ty #[v, .slice A m c]).run P w = .ok v' w' ∧ w'.ownsRow base e size v' (n + m) (xs ++ news) ∧ w.grownBy w' v.ownBlock ∧
      (v'.ownBlock = v.ownBlock ∨ v'.ownBlock = some w.heap.size) := by
  obtain ⟨i, hi, hzz⟩ := Option.map_eq_some_iff.1 hinfo
  simp only [Prod.mk.injEq] at hzz
  obtain ⟨hz, hsize, hby⟩ := hzz
  have h63 : n + m ≤ maxLen := by have : n + m ≤ (n + m) * bytes := Nat.le_mul_of_pos_right _ hb0; simp only [maxLen]; omega
  rcases Nat.eq_zero_or_pos m with h0 | h0
  · subst h0
    have hn : news = [] := List.eq_nil_of_length_eq_zero (by simpa using hr.len)
    subst hn
    rcases A with _ | ad
    · exact ⟨v, w, run_append_rd_nil w base t ty e i size ht hi v n xs hown c, by simpa using hown, World.grownBy.refl w _, .inl rfl⟩
    · obtain ⟨v', w', hrun, h2, h3, _, h5⟩ := run_append_own_at (P := P) w base t ty e i z size bytes ht hi hz hsize hby hzs hsz v n xs hown ad 0 c [] (by simp) (by simp) (by simp) h63 hbytes hbase
      exact ⟨v', w', hrun, h2, h3, h5⟩
  · obtain ⟨b, o, rfl, hlt, hc⟩ := hr.at_ h0
    have hcells : ∀ j u, news[j]? = some u → w.cell? ((⟨b, o, none⟩ : Addr).add j) = some u := by
      intro j u hu
      have ha : (⟨b, o, none⟩ : Addr).add j = ⟨b, o + j, none⟩ := by unfold Addr.add; split <;> simp_all
      rw [ha]; exact hc j u hu
    obtain ⟨v', w', hrun, h2, h3, _, h5⟩ := run_append_own_at (P := P) w base t ty e i z size bytes ht hi hz hsize hby hzs hsz v n xs hown ⟨b, o, none⟩ m c news hr.len hcells h1 h63 hbytes hbase
    exact ⟨v', w', hrun, h2, h3, h5⟩

theorem wp_append_rd {o : Oper} {a : Act} {K : Act → World → Prop} {Q : Exit → Act → World → Prop} (s x : Operand) (t : TypeId)
    (ho : o.op = .call { callee := .builtin .append, args := #[s, x], argTypes := #[t, t] })
    (base : Nat) (e : TypeId) (z : Value) (size bytes : Nat) (ht : P.underlying t = some (.slice e)) (hinfo : (P.info? e).map (fun i => (i.zero, i.size, i.bytes)) = some (some z, size, bytes)) (hzs : z.cells.size = size) (hsz : 0 < size)
    (v : Value) (n : Nat) (xs : List Value) (hs : a.eval s = v) (hown : w.ownsRow base e size v n xs)
    (A : Option Addr) (m c : Nat) (news : List Value) (hx : a.eval x = .slice A m c) (hr : Rd w size A m news) (h1 : ∀ u ∈ news, u.oneCell' = true)
    (hbytes : (n + m) * bytes ≤ 140737488355328) (hb0 : 0 < bytes) (hbase : base ≤ w.heap.size)
    (h : ∀ v' w', w'.ownsRow base e size v' (n + m) (xs ++ news) → w.grownBy w' v.ownBlock → (v'.ownBlock = v.ownBlock ∨ v'.ownBlock = some w.heap.size) → K (a.put o.dst v') w') : o.wp P a w K Q := by
  obtain ⟨v', w', hrun, h2, h3, h4⟩ := run_append_rd (P := P) w base t o.type e z size bytes ht hinfo hzs hsz v n xs hown A m c news hr h1 hbytes hb0 hbase
  unfold Oper.wp execOp
  simp only [ho, resolve, invoke, builtin, Sem.run_bind, Sem.run_pure, Result.andThen_ok, List.map_toArray, List.map_cons, List.map_nil, hs, hx, hrun]
  exact h v' w' h2 h3 h4

theorem wpList_append_rd {ops : Array Oper} {rest : List Oper} {o : Oper} {a : Act} {Q : Exit → Act → World → Prop} (hgd : o.guard = none) (s x : Operand) (t : TypeId)
    (ho : o.op = .call { callee := .builtin .append, args := #[s, x], argTypes := #[t, t] })
    (base : Nat) (e : TypeId) (z : Value) (size bytes : Nat) (ht : P.underlying t = some (.slice e)) (hinfo : (P.info? e).map (fun i => (i.zero, i.size, i.bytes)) = some (some z, size, bytes)) (hzs : z.cells.size = size) (hsz : 0 < size)
    (v : Value) (n : Nat) (xs : List Value) (hs : a.eval s = v) (hown : w.ownsRow base e size v n xs)
    (A : Option Addr) (m c : Nat) (news : List Value) (hx : a.eval x = .slice A m c) (hr : Rd w size A m news) (h1 : ∀ u ∈ news, u.oneCell' = true)
    (hbytes : (n + m) * bytes ≤ 140737488355328) (hb0 : 0 < bytes) (hbase : base ≤ w.heap.size)
    (h : ∀ v' w', w'.ownsRow base e size v' (n + m) (xs ++ news) → w.grownBy w' v.ownBlock → (v'.ownBlock = v.ownBlock ∨ v'.ownBlock = some w.heap.size) → wpList P ops Q rest (a.put o.dst v') w') : wpList P ops Q (o :: rest) a w :=
  wpList_plain hgd fun _ hK => wp_append_rd w s x t ho base e z size bytes ht hinfo hzs hsz v n xs hs hown A m c news hx hr h1 hbytes hb0 hbase fun v' w' h2 h3 h4 => hK _ _ (h v' w' h2 h3 h4)

theorem step_append_rd {ops : Array Oper} {o : Oper} {a : Act} {K : Act → World → Prop} {Q : Exit → Act → World → Prop} {E : Prop} (hgd : o.guard = none) (s x : Operand) (t : TypeId)
    (ho : o.op = .call { callee := .builtin .append, args := #[s, x], argTypes := #[t, t] })
    (base : Nat) (e : TypeId) (z : Value) (size bytes : Nat) (ht : P.underlying t = some (.slice e)) (hinfo : (P.info? e).map (fun i => (i.zero, i.size, i.bytes)) = some (some z, size, bytes)) (hzs : z.cells.size = size) (hsz : 0 < size)
    (v : Value) (n : Nat) (xs : List Value) (hs : a.eval s = v) (hown : w.ownsRow base e size v n xs)
    (A : Option Addr) (m c : Nat) (news : List Value) (hx : a.eval x = .slice A m c) (hr : Rd w size A m news) (h1 : ∀ u ∈ news, u.oneCell' = true)
    (hbytes : (n + m) * bytes ≤ 140737488355328) (hb0 : 0 < bytes) (hbase : base ≤ w.heap.size)
    (h : ∀ v' w', w'.ownsRow base e size v' (n + m) (xs ++ news) → w.grownBy w' v.ownBlock → (v'.ownBlock = v.ownBlock ∨ v'.ownBlock = some w.heap.size) → K (a.put o.dst v') w') :
    if Region.wanted o (yielded ops a.tmps) = true then Oper.wp P o a w K Q else E := by
  have hw : Region.wanted o (yielded ops a.tmps) = true := by simp [Region.wanted, hgd]
  rw [if_pos hw]
  exact wp_append_rd w s x t ho base e z size bytes ht hinfo hzs hsz v n xs hs hown A m c news hx hr h1 hbytes hb0 hbase h
end
end Go.Proofs.Ytcilfgedcnehfaa
