/-
  Part of the proof of a law: contracts of functions that work with maps. Conditions: none.
-/
import Derived.WalkKit
import Derived.BigQuiet
import Derived.Deep.QuietTactic
import Derived.Deep.DeepFit
import Derived.WalkLawsBesides
import Derived.WalkSpells
import Derived.Deep.LoopGhost
import Derived.Deep.Draws
import Derived.Deep.AppendLies
import Derived.Maps.AppendAt
import Derived.Lib.Hide
import Derived.StillTailTactics
import Derived.Deep.RegionHeld3
import Derived.Deep.DeepCutAuto
import Derived.KernelRfl
import Derived.MapKept
import Derived.Maps.RangeRun
import Derived.Test.YtcilfgedcnehfaaGreatDoorProg
import Derived.Test.YtcilfgedcnehfaaGreatDoorShelf
import Derived.Sort.OwnSortedInts
import Derived.Test.YtcilfgedcnehfaaGreatDoorVA2
import Derived.Test.YtcilfgedcnehfaaGreatDoorVP1
import Derived.Laws.Bits64
set_option linter.unusedVariables false
set_option linter.unusedSectionVars false
set_option linter.unusedSimpArgs false
set_option linter.deprecated false
set_option linter.unusedVariables false
set_option linter.unusedSectionVars false
set_option linter.unusedSimpArgs false
namespace Go.Proofs.YtcilfgedcnehfaaGreatDoor
open Go.RowKit

structure Ev where
  it : Int
  tr : Int
  wi : Int
  ti : Int
  ad : Int
  ma : Int
structure Rc where
  it : Int
  tr : Int
  wi : Int
  ad : Int
  ba : Int
  go : Int
theorem Ev.eq_iff (x y : Ev) : x = y ↔ x.it = y.it ∧ x.tr = y.tr ∧ x.wi = y.wi ∧ x.ti = y.ti ∧ x.ad = y.ad ∧ x.ma = y.ma := by
  cases x; cases y; simp
theorem Rc.eq_iff (x y : Rc) : x = y ↔ x.it = y.it ∧ x.tr = y.tr ∧ x.wi = y.wi ∧ x.ad = y.ad ∧ x.ba = y.ba ∧ x.go = y.go := by
  cases x; cases y; simp
instance : DecidableEq Ev := fun x y => decidable_of_iff _ (Ev.eq_iff x y).symm
instance : DecidableEq Rc := fun x y => decidable_of_iff _ (Rc.eq_iff x y).symm
def Ev.cells (x : Ev) : List Value := [.int .i64 x.it, .int .i64 x.tr, .int .i64 x.wi, .int .i64 x.ti, .int .i64 x.ad, .int .u64 x.ma]
def Rc.cells (x : Rc) : List Value := [.int .i64 x.it, .int .i64 x.tr, .int .i64 x.wi, .int .i64 x.ad, .int .u64 x.ba, .int .u64 x.go]
abbrev Ev.val (x : Ev) : Value := .agg #[.int .i64 x.it, .int .i64 x.tr, .int .i64 x.wi, .int .i64 x.ti, .int .i64 x.ad, .int .u64 x.ma]
abbrev Rc.val (x : Rc) : Value := .agg #[.int .i64 x.it, .int .i64 x.tr, .int .i64 x.wi, .int .i64 x.ad, .int .u64 x.ba, .int .u64 x.go]

structure Rd (w : World) (size : Nat) (A : Option Addr) (n : Nat) (xs : List Value) : Prop where
  len : xs.length = n * size
  big : n ≤ 140737488355328
  at_ : 0 < n → ∃ b o, A = some ⟨b, o, none⟩ ∧ b < w.heap.size ∧ ∀ j u, xs[j]? = some u → w.cell? ⟨b, o + j, none⟩ = some u

theorem Rd.below {w w1 : World} {size n : Nat} {A : Option Addr} {xs : List Value} (h : Rd w size A n xs) (hb : Below w.heap.size w w1) : Rd w1 size A n xs :=
  ⟨h.len, h.big, fun hn => by
    obtain ⟨b, o, e, hlt, hc⟩ := h.at_ hn
    exact ⟨b, o, e, Nat.lt_of_lt_of_le hlt hb.size, fun j u hu => (hb.cell hlt).trans (hc j u hu)⟩⟩
theorem Rd.grown {w w1 : World} {size n : Nat} {A : Option Addr} {xs : List Value} (h : Rd w size A n xs) {row : Option Nat} (hg : w.grownBy w1 row) (hne : ∀ b o, A = some ⟨b, o, none⟩ → row ≠ some b) : Rd w1 size A n xs :=
  ⟨h.len, h.big, fun hn => by
    obtain ⟨b, o, e, hlt, hc⟩ := h.at_ hn
    exact ⟨b, o, e, Nat.lt_of_lt_of_le hlt hg.size, fun j u hu => (World.cell?_of_block (hg.block b hlt (fun x => hne b o e x.symm))).trans (hc j u hu)⟩⟩
theorem Rd.alloc {w : World} {size n : Nat} {A : Option Addr} {xs : List Value} (h : Rd w size A n xs) (o : Obj) : Rd (w.alloc o) size A n xs := h.below ((Below.refl _ _).alloc (Nat.le_refl _) _)
theorem Rd.drew {w : World} {size n : Nat} {A : Option Addr} {xs : List Value} (h : Rd w size A n xs) : Rd w.drew size A n xs := ⟨h.len, h.big, h.at_⟩
theorem Rd.drewN {w : World} {size n : Nat} {A : Option Addr} {xs : List Value} (h : Rd w size A n xs) (k : Nat) : Rd (w.drewN k) size A n xs := ⟨h.len, h.big, h.at_⟩
theorem Rd.nil (w : World) (size : Nat) (A : Option Addr) : Rd w size A 0 [] := ⟨by simp, by omega, fun h => absurd h (by omega)⟩
theorem Rd.of_own {w : World} {base n : Nat} {e : TypeId} {size : Nat} {v : Value} {xs : List Value} (h : w.ownsRow base e size v n xs) (hb : n ≤ 140737488355328) : ∃ A c, v = .slice A n c ∧ n ≤ c ∧ Rd w size A n xs ∧ (∀ g, v.ownBlock = some g → A = some ⟨g, 0, none⟩) := by
  rcases h.2 with ⟨rfl, rfl⟩ | ⟨g, cap, cur, rfl, hg, hh, hnc, _⟩
  · exact ⟨none, 0, rfl, Nat.le_refl _, ⟨by simpa using h.1, hb, fun h => absurd h (by omega)⟩, by simp [Value.ownBlock]⟩
  · refine ⟨_, cap, rfl, hnc, ⟨h.1, hb, fun _ => ⟨g, 0, rfl, (Array.getElem?_eq_some_iff.1 hh).1, fun j u hu => ?_⟩⟩, by simp [Value.ownBlock]⟩
    have := h.cells (g := g) rfl j u hu
    have ha : (⟨g, 0, none⟩ : Addr).add j = ⟨g, 0 + j, none⟩ := by unfold Addr.add; split <;> simp_all
    rwa [ha] at this

theorem new_cell {w W : World} {cs : Array Value} {t : TypeId} (hB : Below (w.alloc (.cells cs t)).heap.size (w.alloc (.cells cs t)) W) (j : Nat) : W.cell? ⟨w.heap.size, j, none⟩ = cs[j]? := by
  rw [hB.cell (by simp), cell_of_row _ _ j cs t (0, 0) (heap_alloc_new w _)]
theorem balloc {w W : World} (h : Below w.heap.size w W) (o : Obj) : Below w.heap.size w (W.alloc o) := h.alloc h.size o
theorem obelow {w w1 : World} {base n : Nat} {e : TypeId} {size : Nat} {v : Value} {xs : List Value} (h : w.ownsRow base e size v n xs) (hb : Below w.heap.size w w1) : w1.ownsRow base e size v n xs :=
  h.kept (row := none) ⟨hb.os, hb.tape, hb.output, hb.size, fun i hi _ => hb.block i hi⟩ (by cases v.ownBlock <;> simp)
structure Kp (T : Nat → Prop) (w w' : World) : Prop where
  os : w'.os = w.os
  tape : w'.tape = w.tape
  output : w'.output = w.output
  size : w.heap.size ≤ w'.heap.size
  block : ∀ k, k < w.heap.size → ¬ T k → w'.heap[k]? = w.heap[k]?
theorem Kp.refl (T : Nat → Prop) (w : World) : Kp T w w := ⟨rfl, rfl, rfl, Nat.le_refl _, fun _ _ _ => rfl⟩
theorem Kp.trans {T : Nat → Prop} {a b c : World} (h : Kp T a b) (k : Kp T b c) : Kp T a c :=
  ⟨k.os.trans h.os, k.tape.trans h.tape, k.output.trans h.output, Nat.le_trans h.size k.size, fun i hi ht => (k.block i (Nat.lt_of_lt_of_le hi h.size) ht).trans (h.block i hi ht)⟩
theorem Kp.mono {T T' : Nat → Prop} {a b : World} (h : Kp T a b) (hT : ∀ k, k < a.heap.size → T k → T' k) : Kp T' a b := ⟨h.os, h.tape, h.output, h.size, fun i hi ht => h.block i hi fun x => ht (hT i hi x)⟩
theorem Kp.of_below {T : Nat → Prop} {a b : World} (h : Below a.heap.size a b) : Kp T a b := ⟨h.os, h.tape, h.output, h.size, fun i hi _ => h.block i hi⟩
theorem Kp.below {T : Nat → Prop} {a b : World} (h : Kp T a b) {B : Nat} (hB : B ≤ a.heap.size) (hT : ∀ k, k < B → ¬ T k) : Below B a b := ⟨h.os, h.tape, h.output, h.size, fun i hi => h.block i (by omega) (hT i hi)⟩
theorem Kp.drew {T : Nat → Prop} {a b : World} (h : Kp T a b) : Kp T a b.drew := ⟨h.os, h.tape, h.output, h.size, h.block⟩
theorem Kp.drewN {T : Nat → Prop} {a b : World} (h : Kp T a b) (n : Nat) : Kp T a (b.drewN n) := ⟨h.os, h.tape, h.output, h.size, h.block⟩
theorem Kp.alloc {T : Nat → Prop} {a b : World} (h : Kp T a b) (o : Obj) : Kp T a (b.alloc o) := h.trans (Kp.of_below ((Below.refl _ _).alloc (Nat.le_refl _) o))
theorem Kp.setCell {T : Nat → Prop} {a b : World} (h : Kp T a b) {p : Addr} (hp : T p.block ∨ a.heap.size ≤ p.block) (u : Value) : Kp T a (b.setCell p u) :=
  ⟨h.os, h.tape, h.output, by simpa [World.setCell] using h.size, fun i hi ht => (Below.heap_setCell b p u i (by
    rintro rfl
    rcases hp with hp | hp
    · exact ht hp
    · omega)).trans (h.block i hi ht)⟩
theorem Kp.grown {T : Nat → Prop} {a b c : World} (h : Kp T a b) {row : Option Nat} (hg : b.grownBy c row) (hr : ∀ g, row = some g → T g ∨ a.heap.size ≤ g) : Kp T a c :=
  ⟨hg.os.trans h.os, hg.tape.trans h.tape, hg.output.trans h.output, Nat.le_trans h.size hg.size, fun i hi ht => (hg.block i (Nat.lt_of_lt_of_le hi h.size) (fun e => by
    rcases hr i e.symm with x | x
    · exact ht x
    · omega)).trans (h.block i hi ht)⟩
theorem Kp.cell {T : Nat → Prop} {a b : World} (h : Kp T a b) {p : Addr} (hp : p.block < a.heap.size) (ht : ¬ T p.block) : b.cell? p = a.cell? p := World.cell?_of_block (w := a) (h.block p.block hp ht)
theorem flat_at {α : Type} (f : α → List Value) (s : Nat) (hs : ∀ x, (f x).length = s) : ∀ (l : List α) (k j : Nat) (x : α), l[k]? = some x → j < s → (l.flatMap f)[k * s + j]? = (f x)[j]?
  | [], k, j, x, h, _ => by simp at h
  | y :: l, 0, j, x, h, hj => by
    have hx : y = x := by simpa using h
    subst hx
    rw [List.flatMap_cons, Nat.zero_mul, Nat.zero_add, List.getElem?_append_left (by rw [hs]; exact hj)]
  | y :: l, k + 1, j, x, h, hj => by
    have e : (k + 1) * s + j = (f y).length + (k * s + j) := by rw [hs, Nat.add_mul]; omega
    rw [List.flatMap_cons, e, List.getElem?_append_right (by omega), Nat.add_sub_cancel_left]
    exact flat_at f s hs l k j x (by simpa using h) hj
theorem flat_len {α : Type} (f : α → List Value) (s : Nat) (hs : ∀ x, (f x).length = s) (l : List α) : (l.flatMap f).length = l.length * s := by
  induction l with
  | nil => simp
  | cons x l ih => rw [List.flatMap_cons, List.length_append, hs, ih, List.length_cons, Nat.add_mul]; omega

def evs (l : List Ev) : List Value := l.flatMap Ev.cells
theorem evs_len (l : List Ev) : (evs l).length = l.length * 6 := flat_len _ 6 (fun _ => rfl) l
theorem Rd.ev_len {w : World} {A : Option Addr} {n : Nat} {l : List Ev} (h : Rd w 6 A n (evs l)) : l.length = n := by have := h.len; rw [evs_len] at this; omega
theorem Rd.ev {w : World} {A : Option Addr} {n : Nat} {l : List Ev} (h : Rd w 6 A n (evs l)) (k : Nat) (x : Ev) (hx : l[k]? = some x) :
    ∃ b o, A = some ⟨b, o, none⟩ ∧ b < w.heap.size ∧ w.cell? ⟨b, o + k * 6, none⟩ = some (.int .i64 x.it) ∧ w.cell? ⟨b, o + k * 6 + 1, none⟩ = some (.int .i64 x.tr) ∧ w.cell? ⟨b, o + k * 6 + 2, none⟩ = some (.int .i64 x.wi)
      ∧ w.cell? ⟨b, o + k * 6 + 3, none⟩ = some (.int .i64 x.ti) ∧ w.cell? ⟨b, o + k * 6 + 4, none⟩ = some (.int .i64 x.ad) ∧ w.cell? ⟨b, o + k * 6 + 5, none⟩ = some (.int .u64 x.ma) := by
  have hk : k < n := by rw [← h.ev_len]; exact (List.getElem?_eq_some_iff.1 hx).1
  obtain ⟨b, o, e, hb, hc⟩ := h.at_ (by omega)
  have g : ∀ j u, x.cells[j]? = some u → j < 6 → w.cell? ⟨b, o + k * 6 + j, none⟩ = some u := fun j u hu hj => by
    rw [Nat.add_assoc]; exact hc _ _ ((flat_at Ev.cells 6 (fun _ => rfl) l k j x hx hj).trans hu)
  exact ⟨b, o, e, hb, g 0 _ rfl (by omega), g 1 _ rfl (by omega), g 2 _ rfl (by omega), g 3 _ rfl (by omega), g 4 _ rfl (by omega), g 5 _ rfl (by omega)⟩
theorem rd_new (w : World) (cs : Array Value) (t : TypeId) (size n : Nat) (hl : cs.size = n * size) (hn : n ≤ 140737488355328) : Rd (w.alloc (.cells cs t)) size (some ⟨w.heap.size, 0, none⟩) n cs.toList :=
  ⟨by simpa using hl, hn, fun _ => ⟨_, _, rfl, by simp, fun j u hu => by rw [Nat.zero_add, cell_of_row _ _ j cs t (0, 0) (heap_alloc_new w _)]; simpa using hu⟩⟩

theorem add_addr (b o j : Nat) : (⟨b, o, none⟩ : Addr).add j = ⟨b, o + j, none⟩ := by unfold Addr.add; split <;> simp_all
section
variable {P : Program} (t e : TypeId) (z : Value) (size bytes : Nat) (ht : P.underlying t = some (.slice e)) (hinfo : (P.info? e).map (fun i => (i.zero, i.size, i.bytes)) = some (some z, size, bytes))
include ht hinfo
end

def RdV (w : World) (size : Nat) (v : Value) (n : Nat) (xs : List Value) : Prop := ∃ A c, v = .slice A n c ∧ n ≤ c ∧ Rd w size A n xs
theorem RdV.mk {w : World} {size n c : Nat} {A : Option Addr} {xs : List Value} (h : Rd w size A n xs) (hc : n ≤ c) : RdV w size (.slice A n c) n xs := ⟨A, c, rfl, hc, h⟩
theorem RdV.below {w w1 : World} {size n : Nat} {v : Value} {xs : List Value} (h : RdV w size v n xs) (hb : Below w.heap.size w w1) : RdV w1 size v n xs := by
  obtain ⟨A, c, hv, hc, hr⟩ := h; exact ⟨A, c, hv, hc, hr.below hb⟩
theorem RdV.of_own {w : World} {base n : Nat} {e : TypeId} {size : Nat} {v : Value} {xs : List Value} (h : w.ownsRow base e size v n xs) (hb : n ≤ 140737488355328) : RdV w size v n xs := by
  obtain ⟨A, c, hv, hc, hr, _⟩ := Rd.of_own h hb; exact ⟨A, c, hv, hc, hr⟩
theorem RdV.alloc {w : World} {size n : Nat} {v : Value} {xs : List Value} (h : RdV w size v n xs) (o : Obj) : RdV (w.alloc o) size v n xs := by
  obtain ⟨A, c, hv, hc, hr⟩ := h; exact ⟨A, c, hv, hc, hr.alloc o⟩
theorem RdV.nil (w : World) (size : Nat) : RdV w size (.slice none 0 0) 0 [] := ⟨none, 0, rfl, Nat.le_refl _, Rd.nil _ _ _⟩
theorem rd_at (w : World) (cs : Array Value) (t : TypeId) (size n b : Nat) (hb : b = w.heap.size) (hl : cs.size = n * size) (hn : n ≤ 140737488355328) : Rd (w.alloc (.cells cs t)) size (some ⟨b, 0, none⟩) n cs.toList := by
  subst hb; exact rd_new w cs t size n hl hn
theorem evs_append (l r : List Ev) : evs l ++ evs r = evs (l ++ r) := by simp [evs]
theorem evs_one (l : List Ev) : ∀ u ∈ evs l, u.oneCell' = true := by
  intro u hu
  simp only [evs, List.mem_flatMap, Ev.cells, List.mem_cons, List.not_mem_nil, or_false] at hu
  obtain ⟨x, _, h⟩ := hu
  rcases h with rfl | rfl | rfl | rfl | rfl | rfl <;> rfl
def ints (k : IntKind) (l : List Int) : List Value := l.map (.int k)
theorem ints_len (k : IntKind) (l : List Int) : (ints k l).length = l.length := by simp [ints]
theorem ints_append (k : IntKind) (l r : List Int) : ints k l ++ ints k r = ints k (l ++ r) := by simp [ints]
theorem ints_one (k : IntKind) (l : List Int) : ∀ u ∈ ints k l, u.oneCell' = true := by
  intro u hu
  simp only [ints, List.mem_map] at hu
  obtain ⟨x, _, rfl⟩ := hu
  rfl

def Stop (p : Prop) : Prop := p
theorem stop_at {P : Program} {ops : Array Oper} {rest : List Oper} {o : Oper} {a : Act} {w : World} {Q : Exit → Act → World → Prop} (n : Nat) (h : o.dst = some n) (k : Stop (wpList P ops Q (o :: rest) a w)) : wpList P ops Q (o :: rest) a w := k

theorem Rd.u_len {w : World} {A : Option Addr} {n : Nat} {k : IntKind} {l : List Int} (h : Rd w 1 A n (ints k l)) : l.length = n := by have := h.len; rw [ints_len] at this; omega
theorem Rd.int {w : World} {A : Option Addr} {n : Nat} {kk : IntKind} {l : List Int} (h : Rd w 1 A n (ints kk l)) (k : Nat) (x : Int) (hx : l[k]? = some x) : ∃ b o, A = some ⟨b, o, none⟩ ∧ b < w.heap.size ∧ w.cell? ⟨b, o + k, none⟩ = some (.int kk x) := by
  have hk : k < n := by rw [← h.u_len]; exact (List.getElem?_eq_some_iff.1 hx).1
  obtain ⟨b, o, e, hb, hc⟩ := h.at_ (by omega)
  exact ⟨b, o, e, hb, hc k _ (by simp [ints, hx])⟩
section
variable {P : Program} (w : World)
theorem run_append_rd_nil (base : Nat) (t ty e : TypeId) (i : TypeInfo) (size : Nat) (ht : P.underlying t = some (.slice e)) (hi : P.info? e = some i)
    (v : Value) (n : Nat) (xs : List Value) (hown : w.ownsRow base e size v n xs) (c : Nat) : (Builtin.append_ #[t, t] ty #[v, .slice none 0 c]).run P w = .ok v w := by
  rcases hown.2 with ⟨rfl, rfl⟩ | ⟨g, cap, cur, rfl, _, _, hnc, _⟩
  · simp [Builtin.append_, run_underlying ht, sizeOf, typeInfo, hi, Builtin.lenOf, Builtin.firstCells]
  · simp [Builtin.append_, run_underlying ht, sizeOf, typeInfo, hi, Builtin.lenOf, Builtin.firstCells, hnc, storeCells]

theorem run_append_rd (base : Nat) (t ty e : TypeId) (z : Value) (size bytes : Nat) (ht : P.underlying t = some (.slice e)) (hinfo : (P.info? e).map (fun i => (i.zero, i.size, i.bytes)) = some (some z, size, bytes)) (hzs : z.cells.size = size) (hsz : 0 < size)
    (v : Value) (n : Nat) (xs : List Value) (hown : w.ownsRow base e size v n xs)
    (A : Option Addr) (m c : Nat) (news : List Value) (hr : Rd w size A m news) (h1 : ∀ u ∈ news, u.oneCell' = true)
    (hbytes : (n + m) * bytes ≤ 140737488355328) (hb0 : 0 < bytes) (hbase : base ≤ w.heap.size) :
    ∃ v' w', (Builtin.append_ #[t, t] ty #[v, .slice A m c]).run P w = .ok v' w' ∧ w'.ownsRow base e size v' (n + m) (xs ++ news) ∧ w.grownBy w' v.ownBlock ∧
      (v'.ownBlock = v.ownBlock ∨ v'.ownBlock = some w.heap.size) := by
  obtain ⟨i, hi, hzz⟩ := Option.map_eq_some_iff.1 hinfo
  simp only [Prod.mk.injEq] at hzz
  obtain ⟨hz, hsize, hby⟩ := hzz
  have h63 : n + m ≤ maxLen := by have : n + m ≤ (n + m) * bytes := Nat.le_mul_of_pos_right _ hb0; simp only [maxLen]; omega
  rcases Nat.eq_zero_or_pos m with h0 | h0
  · subst h0
    have hn : news = [] := List.eq_nil_of_length_eq_zero (by simpa using hr.len)
    subst hn
    rcases A with _ | ad
    · exact ⟨v, w, run_append_rd_nil w base t ty e i size ht hi v n xs hown c, by simpa using hown, World.grownBy.refl w _, .inl rfl⟩
    · obtain ⟨v', w', hrun, h2, h3, _, h5⟩ := run_append_own_at (P := P) w base t ty e i z size bytes ht hi hz hsize hby hzs hsz v n xs hown ad 0 c [] (by simp) (by simp) (by simp) h63 hbytes hbase
      exact ⟨v', w', hrun, h2, h3, h5⟩
  · obtain ⟨b, o, rfl, hlt, hc⟩ := hr.at_ h0
    have hcells : ∀ j u, news[j]? = some u → w.cell? ((⟨b, o, none⟩ : Addr).add j) = some u := by
      intro j u hu
      have ha : (⟨b, o, none⟩ : Addr).add j = ⟨b, o + j, none⟩ := by unfold Addr.add; split <;> simp_all
      rw [ha]; exact hc j u hu
    obtain ⟨v', w', hrun, h2, h3, _, h5⟩ := run_append_own_at (P := P) w base t ty e i z size bytes ht hi hz hsize hby hzs hsz v n xs hown ⟨b, o, none⟩ m c news hr.len hcells h1 h63 hbytes hbase
    exact ⟨v', w', hrun, h2, h3, h5⟩

theorem wp_append_rd {o : Oper} {a : Act} {K : Act → World → Prop} {Q : Exit → Act → World → Prop} (s x : Operand) (t : TypeId)
    (ho : o.op = .call { callee := .builtin .append, args := #[s, x], argTypes := #[t, t] })
    (base : Nat) (e : TypeId) (z : Value) (size bytes : Nat) (ht : P.underlying t = some (.slice e)) (hinfo : (P.info? e).map (fun i => (i.zero, i.size, i.bytes)) = some (some z, size, bytes)) (hzs : z.cells.size = size) (hsz : 0 < size)
    (v : Value) (n : Nat) (xs : List Value) (hs : a.eval s = v) (hown : w.ownsRow base e size v n xs)
    (A : Option Addr) (m c : Nat) (news : List Value) (hx : a.eval x = .slice A m c) (hr : Rd w size A m news) (h1 : ∀ u ∈ news, u.oneCell' = true)
    (hbytes : (n + m) * bytes ≤ 140737488355328) (hb0 : 0 < bytes) (hbase : base ≤ w.heap.size)
    (h : ∀ v' w', w'.ownsRow base e size v' (n + m) (xs ++ news) → w.grownBy w' v.ownBlock → (v'.ownBlock = v.ownBlock ∨ v'.ownBlock = some w.heap.size) → K (a.put o.dst v') w') : o.wp P a w K Q := by
  obtain ⟨v', w', hrun, h2, h3, h4⟩ := run_append_rd (P := P) w base t o.type e z size bytes ht hinfo hzs hsz v n xs hown A m c news hr h1 hbytes hb0 hbase
  unfold Oper.wp execOp
  simp only [ho, resolve, invoke, builtin, Sem.run_bind, Sem.run_pure, Result.andThen_ok, List.map_toArray, List.map_cons, List.map_nil, hs, hx, hrun]
  exact h v' w' h2 h3 h4

theorem wpList_append_rd {ops : Array Oper} {rest : List Oper} {o : Oper} {a : Act} {Q : Exit → Act → World → Prop} (hgd : o.guard = none) (s x : Operand) (t : TypeId)
    (ho : o.op = .call { callee := .builtin .append, args := #[s, x], argTypes := #[t, t] })
    (base : Nat) (e : TypeId) (z : Value) (size bytes : Nat) (ht : P.underlying t = some (.slice e)) (hinfo : (P.info? e).map (fun i => (i.zero, i.size, i.bytes)) = some (some z, size, bytes)) (hzs : z.cells.size = size) (hsz : 0 < size)
    (v : Value) (n : Nat) (xs : List Value) (hs : a.eval s = v) (hown : w.ownsRow base e size v n xs)
    (A : Option Addr) (m c : Nat) (news : List Value) (hx : a.eval x = .slice A m c) (hr : Rd w size A m news) (h1 : ∀ u ∈ news, u.oneCell' = true)
    (hbytes : (n + m) * bytes ≤ 140737488355328) (hb0 : 0 < bytes) (hbase : base ≤ w.heap.size)
    (h : ∀ v' w', w'.ownsRow base e size v' (n + m) (xs ++ news) → w.grownBy w' v.ownBlock → (v'.ownBlock = v.ownBlock ∨ v'.ownBlock = some w.heap.size) → wpList P ops Q rest (a.put o.dst v') w') : wpList P ops Q (o :: rest) a w :=
  wpList_plain hgd fun _ hK => wp_append_rd w s x t ho base e z size bytes ht hinfo hzs hsz v n xs hs hown A m c news hx hr h1 hbytes hb0 hbase fun v' w' h2 h3 h4 => hK _ _ (h v' w' h2 h3 h4)

end
end Go.Proofs.YtcilfgedcnehfaaGreatDoor
set_option linter.unusedVariables false
set_option linter.unusedSectionVars false
set_option linter.unusedSimpArgs false
namespace Go.Proofs.YtcilfgedcnehfaaGreatDoor
open Go.RowKit
open Go.ChangeMaps (setBlock)

section
variable {κ β : Type} [DecidableEq κ]
def fnd (k : κ) : List (κ × β) → Nat → Option (Nat × β)
  | [], _ => none
  | (k', v) :: es, i => if k = k' then some (i, v) else fnd k es (i + 1)
theorem fnd_some {k : κ} : ∀ {es : List (κ × β)} {i j : Nat} {v : β}, fnd k es i = some (j, v) → i ≤ j ∧ es[j - i]? = some (k, v)
  | [], _, _, _, h => by simp [fnd] at h
  | (k', v') :: es, i, j, v, h => by
    unfold fnd at h
    split at h
    · rename_i hk; subst hk; simp at h; obtain ⟨rfl, rfl⟩ := h; simp
    · obtain ⟨h1, h2⟩ := fnd_some h
      refine ⟨by omega, ?_⟩
      rw [show j - i = (j - (i + 1)) + 1 from by omega]; simpa using h2
theorem fnd_none {k : κ} : ∀ {es : List (κ × β)} {i : Nat}, fnd k es i = none → k ∉ es.map (·.1)
  | [], _, _ => by simp
  | (k', v') :: es, i, h => by
    unfold fnd at h
    split at h
    · cases h
    · rename_i hk
      simp only [List.map_cons, List.mem_cons, not_or]
      exact ⟨hk, fnd_none h⟩
theorem fnd_keys {γ : Type} {k : κ} : ∀ {es : List (κ × β)} {L : List (κ × γ)} {i : Nat}, es.map (·.1) = L.map (·.1) → (fnd k es i).map (·.1) = (fnd k L i).map (·.1)
  | [], [], _, _ => rfl
  | [], _ :: _, _, h => by simp at h
  | _ :: _, [], _, h => by simp at h
  | (k1, v1) :: es, (k2, v2) :: L, i, h => by
    simp only [List.map_cons, List.cons.injEq] at h
    obtain ⟨rfl, h⟩ := h
    unfold fnd
    split
    · rfl
    · exact fnd_keys h
def entOf (k : κ) (es : List (κ × β)) (z : β) : List (κ × β) × Nat × β := match fnd k es 0 with
  | some (i, v) => (es, i, v)
  | none => (es ++ [(k, z)], es.length, z)
theorem entOf_at (k : κ) (es : List (κ × β)) (z : β) : (entOf k es z).1[(entOf k es z).2.1]? = some (k, (entOf k es z).2.2) := by
  unfold entOf
  split
  · rename_i i v h
    simpa using (fnd_some h).2
  · simp
theorem entOf_keys {γ : Type} (k : κ) (es : List (κ × β)) (L : List (κ × γ)) (z : β) (y : γ) (h : es.map (·.1) = L.map (·.1)) : (entOf k es z).1.map (·.1) = (entOf k L y).1.map (·.1) ∧ (entOf k es z).2.1 = (entOf k L y).2.1 := by
  have hk := fnd_keys (k := k) (i := 0) h
  have hl : es.length = L.length := by simpa using congrArg List.length h
  unfold entOf
  cases h1 : fnd k es 0 <;> cases h2 : fnd k L 0 <;> simp [h1, h2] at hk ⊢
  · exact ⟨h, hl⟩
  · exact ⟨h, hk⟩
def gAdd {α : Type} (k : κ) (x : α) (L : List (κ × List α)) : List (κ × List α) := (entOf k L []).1.set (entOf k L []).2.1 (k, (entOf k L []).2.2 ++ [x])
end
section
variable {κ : Type} [DecidableEq κ] (enc : κ → Value)
def ents : List (κ × Value) → Nat → List MapEntry
  | [], _ => []
  | (k, v) :: es, i => { key := enc k, val := v, born := i } :: ents es (i + 1)
def IsMap (w : World) (b : Nat) (es : List (κ × Value)) : Prop := w.heap[b]? = some (.map (ents enc es 0).toArray es.length)

theorem ents_at : ∀ (es : List (κ × Value)) (i j : Nat) (k : κ) (v : Value), es[j]? = some (k, v) → (ents enc es i)[j]? = some { key := enc k, val := v, born := i + j }
  | [], _, j, _, _, h => by simp at h
  | (k', v') :: es, i, 0, k, v, h => by simp at h; simp [ents, h]
  | (k', v') :: es, i, j + 1, k, v, h => by
    simp only [ents, List.getElem?_cons_succ]
    rw [ents_at es (i + 1) j k v (by simpa using h)]
    simp; omega
theorem ents_snoc : ∀ (es : List (κ × Value)) (i : Nat) (k : κ) (v : Value), ents enc (es ++ [(k, v)]) i = ents enc es i ++ [{ key := enc k, val := v, born := i + es.length }]
  | [], i, k, v => by simp [ents]
  | (k', v') :: es, i, k, v => by simp only [List.cons_append, ents, ents_snoc es (i + 1), List.length_cons]; congr 4; omega
theorem ents_set : ∀ (es : List (κ × Value)) (i j : Nat) (k : κ) (v u : Value), es[j]? = some (k, v) → ents enc (es.set j (k, u)) i = (ents enc es i).modify j fun e => { e with val := u }
  | [], _, j, _, _, _, h => by simp at h
  | (k', v') :: es, i, 0, k, v, u, h => by simp at h; simp [ents, h]
  | (k', v') :: es, i, j + 1, k, v, u, h => by simp only [List.set_cons_succ, ents, ents_set es (i + 1) j k v u (by simpa using h), List.modify_succ_cons]
theorem ents_born : ∀ (es : List (κ × Value)) (n i : Nat), i < es.length → (ents enc es n).findIdx? (fun e => (e.born : Int) == ((n + i : Nat) : Int)) = some i
  | [], _, i, h => by simp at h
  | (k, v) :: es, n, 0, _ => by simp [ents, List.findIdx?_cons]
  | (k, v) :: es, n, i + 1, h => by
    have := ents_born es (n + 1) i (by simpa using h)
    rw [show n + 1 + i = n + (i + 1) from by omega] at this
    simp only [ents, List.findIdx?_cons, this]
    simp; omega

structure MapKey (P : Program) (kt : TypeId) : Prop where
  chk : ∀ (e : Bool) (k : κ) (w : World), (Instr.checkKey e 10000 kt (enc k)).run P w = .ok () w
  find : ∀ (es : List (κ × Value)) (k : κ) (w : World), (Instr.findKey kt (enc k) (ents enc es 0)).run P w = .ok (fnd k es 0) w
  same : ∀ k : κ, Instr.sameBits 10000 (enc k) (enc k) = true

theorem asking {P : Program} {kt : TypeId} (heq : ∀ (a b : κ) (w : World), (Op.equal kt (enc a) (enc b)).run P w = .ok (decide (a = b)) w) (k : κ) (w : World) :
    ∀ (es : List (κ × Value)) (i : Nat), (Instr.findAsking kt (enc k) (ents enc es i) i).run P w = .ok (fnd k es i) w
  | [], i => rfl
  | (k', v) :: es, i => by
    unfold ents fnd Instr.findAsking
    simp only [Sem.run_bind, heq, Result.andThen]
    by_cases h : k = k'
    · simp [h]
    · simp [h, asking heq k w es (i + 1)]
theorem MapKey.of_struct {P : Program} {kt : TypeId} {fs : Array Field} (hu : P.underlying kt = some (.struct fs)) (hc : ∀ (e : Bool) (k : κ) (w : World), (Instr.checkKey e 10000 kt (enc k)).run P w = .ok () w)
    (heq : ∀ (a b : κ) (w : World), (Op.equal kt (enc a) (enc b)).run P w = .ok (decide (a = b)) w) (hs : ∀ k : κ, Instr.sameBits 10000 (enc k) (enc k) = true) : MapKey enc P kt :=
  ⟨hc, fun es k w => by
    unfold Instr.findKey
    simp only [Sem.run_bind, run_underlying hu, Result.andThen]
    cases es with
    | nil => rfl
    | cons x es =>
      obtain ⟨k', v⟩ := x
      have : Instr.findNow (.struct fs) (enc k) (ents enc ((k', v) :: es) 0) 0 = none := by simp [ents, Instr.findNow, Instr.sameNow]
      rw [this]
      exact asking enc heq k w ((k', v) :: es) 0, hs⟩

variable {enc} {P : Program} {kt et mt : TypeId} {w : World} {b : Nat} {es : List (κ × Value)}
theorem IsMap.lt (h : IsMap enc w b es) : b < w.heap.size := (Array.getElem?_eq_some_iff.1 h).1
theorem IsMap.keep {w' : World} (h : IsMap enc w b es) (hb : w'.heap[b]? = w.heap[b]?) : IsMap enc w' b es := by unfold IsMap at *; rw [hb]; exact h
theorem IsMap.below {w' : World} (h : IsMap enc w b es) (hb : Below w.heap.size w w') : IsMap enc w' b es := h.keep (hb.block b h.lt)
theorem IsMap.grown {w' : World} {row : Option Nat} (h : IsMap enc w b es) (hb : w.grownBy w' row) (hr : row ≠ some b) : IsMap enc w' b es := h.keep (hb.block b h.lt (fun e => hr e.symm))
theorem IsMap.alloc (h : IsMap enc w b es) (o : Obj) : IsMap enc (w.alloc o) b es := h.below ((Below.refl _ _).alloc (Nat.le_refl _) _)
theorem IsMap.drew (h : IsMap enc w b es) : IsMap enc w.drew b es := h
theorem isMap_set {o : Obj} (h : w.heap[b]? = some o) (es : List (κ × Value)) : IsMap enc (setBlock w b (.map (ents enc es 0).toArray es.length)) b es := by
  have hlt := (Array.getElem?_eq_some_iff.1 h).1
  simp [IsMap, setBlock, hlt]
theorem setBlock_grown {o o' : Obj} (h : w.heap[b]? = some o) : w.grownBy (setBlock w b o') (some b) :=
  ⟨rfl, rfl, rfl, by simp [setBlock], fun i hi hne => by simp [setBlock]; rw [Array.getElem?_setIfInBounds_ne (by intro e; exact hne (by rw [e]))]⟩

theorem rget {es' : Array MapEntry} {c : Nat} (hb : w.heap[b]? = some (.map es' c)) : (getObj b).run P w = .ok (.map es' c) w := by simp [getObj, Sem.run, hb]
theorem rset_map {es' : Array MapEntry} {c : Nat} (o : Obj) (hb : w.heap[b]? = some (.map es' c)) : (setObj b o).run P w = .ok () (setBlock w b o) := by simp [setObj, Sem.run, hb, setBlock]
theorem run_mapEntry_new (K : MapKey enc P kt) (hm : P.underlying mt = some (.map kt et)) {z : Value} (hz : (zeroValue et).run P w = .ok z w) (h : IsMap enc w b es) (k : κ) (hf : fnd k es 0 = none) :
    (Instr.mapEntry mt (.map (some b)) (enc k)).run P w = .ok (.tuple #[z, .int .i64 es.length]) (setBlock w b (.map (ents enc (es ++ [(k, z)]) 0).toArray (es ++ [(k, z)]).length)) := by
  have hb : w.heap[b]? = some (.map (ents enc es 0).toArray es.length) := h
  have hfind := K.find es k w
  simp only [Instr.mapEntry, Sem.run_bind, run_underlying hm, rget hb, K.chk, hfind, hf, hz, rset_map _ hb, Result.andThen]
  simp [ents_snoc, goInt]
theorem run_mapEntry_old (K : MapKey enc P kt) (hm : P.underlying mt = some (.map kt et)) (h : IsMap enc w b es) (k : κ) {i : Nat} {v : Value} (hf : fnd k es 0 = some (i, v)) :
    (Instr.mapEntry mt (.map (some b)) (enc k)).run P w = .ok (.tuple #[v, .int .i64 i]) (setBlock w b (.map (ents enc es 0).toArray es.length)) := by
  have hb : w.heap[b]? = some (.map (ents enc es 0).toArray es.length) := h
  have hfind := K.find es k w
  obtain ⟨_, he⟩ := fnd_some hf
  have ha := ents_at enc es 0 i k v (by simpa using he)
  have hkey : (Instr.keyThatStays (enc k) (enc k)).run P w = .ok (enc k) w := by simp [Instr.keyThatStays, K.same]
  have hmod : (ents enc es 0).modify i (fun e => { e with key := enc k }) = ents enc es 0 := by
    apply List.ext_getElem?
    intro j
    rw [List.getElem?_modify]
    by_cases hj : i = j
    · subst hj; rw [ha]; simp
    · simp [hj]
  simp only [Instr.mapEntry, Sem.run_bind, run_underlying hm, rget hb, K.chk, hfind, hf, Result.andThen, List.getElem?_toArray, ha, Option.map_some, Option.getD_some, hkey, rset_map _ hb]
  simp [goInt, hmod]
theorem run_entryStore (h : IsMap enc w b es) {i : Nat} {k : κ} {v u : Value} (hi : es[i]? = some (k, v)) :
    (Instr.entryStore mt (.map (some b)) (.int .i64 i) u).run P w = .ok () (setBlock w b (.map (ents enc (es.set i (k, u)) 0).toArray (es.set i (k, u)).length)) := by
  have hb : w.heap[b]? = some (.map (ents enc es 0).toArray es.length) := h
  have hidx : (ents enc es 0).toArray.findIdx? (fun e => (e.born : Int) == (i : Int)) = some i := by
    rw [List.findIdx?_toArray]
    have := ents_born enc es 0 i (List.getElem?_eq_some_iff.1 hi).1; simpa using this
  simp only [Instr.entryStore, Sem.run_bind, rget hb, Result.andThen, asInt, asIntOf, Sem.run_pure, hidx, rset_map _ hb]
  simp [ents_set enc es 0 i k v u hi]

variable {ops : Array Oper} {rest : List Oper} {o : Oper} {a : Act} {Q : Exit → Act → World → Prop}
theorem wpList_mapEntry (hgd : o.guard = none) (m x : Operand) (t : TypeId) (ho : o.op = .mapEntry t m x) (K : MapKey enc P kt) (ht : P.underlying t = some (.map kt et)) {z : Value} (hz : (zeroValue et).run P w = .ok z w)
    (h : IsMap enc w b es) (hm : a.eval m = .map (some b)) (k : κ) (hk : a.eval x = enc k)
    (hc : ∀ w', IsMap enc w' b (entOf k es z).1 → w.grownBy w' (some b) → wpList P ops Q rest (a.put o.dst (.tuple #[(entOf k es z).2.2, .int .i64 (entOf k es z).2.1])) w') : wpList P ops Q (o :: rest) a w := by
  refine wpList_plain hgd fun K' hK' => ?_
  have hb : w.heap[b]? = some (.map (ents enc es 0).toArray es.length) := h
  unfold Oper.wp execOp
  simp only [ho, hm, hk]
  unfold entOf at hc
  cases hf : fnd k es 0 with
  | none =>
    simp only [hf] at hc
    simp only [Sem.run_bind, run_mapEntry_new K ht hz h k hf, Result.andThen, Sem.run_pure, Functor.map, Sem.run_map]
    exact hK' _ _ (hc _ (isMap_set hb _) (setBlock_grown hb))
  | some p =>
    obtain ⟨i, v⟩ := p
    simp only [hf] at hc
    simp only [Sem.run_bind, run_mapEntry_old K ht h k hf, Result.andThen, Sem.run_pure]
    exact hK' _ _ (hc _ (isMap_set hb _) (setBlock_grown hb))
theorem wpList_entryStore (hgd : o.guard = none) (m x u : Operand) (t : TypeId) (ho : o.op = .entryStore t m x u) (h : IsMap enc w b es) (hm : a.eval m = .map (some b)) (i : Nat) (hx : a.eval x = .int .i64 i) (k : κ) (v v' : Value) (hi : es[i]? = some (k, v)) (hu : a.eval u = v')
    (hc : ∀ w', IsMap enc w' b (es.set i (k, v')) → w.grownBy w' (some b) → wpList P ops Q rest (a.put o.dst undef) w') : wpList P ops Q (o :: rest) a w := by
  refine wpList_plain hgd fun K' hK' => ?_
  have hb : w.heap[b]? = some (.map (ents enc es 0).toArray es.length) := h
  unfold Oper.wp execOp
  simp only [ho, hm, hx, hu]
  simp only [Sem.run_bind, run_entryStore h hi, Result.andThen, Sem.run_pure]
  exact hK' _ _ (hc _ (isMap_set hb _) (setBlock_grown hb))

theorem run_lookupE (K : MapKey enc P kt) (hm : P.underlying mt = some (.map kt et)) {z : Value} (hz : (zeroValue et).run P w = .ok z w) (h : IsMap enc w b es) (k : κ) :
    (Instr.lookup mt (.map (some b)) (enc k) false).run P w = .ok (((fnd k es 0).map (·.2)).getD z) w := by
  have hb : w.heap[b]? = some (.map (ents enc es 0).toArray es.length) := h
  have hfind := K.find es k w
  cases hf : fnd k es 0 with
  | none => simp [Instr.lookup, run_underlying hm, rget hb, K.chk, hfind, hf, hz, Result.andThen]
  | some p => simp [Instr.lookup, run_underlying hm, rget hb, K.chk, hfind, hf, Result.andThen]
theorem wpList_lookupE (hgd : o.guard = none) (m x : Operand) (t : TypeId) (ho : o.op = .lookup t m x false) (K : MapKey enc P kt) (ht : P.underlying t = some (.map kt et)) {z : Value} (hz : (zeroValue et).run P w = .ok z w)
    (h : IsMap enc w b es) (hm : a.eval m = .map (some b)) (k : κ) (hk : a.eval x = enc k) (hc : wpList P ops Q rest (a.put o.dst (((fnd k es 0).map (·.2)).getD z)) w) : wpList P ops Q (o :: rest) a w := by
  refine wpList_plain hgd fun K' hK' => ?_
  unfold Oper.wp execOp
  simp only [ho, hm, hk]
  simp only [Sem.run_bind, run_lookupE K ht hz h k, Result.andThen, Sem.run_pure]
  exact hK' _ _ hc

def IsIter (w : World) (r b n : Nat) (seen : List Nat) : Prop := w.heap[r]? = some (.mapIter (some b) n seen.toArray n)
theorem IsIter.keep {w' : World} {r n : Nat} {seen : List Nat} (h : IsIter w r b n seen) (hb : w'.heap[r]? = w.heap[r]?) : IsIter w' r b n seen := by unfold IsIter at *; rw [hb]; exact h
theorem IsIter.lt {r n : Nat} {seen : List Nat} (h : IsIter w r b n seen) : r < w.heap.size := (Array.getElem?_eq_some_iff.1 h).1
theorem ents_mem {e : MapEntry} : ∀ {es : List (κ × Value)} {n : Nat}, e ∈ ents enc es n → ∃ i k v, es[i]? = some (k, v) ∧ e = { key := enc k, val := v, born := n + i }
  | [], _, h => by simp [ents] at h
  | (k, v) :: es, n, h => by
    simp only [ents, List.mem_cons] at h
    rcases h with rfl | h
    · exact ⟨0, k, v, rfl, rfl⟩
    · obtain ⟨i, k', v', h1, rfl⟩ := ents_mem h
      exact ⟨i + 1, k', v', by simpa using h1, by congr 1; omega⟩
theorem ents_borns : ∀ (es : List (κ × Value)) (n : Nat), (ents enc es n).map (·.born) = List.range' n es.length
  | [], n => rfl
  | (k, v) :: es, n => by simp [ents, ents_borns es, List.range'_succ]

theorem wpList_next {r : Nat} {seen : List Nat} (hgd : o.guard = none) (x : Operand) (ho : o.op = .next x false) (h : IsMap enc w b es) (hi : IsIter w r b es.length seen) (hx : a.eval x = .pointer (some ⟨r, 0, none⟩))
    (hdone : (∀ i, i < es.length → i ∈ seen) → wpList P ops Q rest (a.put o.dst (.tuple #[.bool false])) w)
    (hmore : ∀ i k v w', es[i]? = some (k, v) → i ∉ seen → IsIter w' r b es.length (seen ++ [i]) → w.grownBy w' (some r) → wpList P ops Q rest (a.put o.dst (.tuple #[.bool true, enc k, v])) w') : wpList P ops Q (o :: rest) a w := by
  refine wpList_plain hgd fun K' hK' => ?_
  have hb : w.heap[b]? = some (.map (ents enc es 0).toArray es.length) := h
  unfold Oper.wp execOp
  simp only [ho, hx]
  have hmem : ∀ x ∈ (ents enc es 0).toArray.toList, x.born < es.length := by
    intro x hx
    obtain ⟨i, k, v, h1, rfl⟩ := ents_mem hx
    have := (List.getElem?_eq_some_iff.1 h1).1
    simp; omega
  rcases run_next_at (P := P) w o.type r b es.length es.length seen.toArray (ents enc es 0).toArray es.length hi hb hmem (Nat.le_refl _) with ⟨h0, hrun⟩ | ⟨e, he, w1, hw1, hrun⟩
  · simp only [Sem.run_bind, hrun, Result.andThen, Sem.run_pure]
    refine hK' _ _ (hdone fun i hlt => ?_)
    obtain ⟨p, hp⟩ : ∃ p, es[i]? = some p := ⟨_, List.getElem?_eq_getElem hlt⟩
    have hat := ents_at enc es 0 i p.1 p.2 hp
    rcases Classical.em (i ∈ seen) with hs | hs
    · exact hs
    · exfalso
      have hm : ({ key := enc p.1, val := p.2, born := 0 + i } : MapEntry) ∈ (leftOf (ents enc es 0).toArray seen.toArray).toList := by
        simp [leftOf, hs]; exact List.mem_of_getElem? (by simpa using hat)
      rw [Array.eq_empty_of_size_eq_zero h0] at hm
      simp at hm
  · have hl : e ∈ ents enc es 0 ∧ e.born ∉ seen := by simpa [leftOf] using he
    obtain ⟨i, k, v, h1, rfl⟩ := ents_mem hl.1
    simp only [Sem.run_bind, hrun, Result.andThen, Sem.run_pure]
    have hr1 : w1.heap[r]? = some (.mapIter (some b) es.length seen.toArray es.length) := by rcases hw1 with rfl | rfl <;> exact hi
    have hlt := (Array.getElem?_eq_some_iff.1 hr1).1
    refine hK' _ _ (hmore i k v _ h1 (by simpa using hl.2) (by simp [IsIter, setBlock, hlt]) ?_)
    have hg : w.grownBy w1 (some r) := by
      rcases hw1 with rfl | rfl
      · exact World.grownBy.refl _ _
      · exact ⟨rfl, rfl, rfl, Nat.le_refl _, fun _ _ _ => rfl⟩
    exact World.grownBy.trans hg (setBlock_grown hr1)
theorem wpList_entryE {r : Nat} {seen : List Nat} (hgd : o.guard = none) (x : Operand) (ho : o.op = .entry x) (h : IsMap enc w b es) (i : Nat) (k : κ) (v : Value) (hi : IsIter w r b es.length (seen ++ [i])) (hx : a.eval x = .pointer (some ⟨r, 0, none⟩)) (he : es[i]? = some (k, v))
    (hc : wpList P ops Q rest (a.put o.dst (.tuple #[enc k, v])) w) : wpList P ops Q (o :: rest) a w := by
  refine wpList_plain hgd fun K' hK' => ?_
  have hb : w.heap[b]? = some (.map (ents enc es 0).toArray es.length) := h
  have hat := ents_at enc es 0 i k v he
  have hrun := run_entry_at (P := P) w r b es.length seen.toArray (ents enc es 0).toArray es.length { key := enc k, val := v, born := 0 + i } (by have := hi; unfold IsIter at this; simpa using this) hb (List.mem_of_getElem? hat) (by rw [ents_borns]; exact List.nodup_range')
  unfold Oper.wp execOp
  simp only [ho, hx]
  simp only [Sem.run_bind, hrun, Result.andThen, Sem.run_pure]
  exact hK' _ _ hc
theorem wpList_rangeE (hgd : o.guard = none) (x : Operand) (t : TypeId) (ho : o.op = .range t x) (ht : P.underlying t = some (.map kt et)) (h : IsMap enc w b es) (hx : a.eval x = .map (some b))
    (hc : IsIter (w.alloc (.mapIter (some b) es.length #[] es.length)) w.heap.size b es.length [] → wpList P ops Q rest (a.put o.dst (.pointer (some ⟨w.heap.size, 0, none⟩))) (w.alloc (.mapIter (some b) es.length #[] es.length))) : wpList P ops Q (o :: rest) a w := by
  refine wpList_plain hgd fun K' hK' => ?_
  have hb : w.heap[b]? = some (.map (ents enc es 0).toArray es.length) := h
  unfold Oper.wp execOp
  simp only [ho, hx]
  have hrun : (Instr.range t (.map (some b))).run P w = .ok (.pointer (some ⟨w.heap.size, 0, none⟩)) (w.alloc (.mapIter (some b) es.length #[] es.length)) := by
    simp [Instr.range, run_underlying ht, rget hb, Result.andThen, newObj, Sem.run]
  simp only [Sem.run_bind, hrun, Result.andThen, Sem.run_pure]
  exact hK' _ _ (hc (heap_alloc_new w _))
end
end Go.Proofs.YtcilfgedcnehfaaGreatDoor
set_option linter.unusedVariables false
set_option linter.unusedSectionVars false
set_option linter.unusedSimpArgs false
namespace Go.Proofs.YtcilfgedcnehfaaGreatDoor
open Go.RowKit

section
variable {κ : Type} [DecidableEq κ] {enc : κ → Value}
structure Groups (w : World) (B : Nat) (e : TypeId) (es : List (κ × Value)) (L : List (κ × List Int)) : Prop where
  keys : es.map (·.1) = L.map (·.1)
  own : ∀ (i : Nat) k v k' l, es[i]? = some (k, v) → L[i]? = some (k', l) → w.ownsRow B e 1 v l.length (ints .i64 l)
  apart : ∀ (i j : Nat) p q, i ≠ j → es[i]? = some p → es[j]? = some q → p.2.ownBlock = none ∨ p.2.ownBlock ≠ q.2.ownBlock

theorem Groups.nil (w : World) (B : Nat) (e : TypeId) : Groups w B e ([] : List (κ × Value)) [] := ⟨rfl, by simp, by simp⟩
theorem Groups.len {w : World} {B : Nat} {e : TypeId} {es : List (κ × Value)} {L : List (κ × List Int)} (h : Groups w B e es L) : es.length = L.length := by simpa using congrArg List.length h.keys
theorem Groups.at_ {w : World} {B : Nat} {e : TypeId} {es : List (κ × Value)} {L : List (κ × List Int)} (h : Groups w B e es L) {i : Nat} {k : κ} {v : Value} (hi : es[i]? = some (k, v)) : ∃ l, L[i]? = some (k, l) := by
  have hlt : i < L.length := by rw [← h.len]; exact (List.getElem?_eq_some_iff.1 hi).1
  refine ⟨(L[i]).2, ?_⟩
  have hk : (es.map (·.1))[i]? = (L.map (·.1))[i]? := by rw [h.keys]
  simp only [List.getElem?_map, hi, List.getElem?_eq_getElem hlt, Option.map_some, Option.some.injEq] at hk
  rw [List.getElem?_eq_getElem hlt, hk]
theorem Groups.kept {w w' : World} {B : Nat} {e : TypeId} {es : List (κ × Value)} {L : List (κ × List Int)} (h : Groups w B e es L) {row : Option Nat} (hg : w.grownBy w' row) (hr : ∀ g, row = some g → g < B) : Groups w' B e es L :=
  ⟨h.keys, fun i k v k' l h1 h2 => (h.own i k v k' l h1 h2).kept hg (by
    cases hv : v.ownBlock with
    | none => exact .inl rfl
    | some g => exact .inr (fun e => by have := (h.own i k v k' l h1 h2).lt g hv; have := hr g e.symm; omega)), h.apart⟩
theorem Groups.below {w w' : World} {B : Nat} {e : TypeId} {es : List (κ × Value)} {L : List (κ × List Int)} (h : Groups w B e es L) (hb : Below w.heap.size w w') : Groups w' B e es L :=
  ⟨h.keys, fun i k v k' l h1 h2 => obelow (h.own i k v k' l h1 h2) hb, h.apart⟩
theorem Groups.entOf {w : World} {B : Nat} {e : TypeId} {es : List (κ × Value)} {L : List (κ × List Int)} (h : Groups w B e es L) (k : κ) : Groups w B e (entOf k es (.slice none 0 0)).1 (entOf k L []).1 := by
  have hk := fnd_keys (k := k) (i := 0) h.keys
  obtain ⟨hkk, _⟩ := entOf_keys k es L (.slice none 0 0) ([] : List Int) h.keys
  refine ⟨hkk, ?_, ?_⟩
  · unfold YtcilfgedcnehfaaGreatDoor.entOf
    cases h1 : fnd k es 0 <;> cases h2 : fnd k L 0 <;> simp [h1, h2] at hk ⊢
    · intro i k1 v k2 l e1 e2
      rcases Nat.lt_or_ge i es.length with hlt | hge
      · rw [List.getElem?_append_left hlt] at e1
        rw [List.getElem?_append_left (by rw [← h.len]; exact hlt)] at e2
        exact h.own i k1 v k2 l e1 e2
      · have hi : i = es.length := by
          have := (List.getElem?_eq_some_iff.1 e1).1
          simp at this; omega
        subst hi
        simp at e1
        rw [h.len] at e2
        simp at e2
        obtain ⟨_, rfl⟩ := e1
        obtain ⟨_, rfl⟩ := e2
        exact World.ownsRow_nil _ _ _ _
    · exact h.own
  · unfold YtcilfgedcnehfaaGreatDoor.entOf
    cases h1 : fnd k es 0 <;> simp only
    · intro i j p q hne e1 e2
      rcases Nat.lt_or_ge i es.length with hi | hi
      · rcases Nat.lt_or_ge j es.length with hj | hj
        · rw [List.getElem?_append_left hi] at e1
          rw [List.getElem?_append_left hj] at e2
          exact h.apart i j p q hne e1 e2
        · have hj' : j = es.length := by
            have := (List.getElem?_eq_some_iff.1 e2).1
            simp at this; omega
          subst hj'
          simp at e2
          subst e2
          cases hp : p.2.ownBlock <;> simp [Value.ownBlock]
      · have hi' : i = es.length := by
          have := (List.getElem?_eq_some_iff.1 e1).1
          simp at this; omega
        subst hi'
        simp at e1
        subst e1
        exact .inl rfl
    · exact h.apart
theorem Groups.set_ {w w' : World} {B : Nat} {e : TypeId} {es : List (κ × Value)} {L : List (κ × List Int)} (h : Groups w B e es L) (hB : B ≤ w.heap.size) {i : Nat} {k : κ} {v v' : Value} {l l' : List Int} (hi : es[i]? = some (k, v)) (hL : L[i]? = some (k, l))
    (hg : w.grownBy w' v.ownBlock) (hown : w'.ownsRow B e 1 v' l'.length (ints .i64 l')) (hat : v'.ownBlock = v.ownBlock ∨ ∀ g, v'.ownBlock = some g → w.heap.size ≤ g) : Groups w' B e (es.set i (k, v')) (L.set i (k, l')) := by
  have hlt : i < es.length := (List.getElem?_eq_some_iff.1 hi).1
  have hltL : i < L.length := (List.getElem?_eq_some_iff.1 hL).1
  have hold : ∀ (j : Nat) p, es[j]? = some p → ∀ g, p.2.ownBlock = some g → g < w.heap.size := fun j p hp g hgb => by
    obtain ⟨l0, hl0⟩ := h.at_ (i := j) (k := p.1) (v := p.2) hp
    exact ((h.own j p.1 p.2 p.1 l0 hp hl0).lt g hgb).2
  refine ⟨by rw [List.map_set, List.map_set, h.keys], ?_, ?_⟩
  · intro j k1 v1 k2 l1 e1 e2
    by_cases hj : j = i
    · subst hj
      rw [List.getElem?_set_self hlt] at e1
      rw [List.getElem?_set_self hltL] at e2
      simp at e1 e2
      obtain ⟨_, rfl⟩ := e1
      obtain ⟨_, rfl⟩ := e2
      exact hown
    · rw [List.getElem?_set_ne (Ne.symm hj)] at e1 e2
      refine (h.own j k1 v1 k2 l1 e1 e2).kept hg ?_
      exact h.apart j i _ _ hj e1 hi
  · intro j1 j2 p q hne e1 e2
    by_cases h1 : j1 = i
    · subst h1
      rw [List.getElem?_set_self hlt] at e1
      rw [List.getElem?_set_ne hne] at e2
      simp at e1
      subst e1
      rcases hat with hat | hat
      · rw [hat]; exact h.apart j1 j2 _ _ hne hi e2
      · cases hv : v'.ownBlock with
        | none => exact .inl rfl
        | some g =>
          refine .inr (fun e => ?_)
          have := hat g hv
          have := hold j2 q e2 g e.symm
          omega
    · rw [List.getElem?_set_ne (Ne.symm h1)] at e1
      by_cases h2 : j2 = i
      · subst h2
        rw [List.getElem?_set_self hlt] at e2
        simp at e2
        subst e2
        rcases hat with hat | hat
        · rw [hat]; exact h.apart j1 j2 _ _ hne e1 hi
        · cases hv : p.2.ownBlock with
          | none => exact .inl rfl
          | some g =>
            refine .inr (fun e => ?_)
            have := hat g e.symm
            have := hold j1 p e1 g hv
            omega
      · rw [List.getElem?_set_ne (Ne.symm h2)] at e2
        exact h.apart j1 j2 p q hne e1 e2

theorem own_ne {w : World} {b b' : Nat} {e e' : TypeId} {s s' n n' : Nat} {v v' : Value} {xs xs' : List Value} (h : w.ownsRow b e s v n xs) (h' : w.ownsRow b' e' s' v' n' xs') (hne : e ≠ e') : v.ownBlock = none ∨ v.ownBlock ≠ v'.ownBlock := by
  rcases h.2 with ⟨rfl, _⟩ | ⟨g, cap, cur, rfl, _, hh, _⟩
  · exact .inl rfl
  · refine .inr fun hk => ?_
    rcases h'.2 with ⟨rfl, _⟩ | ⟨g', cap', cur', rfl, _, hh', _⟩
    · simp [Value.ownBlock] at hk
    · have : g = g' := by simpa [Value.ownBlock] using hk
      subst this
      rw [hh] at hh'
      injection hh' with hh'
      injection hh' with _ ht
      exact hne ht
theorem own_ne_map {w : World} {b : Nat} {base : Nat} {e : TypeId} {s n : Nat} {v : Value} {xs : List Value} {es : List (κ × Value)} (h : w.ownsRow base e s v n xs) (hm : IsMap enc w b es) : v.ownBlock ≠ some b := by
  rcases h.2 with ⟨rfl, _⟩ | ⟨g, cap, cur, rfl, _, hh, _⟩
  · simp [Value.ownBlock]
  · intro hk
    have : g = b := by simpa [Value.ownBlock] using hk
    subst this
    unfold IsMap at hm
    rw [hh] at hm
    injection hm with hm
    cases hm
theorem Groups.kept_own {w w' : World} {B : Nat} {e : TypeId} {es : List (κ × Value)} {L : List (κ × List Int)} (h : Groups w B e es L) {b' : Nat} {e' : TypeId} {s n : Nat} {u : Value} {xs : List Value} (hu : w.ownsRow b' e' s u n xs) (hne : e ≠ e') (hg : w.grownBy w' u.ownBlock) : Groups w' B e es L :=
  ⟨h.keys, fun i k v k' l h1 h2 => (h.own i k v k' l h1 h2).kept hg (own_ne (h.own i k v k' l h1 h2) hu hne), h.apart⟩

def groups {α : Type} (key : α → κ) (val : α → Int) (l : List α) : List (κ × List Int) := l.foldl (fun L x => gAdd (key x) (val x) L) []
def sel {α : Type} (key : α → κ) (val : α → Int) (k : κ) (l : List α) : List Int := (l.filter (fun x => decide (key x = k))).map val
structure GInv {α : Type} (key : α → κ) (val : α → Int) (l : List α) (L : List (κ × List Int)) : Prop where
  nodup : (L.map (·.1)).Nodup
  is : ∀ k m, (k, m) ∈ L → m = sel key val k l
  all : ∀ x ∈ l, key x ∈ L.map (·.1)
theorem sel_snoc {α : Type} (key : α → κ) (val : α → Int) (k : κ) (l : List α) (x : α) : sel key val k (l ++ [x]) = sel key val k l ++ if key x = k then [val x] else [] := by
  unfold sel; rw [List.filter_append, List.map_append]; by_cases h : key x = k <;> simp [h]
theorem gAdd_inv {α : Type} (key : α → κ) (val : α → Int) (l : List α) (L : List (κ × List Int)) (x : α) (h : GInv key val l L) : GInv key val (l ++ [x]) (gAdd (key x) (val x) L) := by
  have hsel : key x ∉ L.map (·.1) → sel key val (key x) l = [] := by
    intro hn
    unfold sel
    rw [List.map_eq_nil_iff, List.filter_eq_nil_iff]
    intro y hy he
    exact hn (by have := h.all y hy; rw [of_decide_eq_true he] at this; exact this)
  unfold gAdd entOf
  cases hf : fnd (key x) L 0 with
  | none =>
    have hn := fnd_none hf
    simp only [List.set_append_right _ _ (Nat.le_refl _), Nat.sub_self, List.set_cons_zero, List.nil_append]
    refine ⟨?_, ?_, ?_⟩
    · rw [List.map_append, List.nodup_append]
      refine ⟨h.nodup, by simp, ?_⟩
      intro a ha b hb
      simp at hb
      rintro rfl
      exact hn (by rw [hb] at ha; exact ha)
    · intro k m hm
      rw [sel_snoc]
      rcases List.mem_append.1 hm with hm | hm
      · have hk : key x ≠ k := by
          rintro rfl
          exact hn (List.mem_map.2 ⟨_, hm, rfl⟩)
        rw [if_neg hk, List.append_nil]
        exact h.is k m hm
      · simp at hm
        obtain ⟨rfl, rfl⟩ := hm
        rw [if_pos rfl, hsel hn]; rfl
    · intro y hy
      rw [List.map_append, List.mem_append]
      rcases List.mem_append.1 hy with hy | hy
      · exact .inl (h.all y hy)
      · simp at hy; subst hy; exact .inr (by simp)
  | some p =>
    obtain ⟨i, m0⟩ := p
    have hi := (fnd_some hf).2
    simp only [Nat.sub_zero] at hi
    have hlt := (List.getElem?_eq_some_iff.1 hi).1
    simp only
    have hkeys : (L.set i (key x, m0 ++ [val x])).map (·.1) = L.map (·.1) := by
      rw [List.map_set]
      have h1 : (L.map (·.1))[i]? = some (key x) := by simp [hi]
      obtain ⟨h2, h3⟩ := List.getElem?_eq_some_iff.1 h1
      conv => rhs; rw [← List.set_getElem_self h2]
      rw [h3]
    refine ⟨by rw [hkeys]; exact h.nodup, ?_, ?_⟩
    · intro k m hm
      obtain ⟨j, hj⟩ := List.mem_iff_getElem?.1 hm
      rw [sel_snoc]
      by_cases hji : j = i
      · subst hji
        rw [List.getElem?_set_self hlt] at hj
        simp at hj
        obtain ⟨rfl, rfl⟩ := hj
        rw [if_pos rfl, ← h.is _ _ (List.mem_of_getElem? hi)]
      · rw [List.getElem?_set_ne (Ne.symm hji)] at hj
        have hk : key x ≠ k := by
          rintro rfl
          have h1 : (L.map (·.1))[j]? = some (key x) := by simp [hj]
          have h2 : (L.map (·.1))[i]? = some (key x) := by simp [hi]
          have hjl := (List.getElem?_eq_some_iff.1 h1).1
          have := (List.getElem?_inj hjl h.nodup).1 (h1.trans h2.symm)
          exact hji this
        rw [if_neg hk, List.append_nil]
        exact h.is k m (List.mem_of_getElem? hj)
    · intro y hy
      rw [hkeys]
      rcases List.mem_append.1 hy with hy | hy
      · exact h.all y hy
      · simp at hy; subst hy
        exact List.mem_map.2 ⟨_, List.mem_of_getElem? hi, rfl⟩
theorem groups_inv {α : Type} (key : α → κ) (val : α → Int) (l : List α) : GInv key val l (groups key val l) := by
  have : ∀ (r l : List α) (L : List (κ × List Int)), GInv key val l L → GInv key val (l ++ r) (r.foldl (fun L x => gAdd (key x) (val x) L) L) := by
    intro r
    induction r with
    | nil => intro l L h; simpa using h
    | cons x r ih => intro l L h; rw [List.foldl_cons, show l ++ x :: r = (l ++ [x]) ++ r by simp]; exact ih _ _ (gAdd_inv key val l L x h)
  exact this l [] [] ⟨by simp, by simp, by simp⟩
theorem look_eq {β : Type} (k : κ) (es : List (κ × β)) (z : β) : ((fnd k es 0).map (·.2)).getD z = (entOf k es z).2.2 := by
  unfold entOf
  cases fnd k es 0 <;> rfl
theorem ent_sel {α : Type} {key : α → κ} {val : α → Int} {l : List α} {L : List (κ × List Int)} (h : GInv key val l L) (k : κ) : (entOf k L []).2.2 = sel key val k l := by
  unfold entOf
  cases hf : fnd k L 0 with
  | none =>
    have hn := fnd_none hf
    simp only
    symm
    unfold sel
    rw [List.map_eq_nil_iff, List.filter_eq_nil_iff]
    intro y hy he
    exact hn (by have := h.all y hy; rw [of_decide_eq_true he] at this; exact this)
  | some p =>
    obtain ⟨i, m⟩ := p
    have hi := (fnd_some hf).2
    exact h.is _ _ (List.mem_of_getElem? hi)
theorem Groups.look {α : Type} {key : α → κ} {val : α → Int} {l : List α} {w : World} {B : Nat} {e : TypeId} {es : List (κ × Value)} (h : Groups w B e es (groups key val l)) (k : κ) :
    w.ownsRow B e 1 (((fnd k es 0).map (·.2)).getD (.slice none 0 0)) (sel key val k l).length (ints .i64 (sel key val k l)) := by
  have h1 := h.entOf k
  have h2 := h1.own _ _ _ _ _ (entOf_at k es (Value.slice none 0 0)) (by rw [(entOf_keys k es (groups key val l) (Value.slice none 0 0) ([] : List Int) h.keys).2]; exact entOf_at k (groups key val l) ([] : List Int))
  rw [ent_sel (groups_inv key val l) k] at h2
  rw [look_eq]; exact h2
theorem groups_snoc {α : Type} (key : α → κ) (val : α → Int) (l : List α) (x : α) : groups key val (l ++ [x]) = gAdd (key x) (val x) (groups key val l) := by unfold groups; rw [List.foldl_append]; rfl
end
end Go.Proofs.YtcilfgedcnehfaaGreatDoor
set_option linter.unusedVariables false
set_option linter.unusedSectionVars false
set_option linter.unusedSimpArgs false
namespace Go.Proofs.YtcilfgedcnehfaaGreatDoor
open Go.RowKit

def evKey (x : Ev) : Int × Int := (x.it, x.tr)
def evGroups (l : List Ev) : List ((Int × Int) × List Int) := groups evKey Ev.wi l
def above (a b : Int) : Bool := decide (1 < IntKind.u64.wrap (IntKind.u64.wrap b - IntKind.u64.wrap a))
def apartTo (l : List Int) (j : Nat) : Bool := (List.range j).all fun t => above (l.getD t 0) (l.getD (t + 1) 0)
theorem apartTo_succ (l : List Int) (j : Nat) : apartTo l (j + 1) = (apartTo l j && above (l.getD j 0) (l.getD (j + 1) 0)) := by simp [apartTo, List.range_succ]
def sorted (l : List Int) : List Int := l.mergeSort fun x y => decide (x ≤ y)
def apartB (l : List Int) : Bool := apartTo (sorted l) (l.length - 1)
def sparseB (l : List Ev) : Bool := (evGroups l).all fun g => apartB g.2


def i64r (x : Int) : Prop := -9223372036854775808 ≤ x ∧ x ≤ 9223372036854775807
def far (a b : Int) : Prop := a + 2 ≤ b ∨ b + 2 ≤ a
theorem far_symm {a b : Int} (h : far a b) : far b a := h.symm
theorem u64_wrap (x : Int) : IntKind.u64.wrap x = x % 18446744073709551616 := by simp [IntKind.wrap, IntKind.signed, IntKind.bits]
theorem above_iff {a b : Int} (ha : i64r a) (hb : i64r b) (h : a ≤ b) : above a b = true ↔ a + 2 ≤ b := by
  unfold above
  rw [decide_eq_true_eq, u64_wrap, u64_wrap, u64_wrap]
  unfold i64r at *
  omega
theorem apartTo_iff (l : List Int) : ∀ j, apartTo l j = true ↔ ∀ t, t < j → above (l.getD t 0) (l.getD (t + 1) 0) = true := by
  intro j
  simp [apartTo, List.all_eq_true]
theorem sorted_pair (l : List Int) : (sorted l).Pairwise (· ≤ ·) := by
  have := List.pairwise_mergeSort (le := fun x y : Int => decide (x ≤ y)) (fun a b c => by simp; omega) (fun a b => by simp; omega) l
  exact this.imp (by simp)
theorem sorted_perm (l : List Int) : (sorted l).Perm l := List.mergeSort_perm _ _
theorem chain_far (s : List Int) (hs : s.Pairwise (· ≤ ·)) : (∀ t, t < s.length - 1 → s.getD t 0 + 2 ≤ s.getD (t + 1) 0) ↔ s.Pairwise fun a b => a + 2 ≤ b := by
  induction s with
  | nil => simp
  | cons a s ih =>
    obtain ⟨h1, h2⟩ := List.pairwise_cons.1 hs
    rw [List.pairwise_cons]
    cases s with
    | nil => simp
    | cons b s =>
      have ih := ih h2
      have hstep : (∀ t, t < (a :: b :: s).length - 1 → (a :: b :: s).getD t 0 + 2 ≤ (a :: b :: s).getD (t + 1) 0) ↔ (a + 2 ≤ b ∧ ∀ t, t < (b :: s).length - 1 → (b :: s).getD t 0 + 2 ≤ (b :: s).getD (t + 1) 0) := by
        constructor
        · intro h
          exact ⟨by simpa using h 0 (by simp), fun t ht => by simpa using h (t + 1) (by simp at ht ⊢; omega)⟩
        · rintro ⟨h0, h⟩ t ht
          cases t with
          | zero => simpa using h0
          | succ t => simpa using h t (by simp at ht ⊢; omega)
      rw [hstep, ih]
      constructor
      · rintro ⟨h0, h⟩
        refine ⟨fun x hx => ?_, h⟩
        rcases List.mem_cons.1 hx with rfl | hx
        · exact h0
        · have := (List.pairwise_cons.1 h).1 x hx
          omega
      · rintro ⟨h0, h⟩
        exact ⟨h0 b (by simp), h⟩
theorem apartB_iff (l : List Int) (h : ∀ x ∈ l, i64r x) : apartB l = true ↔ l.Pairwise far := by
  have hp := sorted_perm l
  have hs := sorted_pair l
  have hlen : (sorted l).length = l.length := hp.length_eq
  have hmem : ∀ t, t < (sorted l).length → i64r ((sorted l).getD t 0) := fun t ht => by
    rw [List.getD_eq_getElem?_getD, List.getElem?_eq_getElem ht]
    exact h _ (hp.mem_iff.1 (List.getElem_mem ht))
  unfold apartB
  rw [apartTo_iff, ← hlen]
  have e1 : (∀ t, t < (sorted l).length - 1 → above ((sorted l).getD t 0) ((sorted l).getD (t + 1) 0) = true) ↔ (∀ t, t < (sorted l).length - 1 → (sorted l).getD t 0 + 2 ≤ (sorted l).getD (t + 1) 0) := by
    refine forall_congr' fun t => forall_congr' fun ht => above_iff (hmem t (by omega)) (hmem (t + 1) (by omega)) ?_
    have := List.pairwise_iff_getElem.1 hs t (t + 1) (by omega) (by omega) (by omega)
    rw [List.getD_eq_getElem?_getD, List.getD_eq_getElem?_getD, List.getElem?_eq_getElem (by omega), List.getElem?_eq_getElem (by omega)]
    exact this
  rw [e1, chain_far _ hs]
  constructor
  · intro h1
    exact (List.Perm.pairwise_iff (fun h => far_symm h) hp).1 (h1.imp fun h => .inl h)
  · intro h1
    have h2 := (List.Perm.pairwise_iff (fun h => far_symm h) hp).2 h1
    exact (List.pairwise_and_iff.2 ⟨hs, h2⟩).imp fun ⟨h3, h4⟩ => by rcases h4 with h4 | h4 <;> omega

def apart (a b : Ev) : Prop := evKey a = evKey b → far a.wi b.wi
theorem apart_symm {a b : Ev} (h : apart a b) : apart b a := fun e => far_symm (h e.symm)
theorem sparse_iff (l : List Ev) (h : ∀ x ∈ l, i64r x.wi) : sparseB l = true ↔ l.Pairwise apart := by
  have hi := groups_inv evKey Ev.wi l
  have hsel : ∀ k, ∀ x ∈ sel evKey Ev.wi k l, i64r x := by
    intro k x hx
    unfold sel at hx
    obtain ⟨y, hy, rfl⟩ := List.mem_map.1 hx
    exact h y (List.mem_filter.1 hy).1
  have h1 : sparseB l = true ↔ ∀ k, (sel evKey Ev.wi k l).Pairwise far := by
    unfold sparseB
    rw [List.all_eq_true]
    constructor
    · intro ha k
      by_cases hk : k ∈ (evGroups l).map (·.1)
      · obtain ⟨p, hp, rfl⟩ := List.mem_map.1 hk
        have := ha p hp
        rw [hi.is p.1 p.2 hp] at this
        exact (apartB_iff _ (hsel _)).1 this
      · have : sel evKey Ev.wi k l = [] := by
          unfold sel
          rw [List.map_eq_nil_iff, List.filter_eq_nil_iff]
          intro y hy he
          exact hk (by have := hi.all y hy; rw [of_decide_eq_true he] at this; exact this)
        rw [this]; exact List.Pairwise.nil
    · intro ha p hp
      rw [hi.is p.1 p.2 hp]
      exact (apartB_iff _ (hsel _)).2 (ha p.1)
  rw [h1]
  have h2 : ∀ k, (sel evKey Ev.wi k l).Pairwise far ↔ l.Pairwise fun a b => evKey a = k → evKey b = k → far a.wi b.wi := by
    intro k
    unfold sel
    rw [List.pairwise_map, List.pairwise_filter]
    simp
  constructor
  · intro ha
    rw [List.pairwise_iff_getElem]
    intro i j hi hj hij e
    exact List.pairwise_iff_getElem.1 ((h2 (evKey l[i])).1 (ha _)) i j hi hj hij rfl e.symm
  · intro ha k
    rw [h2]
    exact ha.imp fun h e1 e2 => h (e1.trans e2.symm)
end Go.Proofs.YtcilfgedcnehfaaGreatDoor
set_option linter.unusedVariables false
set_option linter.unusedSectionVars false
set_option linter.unusedSimpArgs false
namespace Go.Proofs.YtcilfgedcnehfaaGreatDoor
open Go.RowKit

theorem infoEv : (Tryz.prog.info? 46).map (fun i => (i.zero, i.size, i.bytes)) = some (some (.agg #[.int .i64 0, .int .i64 0, .int .i64 0, .int .i64 0, .int .i64 0, .int .u64 0]), 6, 48) := by kernel_rfl
theorem check_any (w : World) (A : Option Addr) (n c : Nat) (hn : n ≤ 140737488355328) :
    Calls Tryz.prog 20 #[.slice A n c] w fun en w' => en = .returned (.int .i64 (if 1024 < n then 1 else 0)) ∧ w = w' := by
  go_enter Tryz.func20, Tryz.ntmps20
  go_wp2
  all_goals (go_ret; simp; try omega)

theorem check_ok (w : World) (A : Option Addr) (n c : Nat) (hn : n ≤ 1024) : Calls Tryz.prog 20 #[.slice A n c] w fun en w' => en = .returned (.int .i64 0) ∧ w = w' := by
  refine (check_any w A n c (by omega)).mono ?_
  rintro e w' ⟨rfl, rfl⟩
  rw [if_neg (by omega)]
  exact ⟨rfl, rfl⟩

end Go.Proofs.YtcilfgedcnehfaaGreatDoor
set_option linter.unusedVariables false
set_option linter.unusedSectionVars false
set_option linter.unusedSimpArgs false
namespace Go.Proofs.YtcilfgedcnehfaaGreatDoor
open Go.RowKit

def encTry (k : Int × Int) : Value := .agg #[.int .i64 k.1, .int .i64 k.2]
theorem zeroInts (w : World) : (zeroValue 82).run Tryz.prog w = .ok (.slice none 0 0) w := by kernel_rfl
theorem infoInt : (Tryz.prog.info? 3).map (fun i => (i.zero, i.size, i.bytes)) = some (some (.int .i64 0), 1, 8) := by kernel_rfl
theorem keyTryS : MapKey encTry Tryz.prog 108 := by
  refine MapKey.of_struct encTry Tryz.underlying108 (fun e k w => ?_) (fun a b w => ?_) (fun k => ?_)
  · kernel_rfl
  · obtain ⟨a1, a2⟩ := a
    obtain ⟨b1, b2⟩ := b
    unfold encTry Op.equal Op.maxDepth
    go_simp
    by_cases h1 : a1 = b1 <;> by_cases h2 : a2 = b2 <;> simp [h1, h2]
  · simp [encTry, Instr.sameBits]

theorem sort_any (w : World) (B : Nat) (v : Value) (l : List Int) (h : w.ownsRow B 3 1 v l.length (ints .i64 l)) (hl : l.length ≤ 4611686018427387903) :
    Calls Tryz.prog 72 #[v] w fun e w' => e = .returned (.tuple #[]) ∧ w.grownBy w' v.ownBlock ∧ w'.ownsRow B 3 1 v l.length (ints .i64 (sorted l)) := by
  have h' := h
  rcases h.2 with ⟨rfl, h0⟩ | ⟨g, cap, cur, rfl, hbase, hb, h1, h2, h3, h4⟩
  · have hnil : l = [] := List.eq_nil_of_length_eq_zero h0
    subst hnil
    refine (Tryz.slices_Sort_int_none none 0 w).mono ?_
    rintro e w' ⟨rfl, rfl⟩
    exact ⟨rfl, World.grownBy.refl _ _, by simpa [sorted] using h'⟩
  · have hH := Go.holds_of_blockI (w := w) (g := g) (cur := cur) (e := 3) (ss := l) hb (by simpa [ints] using h4)
    refine (Tryz.slices_Sort_int g 0 cap l w hH (Array.getElem?_eq_some_iff.1 hb).1 (by omega)).mono ?_
    rintro e w' ⟨rfl, n, os, rfl⟩
    exact ⟨rfl, Go.grownBy_sortedI _, Go.ownsRow_sortedI (by simp) hbase hb h1 h2 h3⟩

end Go.Proofs.YtcilfgedcnehfaaGreatDoor
set_option linter.unusedVariables false
set_option linter.unusedSectionVars false
set_option linter.unusedSimpArgs false
namespace Go.Proofs.YtcilfgedcnehfaaGreatDoor
open Go.RowKit

def sparseB_of (L : List ((Int × Int) × List Int)) : Bool := L.all fun g => apartB g.2
theorem nodup_le : ∀ (n : Nat) (l : List Nat), l.Nodup → (∀ x ∈ l, x < n) → l.length ≤ n
  | 0, l, _, h => by
    cases l with
    | nil => simp
    | cons x l => exact absurd (h x (by simp)) (by omega)
  | n + 1, l, hn, h => by
    have := nodup_le n (l.erase n) (hn.erase _) (fun x hx => by
      have h1 := h x (List.mem_of_mem_erase hx)
      have h2 : x ≠ n := by rintro rfl; exact (List.Nodup.not_mem_erase hn) hx
      omega)
    rw [List.length_erase] at this
    split at this <;> omega
theorem below_drewN' {B : Nat} {a w : World} (h : Below B a w) (n : Nat) : Below B a (w.drewN n) := ⟨h.os, h.tape, h.output, h.size, h.block⟩
theorem seen_all {α : Type} [Inhabited α] (L : List α) (seen : List Nat) (ok : Bool) (f : α → Bool) (h1 : ∀ i, i < L.length → i ∈ seen) (h2 : ∀ i ∈ seen, i < L.length) (d : α) (h : ok = seen.all fun i => f (L.getD i d)) : ok = L.all f := by
  rw [h, Bool.eq_iff_iff, List.all_eq_true, List.all_eq_true]
  constructor
  · intro ha x hx
    obtain ⟨i, hi⟩ := List.mem_iff_getElem?.1 hx
    have hl := (List.getElem?_eq_some_iff.1 hi).1
    have := ha i (h1 i hl)
    rwa [List.getD_eq_getElem?_getD, hi] at this
  · intro ha i hi
    have hl := h2 i hi
    refine ha _ ?_
    rw [List.getD_eq_getElem?_getD, List.getElem?_eq_getElem hl]
    exact List.getElem_mem hl

set_option maxHeartbeats 2000000 in
set_option maxRecDepth 100000 in
theorem sparse_walk (w : World) (A : Option Addr) (n c : Nat) (l : List Ev) (h : Rd w 6 A n (evs l)) (hn : n ≤ 1024) :
    Calls Tryz.prog 48 #[.slice A n c] w fun en w' => en = .returned (.tuple #[.bool (sparseB l), .int .i64 0]) ∧ Below w.heap.size w w' := by
  have hbig := h.big
  have HL := Lib.hid h.ev_len
  have hmm := @run_makeMap Tryz.prog
  go_enter Tryz.func48, Tryz.ntmps48
  go_wp2_with (first | (go_at_call 20; refine (check_ok _ _ _ _ hn).mono ?_; rintro e w' ⟨rfl, rfl⟩))
  go_loopg [21] n (fun g v wr => ∃ k : Nat, ∃ es : List ((Int × Int) × Value), k + g = n ∧ v = .int .i64 k ∧ Below w.heap.size w wr ∧ w.heap.size < wr.heap.size ∧ IsMap encTry wr w.heap.size es ∧ Groups wr (w.heap.size + 1) 3 es (evGroups (l.take k)))
  case atStart => exact ⟨0, [], by omega, rfl, (Below.refl _ _).alloc (Nat.le_refl _) _, by simp, heap_alloc_new w _, Groups.nil _ _ _⟩
  case round =>
    obtain ⟨k, es, hk, rfl, hB, hsz, hM, hG⟩ := hrel
    by_cases hlt : k < n
    · obtain ⟨x, hx⟩ : ∃ x, l[k]? = some x := ⟨_, List.getElem?_eq_getElem (by rw [HL.out]; exact hlt)⟩
      obtain ⟨b, o, rfl, hbl, g0, g1, g2, g3, g4, g5⟩ := (h.below hB).ev k x hx
      have hs : evGroups (l.take (k + 1)) = gAdd (evKey x) x.wi (evGroups (l.take k)) := by rw [List.take_add_one, hx]; exact groups_snoc _ _ _ _
      have HS := Lib.hid hs
      have hlen : ∀ y ∈ evGroups (l.take k), y.2.length ≤ 1024 := by
        intro y hy
        rw [(groups_inv evKey Ev.wi (l.take k)).is y.1 y.2 hy]
        unfold sel
        rw [List.length_map]
        have h1 := List.length_filter_le (fun z => decide (evKey z = y.1)) (l.take k)
        have h2 := List.length_take_le k l
        omega
      have HLN := Lib.hid hlen
      clear hx hs hlen
      generalize evGroups (l.take k) = L at *
      have hG1 := hG.entOf (evKey x)
      have hat := entOf_at (evKey x) es (Value.slice none 0 0)
      have hatL := entOf_at (evKey x) L ([] : List Int)
      have hidx := (entOf_keys (evKey x) es L (Value.slice none 0 0) ([] : List Int) hG.keys).2
      have hl1 : (entOf (evKey x) L []).2.2.length ≤ 1024 := by
        unfold entOf
        cases hf : fnd (evKey x) L 0 with
        | none => simp
        | some p => exact HLN.out _ (List.mem_of_getElem? (fnd_some hf).2)
      have hgA : gAdd (evKey x) x.wi L = (entOf (evKey x) L []).1.set (entOf (evKey x) L []).2.1 (evKey x, (entOf (evKey x) L []).2.2 ++ [x.wi]) := rfl
      have HGA := Lib.hid hgA
      clear hgA
      generalize hes : entOf (evKey x) es (Value.slice none 0 0) = R at *
      generalize entOf (evKey x) L ([] : List Int) = R' at *
      obtain ⟨es1, i1, v1⟩ := R
      obtain ⟨L1, i1', l1⟩ := R'
      dsimp only at *
      subst hidx
      have HES := Lib.hid hes
      have hown := hG1.own _ _ _ _ _ hat hatL
      have HAT := Lib.hid hat
      have HATL := Lib.hid hatL
      clear hes hat hatL
      go_wp2_with (with_reducible refine stop_at 36 rfl ?_)
      unfold Stop
      refine wpList_mapEntry (k := evKey x) (es := es) rfl (.tmp 30) (.tmp 31) 106 rfl keyTryS Tryz.underlying106 (zeroInts _) ?_ rfl rfl ?_
      · repeat (first | exact hM | refine IsMap.alloc ?_ _)
      intro w1 hM1 hgM1
      rw [HES.out] at hM1 ⊢
      dsimp only
      have hGa := (hG1.below (by repeat (first | exact Below.refl _ _ | refine balloc ?_ _))).kept hgM1 (fun g e => by injection e with e; omega)
      have hs1 : wr.heap.size + 3 ≤ w1.heap.size := by have := hgM1.size; simp at this; omega
      have hown := hGa.own _ _ _ _ _ HAT.out HATL.out
      have hB1 : Below w.heap.size w w1 := Below.grown (by repeat (first | exact hB | refine balloc ?_ _)) hgM1 (by simp; omega) (fun g e => by injection e with e; omega)
      go_wp2_with (with_reducible refine stop_at 37 rfl ?_)
      unfold Stop
      refine wpList_append_rd _ rfl (.tmp 32) (.tmp 35) 82 rfl (w.heap.size + 1) 3 _ 1 8 (by kernel_rfl) infoInt rfl (by omega) v1 l1.length (ints .i64 l1) rfl hown _ 1 1 (ints .i64 [x.wi]) rfl ?_ (ints_one _ _) (by omega) (by omega) (by omega) ?_
      · exact (rd_at _ _ _ 1 1 _ (by simp) rfl (by omega)).grown hgM1 (fun b' o' e => by simp at e; intro h; injection h with h; omega)
      intro v2 w2 hown2 hg2 hat2
      have hM2 := hM1.grown hg2 (by intro e; have := hown.lt _ e; omega)
      have hw2 := hg2.size
      go_wp2_with (with_reducible refine wpList_entryStore rfl (.tmp 30) (.tmp 38) (.tmp 37) 106 rfl hM2 ?_ i1 ?_ (evKey x) v1 v2 HAT.out ?_ ?_)
      · rfl
      · rfl
      · rfl
      intro w3 hM3 hg3
      go_wp2
      go_roundg (n - (k + 1))
      case measure => omega
      case rel =>
        have hown2' : w2.ownsRow (w.heap.size + 1) 3 1 v2 (l1 ++ [x.wi]).length (ints .i64 (l1 ++ [x.wi])) := by rw [List.length_append, ← ints_append]; exact hown2
        have hG3 := (hGa.set_ (by omega) HAT.out HATL.out hg2 hown2' (by
          rcases hat2 with e | e
          · exact .inl e
          · exact .inr (fun g h => by rw [e] at h; injection h with h; omega))).kept hg3 (fun g e => by injection e with e; omega)
        have hw3 := hg3.size
        exact ⟨k + 1, _, by omega, by go_num, (hB1.grown hg2 (by omega) (fun g e => by have := hown.lt g e; omega)).grown hg3 (by omega) (fun g e => by injection e with e; omega), by omega, hM3, by rw [HS.out, HGA.out]; exact hG3⟩
    · obtain rfl : k = n := by omega
      rw [List.take_of_length_le (by rw [HL.out]; exact Nat.le_refl _)] at hG
      have HLN : Hid (∀ y ∈ evGroups l, y.2.length ≤ 1024) := by
        intro y hy
        rw [(groups_inv evKey Ev.wi l).is y.1 y.2 hy]
        unfold sel
        rw [List.length_map]
        have h1 := List.length_filter_le (fun z => decide (evKey z = y.1)) l
        have h2 := HL.out
        omega
      have HSP : Hid (sparseB l = (evGroups l).all fun g => apartB g.2) := rfl
      generalize evGroups l = L at *
      go_wp2_with (with_reducible refine wpList_rangeE rfl (.tmp 40) 106 rfl Tryz.underlying106 hM ?_ ?_)
      · rfl
      intro hI
      go_wp2
      have hrow : ∀ (i : Nat) kk v, es[i]? = some (kk, v) → ∀ g, v.ownBlock = some g → w.heap.size + 1 ≤ g ∧ g < wr.heap.size := fun i kk v hi g hg => by
        obtain ⟨l0, hl0⟩ := hG.at_ hi
        exact (hG.own i kk v kk l0 hi hl0).lt g hg
      have HROW := Lib.hid hrow
      have HAP := Lib.hid hG.apart
      have hlen := hG.len
      have HLEN := Lib.hid hlen
      have hrun : ∀ (i : Nat) kk v ll, i ∉ ([] : List Nat) → es[i]? = some (kk, v) → L[i]? = some (kk, ll) → (wr.alloc (.mapIter (some w.heap.size) es.length #[] es.length)).ownsRow (w.heap.size + 1) 3 1 v ll.length (ints .i64 ll) :=
        fun i kk v ll _ h1 h2 => (hG.own i kk v kk ll h1 h2).alloc _
      have HKEYS := Lib.hid (fun i kk v hi => hG.at_ (i := i) (k := kk) (v := v) hi)
      clear hrow hlen hG
      generalize hr0 : wr.heap.size = r0 at *
      have hr1 : r0 < (wr.alloc (.mapIter (some w.heap.size) es.length #[] es.length)).heap.size := by simp; omega
      have hB' := Below.alloc hB (show w.heap.size ≤ wr.heap.size by omega) (.mapIter (some w.heap.size) es.length #[] es.length)
      have hM' := hM.alloc (.mapIter (some w.heap.size) es.length #[] es.length)
      clear hB hM hr0
      go_loopg [9] es.length (fun g v wx => ∃ (seen : List Nat) (ok : Bool), v = .bool ok ∧ seen.length + g = es.length ∧ Below w.heap.size w wx ∧ r0 < wx.heap.size ∧ IsMap encTry wx w.heap.size es ∧ IsIter wx r0 w.heap.size es.length seen ∧
        Hid (seen.Nodup ∧ (∀ i ∈ seen, i < es.length) ∧ ok = seen.all (fun i => apartB (L.getD i ((0, 0), [])).2) ∧ ∀ (i : Nat) kk v ll, i ∉ seen → es[i]? = some (kk, v) → L[i]? = some (kk, ll) → wx.ownsRow (w.heap.size + 1) 3 1 v ll.length (ints .i64 ll)))
      case atStart => exact ⟨[], true, rfl, by simp, hB', hr1, hM', hI, List.nodup_nil, by simp, rfl, hrun⟩
      case round =>
        obtain ⟨seen, ok, rfl, hsl, hB2, hr2, hM2, hI2, HS2⟩ := hrel
        clear hI hB' hM' hrun
        go_wp2_with (with_reducible refine stop_at 42 rfl ?_)
        unfold Stop
        refine wpList_next rfl (.tmp 41) rfl hM2 hI2 rfl ?_ ?_
        · intro hall
          have hfin : ok = sparseB_of L := by
            obtain ⟨hnd, hlt2, hok, _⟩ := HS2.out
            exact seen_all L seen ok (fun g : (Int × Int) × List Int => apartB g.2) (fun i hi => hall i (by rw [HLEN.out]; exact hi)) (fun i hi => by rw [← HLEN.out]; exact hlt2 i hi) ((0, 0), []) hok
          go_wp2
          go_ret2
          exact ⟨by rw [HSP.out]; rfl, hB2⟩
        · intro i kk v w1 hi hns hI3 hg1
          have hM3 := hM2.grown hg1 (by intro e; injection e with e; omega)
          obtain ⟨ll, hll⟩ := HKEYS.out i kk v hi
          have hw1 := hg1.size
          have hrow := HROW.out i kk v hi
          have hown := (HS2.out.2.2.2 i kk v ll hns hi hll).kept hg1 (by
            cases hv : v.ownBlock with
            | none => exact .inl rfl
            | some g => exact .inr (fun e => by injection e with e; have := (hrow g hv).2; omega))
          have hll2 : ll.length ≤ 1024 := HLN.out _ (List.mem_of_getElem? hll)
          have HLL := Lib.hid hll
          have HI := Lib.hid hi
          clear hll
          go_wp2_with (with_reducible refine wpList_entryE rfl (.tmp 41) rfl hM3 i kk v hI3 ?_ hi ?_)
          · rfl
          clear hi
          refine (sort_any w1 (w.heap.size + 1) v ll hown (by omega)).mono ?_
          rintro e w2 ⟨rfl, hg2, hown2⟩
          have hrow' : ∀ g, v.ownBlock = some g → g ≠ w.heap.size ∧ g ≠ r0 ∧ w.heap.size ≤ g := fun g hg => by have := hrow g hg; omega
          have hM4 := hM3.grown hg2 (by intro e; have := hrow' _ e; omega)
          have hI4 : IsIter w2 r0 w.heap.size es.length (seen ++ [i]) := hI3.keep (hg2.block r0 (by omega) (fun e => by have := hrow' _ e.symm; omega))
          have hB4 : Below w.heap.size w w2 := (hB2.grown hg1 (by omega) (fun g e => by injection e with e; omega)).grown hg2 (by omega) (fun g e => (hrow' g e).2.2)
          have hw2 := hg2.size
          have hothers : ∀ (j : Nat) k2 v2 l2, j ∉ seen ++ [i] → es[j]? = some (k2, v2) → L[j]? = some (k2, l2) → w2.ownsRow (w.heap.size + 1) 3 1 v2 l2.length (ints .i64 l2) := fun j k2 v2 l2 hj h1 h2 => by
            simp only [List.mem_append, List.mem_singleton, not_or] at hj
            refine ((HS2.out.2.2.2 j k2 v2 l2 hj.1 h1 h2).kept hg1 ?_).kept hg2 (HAP.out j i _ _ hj.2 h1 HI.out)
            cases hv : v2.ownBlock with
            | none => exact .inl rfl
            | some g => exact .inr (fun e => by injection e with e; have := (HROW.out j k2 v2 h1 g hv).2; omega)
          have HOT := Lib.hid hothers
          clear hothers
          obtain ⟨A2, c2, hv2, hc2, hrd, _⟩ := Rd.of_own hown2 (by omega)
          rw [hv2]
          have HV := Lib.hid hv2
          clear hv2 hown2
          have hsl2 : (sorted ll).length = ll.length := by simp [sorted]
          have hcell : ∀ t, t < ll.length → ∃ b o, A2 = some ⟨b, o, none⟩ ∧ w2.cell? ⟨b, o + t, none⟩ = some (.int .i64 ((sorted ll).getD t 0)) := fun t ht => by
            obtain ⟨b, o, e, _, hc⟩ := hrd.at_ (by omega)
            refine ⟨b, o, e, hc t _ ?_⟩
            simp [ints, List.getD_eq_getElem?_getD, List.getElem?_eq_getElem (show t < (sorted ll).length by omega)]
          have HSL : Hid (apartB ll = apartTo (sorted ll) (ll.length - 1)) := rfl
          have HCELL := Lib.hid hcell
          clear hcell hsl2 hrd
          generalize sorted ll = sl at *
          generalize hln : ll.length = n2 at *
          have HLN2 := Lib.hid hln
          clear hln
          go_wp2
          go_loopg [9, 12] (n2 - 1) (fun g v9 v12 wx => ∃ (j d : Nat), j + g = n2 - 1 ∧ v12 = .int .i64 ((j : Int) + 1) ∧ v9 = .bool (ok && apartTo sl j) ∧ wx = w2.drewN d)
          case atStart => exact ⟨0, 0, by omega, rfl, by simp [apartTo], rfl⟩
          case round =>
            obtain ⟨j, d, hjg, rfl, rfl, rfl⟩ := hrel
            by_cases hlj : j + 1 < n2
            · obtain ⟨b1, o1, rfl, hc1⟩ := HCELL.out j (by omega)
              obtain ⟨b1', o1', e1, hc2⟩ := HCELL.out (j + 1) hlj
              injection e1 with e1; injection e1 with e1 e2; subst e1; subst e2
              have HST := Lib.hid (apartTo_succ sl j)
              generalize apartTo sl j = aj at *
              have hwr : IntKind.i64.wrap ((j : Int) + 1 - 1) = (j : Int) := by rw [Int.add_sub_cancel]; exact IntWalk.i64_in _ (by omega)
              cases hok : (ok && aj) with
              | false =>
                have HOK := Lib.hid hok
                clear hok
                go_wp2
                go_quiet (fail)
                go_wp2
                go_roundg (n2 - 1 - (j + 1))
                case measure => omega
                case rel => exact ⟨j + 1, d + nq, by omega, by go_num, by rw [HST.out, ← Bool.and_assoc, HOK.out]; rfl, rfl⟩
              | true =>
                have HOK := Lib.hid hok
                clear hok
                go_wp2
                go_quiet (fail)
                go_wp2
                go_roundg (n2 - 1 - (j + 1))
                case measure => omega
                case rel => exact ⟨j + 1, d + nq, by omega, by go_num, by rw [HST.out, ← Bool.and_assoc, HOK.out]; simp [above, List.getD_eq_getElem?_getD], rfl⟩
            · obtain rfl : j = n2 - 1 := by omega
              rw [← HSL.out]
              have hnd : (seen ++ [i]).Nodup := by
                rw [List.nodup_append]
                refine ⟨HS2.out.1, by simp, ?_⟩
                intro a ha b hb
                simp at hb
                rintro rfl
                exact hns (by rw [← hb]; exact ha)
              have hall : ∀ z ∈ seen ++ [i], z < es.length := by
                intro z hz
                rcases List.mem_append.1 hz with hz | hz
                · exact HS2.out.2.1 z hz
                · simp at hz; subst hz; exact (List.getElem?_eq_some_iff.1 HI.out).1
              have hlen := nodup_le _ _ hnd hall
              rw [List.length_append] at hlen
              simp at hlen
              have HND := Lib.hid hnd
              have HALL := Lib.hid hall
              clear hnd hall
              go_wp2
              go_roundg (es.length - (seen.length + 1))
              case measure => omega
              case rel => exact ⟨seen ++ [i], ok && apartB ll, rfl, by simp; omega, below_drewN' hB4 d, by show r0 < w2.heap.size; omega, hM4, hI4, HND.out, HALL.out, by rw [List.all_append, ← HS2.out.2.2.1]; simp [List.getD_eq_getElem?_getD, HLL.out], fun j k2 v2 l2 hj h1 h2 => HOT.out j k2 v2 l2 hj h1 h2⟩
end Go.Proofs.YtcilfgedcnehfaaGreatDoor
set_option linter.unusedVariables false
set_option linter.unusedSectionVars false
set_option linter.unusedSimpArgs false
namespace Go.Proofs.YtcilfgedcnehfaaGreatDoor
open Go.RowKit

def nearW (a b : Int) : Bool := decide (IntKind.u64.wrap (IntKind.u64.wrap (max a b) - IntKind.u64.wrap (min a b)) < 2)
theorem near_any (w : World) (a b : Int) : Calls Tryz.prog 42 #[.int .i64 a, .int .i64 b] w fun en w' => en = .returned (.bool (nearW a b)) ∧ w = w' := by
  go_enter Tryz.func42, Tryz.ntmps42
  go_wp2
  go_ret
  exact ⟨rfl, rfl⟩

theorem keyTryP : MapKey encTry Tryz.prog 81 := by
  refine MapKey.of_struct encTry Tryz.underlying81 (fun e k w => ?_) (fun a b w => ?_) (fun k => ?_)
  · kernel_rfl
  · obtain ⟨a1, a2⟩ := a
    obtain ⟨b1, b2⟩ := b
    unfold encTry Op.equal Op.maxDepth
    go_simp
    by_cases h1 : a1 = b1 <;> by_cases h2 : a2 = b2 <;> simp [h1, h2]
  · simp [encTry, Instr.sameBits]

def nearAny (out : List Ev) (x : Ev) : Bool := (sel evKey Ev.wi (evKey x) out).any fun a => nearW a x.wi
def thin1 (out : List Ev) (x : Ev) : List Ev := if nearAny out x then out else out ++ [x]
def thin (l : List Ev) : List Ev := l.foldl thin1 []

set_option maxHeartbeats 2000000 in
set_option maxRecDepth 100000 in
theorem thin_walk (w : World) (A : Option Addr) (n c : Nat) (l : List Ev) (h : Rd w 6 A n (evs l)) (hn : n ≤ 1024) :
    Calls Tryz.prog 12 #[.slice A n c] w fun en w' => ∃ v, en = .returned (.tuple #[v, .int .i64 0]) ∧ w'.ownsRow w.heap.size 46 6 v (thin l).length (evs (thin l)) ∧ Below w.heap.size w w' ∧ (thin l = [] → v = .slice none 0 0) := by
  have hbig := h.big
  have HL := Lib.hid h.ev_len
  have hmm := @run_makeMap Tryz.prog
  go_enter Tryz.func12, Tryz.ntmps12
  go_wp2_with (first | (go_at_call 20; refine (check_ok _ _ _ _ hn).mono ?_; rintro e w' ⟨rfl, rfl⟩))
  go_step3
  go_wp2
  go_step3
  go_wp2
  go_loopg [5, 20] n (fun g vo v wr => ∃ (k : Nat) (es : List ((Int × Int) × Value)) (out : List Ev), k + g = n ∧ v = .int .i64 k ∧ Below w.heap.size w wr ∧ w.heap.size < wr.heap.size ∧ IsMap encTry wr w.heap.size es ∧ Groups wr (w.heap.size + 1) 3 es (evGroups out) ∧
    wr.ownsRow (w.heap.size + 1) 46 6 vo out.length (evs out) ∧ out.length ≤ k ∧ (out = [] → vo = .slice none 0 0) ∧ Hid (thin (l.take k) = out))
  case atStart => exact ⟨0, [], [], by omega, rfl, (Below.refl _ _).alloc (Nat.le_refl _) _, by simp, heap_alloc_new w _, Groups.nil _ _ _, World.ownsRow_nil _ _ _ _, Nat.le_refl _, fun _ => rfl, rfl⟩
  case round =>
    obtain ⟨k, es, out, hk, rfl, hB, hsz, hM, hG, hO, hol, hnl, HT⟩ := hrel
    by_cases hlt : k < n
    · obtain ⟨x, hx⟩ : ∃ x, l[k]? = some x := ⟨_, List.getElem?_eq_getElem (by rw [HL.out]; exact hlt)⟩
      obtain ⟨b, o, rfl, hbl, g0, g1, g2, g3, g4, g5⟩ := (h.below hB).ev k x hx
      have hs : thin (l.take (k + 1)) = thin1 out x := by rw [List.take_add_one, hx, ← HT.out]; unfold thin; rw [List.foldl_append]; rfl
      have HS := Lib.hid hs
      clear hx hs HT
      go_wp2_with (with_reducible refine stop_at 31 rfl ?_)
      unfold Stop
      refine wpList_lookupE (k := evKey x) rfl (.tmp 29) (.tmp 30) 79 rfl keyTryP Tryz.underlying79 (zeroInts _) ((hM.alloc _).alloc _) rfl rfl ?_
      have hlook := ((hG.look (evKey x)).alloc (.cells #[.int .i64 x.it, .int .i64 x.tr, .int .i64 x.wi, .int .i64 x.ti, .int .i64 x.ad, .int .u64 x.ma] 46)).alloc (.cells #[.int .i64 x.it, .int .i64 x.tr] 81)
      have hsl : (sel evKey Ev.wi (evKey x) out).length ≤ 1024 := by
        unfold sel
        rw [List.length_map]
        have := List.length_filter_le (fun z => decide (evKey z = evKey x)) out
        omega
      obtain ⟨A2, c2, hv2, hc2, hrd, _⟩ := Rd.of_own hlook (by omega)
      rw [hv2]
      have HSN : Hid (nearAny out x = (sel evKey Ev.wi (evKey x) out).any fun a => nearW a x.wi) := rfl
      clear hv2 hlook
      have hcell : ∀ t, t < (sel evKey Ev.wi (evKey x) out).length → ∃ b o, A2 = some ⟨b, o, none⟩ ∧ b < wr.heap.size + 2 ∧ ((wr.alloc (.cells #[.int .i64 x.it, .int .i64 x.tr, .int .i64 x.wi, .int .i64 x.ti, .int .i64 x.ad, .int .u64 x.ma] 46)).alloc (.cells #[.int .i64 x.it, .int .i64 x.tr] 81)).cell? ⟨b, o + t, none⟩ = some (.int .i64 ((sel evKey Ev.wi (evKey x) out).getD t 0)) := fun t ht => by
        obtain ⟨b, o, e, hb, hc⟩ := hrd.at_ (by omega)
        refine ⟨b, o, e, by simpa using hb, hc t _ ?_⟩
        simp [ints, List.getD_eq_getElem?_getD, List.getElem?_eq_getElem ht]
      have HCELL := Lib.hid hcell
      have HSE : Hid (sel evKey Ev.wi (evKey x) out = sel evKey Ev.wi (evKey x) out) := rfl
      clear hcell hrd
      generalize hse : sel evKey Ev.wi (evKey x) out = S at *
      have HSE2 := Lib.hid hse
      clear hse HSE
      go_wp2
      go_loopg [33] S.length (fun g v wx => ∃ t : Nat, t + g = S.length ∧ v = .int .i64 t ∧ wx = ((wr.alloc (.cells #[.int .i64 x.it, .int .i64 x.tr, .int .i64 x.wi, .int .i64 x.ti, .int .i64 x.ad, .int .u64 x.ma] 46)).alloc (.cells #[.int .i64 x.it, .int .i64 x.tr] 81)) ∧ Hid ((S.take t).any (fun a => nearW a x.wi) = false))
      case atStart => exact ⟨0, by omega, rfl, rfl, rfl⟩
      case round =>
        obtain ⟨t, htg, rfl, rfl, HN⟩ := hrel
        by_cases htl : t < S.length
        · obtain ⟨b1, o1, rfl, hb1, hc1⟩ := HCELL.out t htl
          have hnx : Hid ((S.take (t + 1)).any (fun a => nearW a x.wi) = (nearW (S.getD t 0) x.wi)) := by
            show _ = _
            rw [List.take_add_one, List.getElem?_eq_getElem htl, List.any_append, HN.out]
            simp [List.getD_eq_getElem?_getD, List.getElem?_eq_getElem htl]
          have hany : Hid (nearW (S.getD t 0) x.wi = true → S.any (fun a => nearW a x.wi) = true) := by
            intro hq
            rw [List.any_eq_true]
            exact ⟨S.getD t 0, by rw [List.getD_eq_getElem?_getD, List.getElem?_eq_getElem htl]; exact List.getElem_mem htl, hq⟩
          generalize S.getD t 0 = st at *
          go_wp2_with (first | (go_at_call 42; refine (near_any _ _ _).mono ?_; rintro e w' ⟨rfl, rfl⟩))
          · have hq : nearW st x.wi = true := by assumption
            go_roundg (n - (k + 1))
            case measure => omega
            case rel =>
              exact ⟨k + 1, es, out, by omega, by go_num, (hB.alloc (by omega) _).alloc (by simp; omega) _, by simp; omega, (hM.alloc _).alloc _, hG.below (balloc (balloc (Below.refl _ _) _) _), (hO.alloc _).alloc _, by omega, hnl, by show _ = _; rw [HS.out, thin1, if_pos (by rw [HSN.out]; exact hany.out hq)]⟩
          · have hq : nearW st x.wi = false := by assumption
            go_roundg (S.length - (t + 1))
            case measure => omega
            case rel => exact ⟨t + 1, by omega, by go_num, rfl, by show _ = _; rw [hnx.out]; exact hq⟩
        · obtain rfl : t = S.length := by omega
          rw [List.take_length] at HN
          have hs2 : thin1 out x = out ++ [x] := by unfold thin1; rw [HSN.out, HN.out]; rfl
          have HS2 := Lib.hid hs2
          clear hs2
          have hgs : evGroups (out ++ [x]) = gAdd (evKey x) x.wi (evGroups out) := groups_snoc _ _ _ _
          have HGS := Lib.hid hgs
          have hG1 := hG.entOf (evKey x)
          have hat := entOf_at (evKey x) es (Value.slice none 0 0)
          have hatL := entOf_at (evKey x) (evGroups out) ([] : List Int)
          have hidx := (entOf_keys (evKey x) es (evGroups out) (Value.slice none 0 0) ([] : List Int) hG.keys).2
          have hl1 : (entOf (evKey x) (evGroups out) []).2.2 = S := (ent_sel (groups_inv evKey Ev.wi out) (evKey x)).trans HSE2.out
          have hgA : gAdd (evKey x) x.wi (evGroups out) = (entOf (evKey x) (evGroups out) []).1.set (entOf (evKey x) (evGroups out) []).2.1 (evKey x, (entOf (evKey x) (evGroups out) []).2.2 ++ [x.wi]) := rfl
          have HGA := Lib.hid hgA
          clear hgA hgs
          generalize hes : entOf (evKey x) es (Value.slice none 0 0) = R at *
          generalize entOf (evKey x) (evGroups out) ([] : List Int) = R' at *
          obtain ⟨es1, i1, v1⟩ := R
          obtain ⟨L1, i1', l1⟩ := R'
          dsimp only at *
          subst hidx
          subst hl1
          have HES := Lib.hid hes
          have HAT := Lib.hid hat
          have HATL := Lib.hid hatL
          clear hes hat hatL
          have hM0 := (hM.alloc (.cells #[.int .i64 x.it, .int .i64 x.tr, .int .i64 x.wi, .int .i64 x.ti, .int .i64 x.ad, .int .u64 x.ma] 46)).alloc (.cells #[.int .i64 x.it, .int .i64 x.tr] 81)
          go_wp2_with (with_reducible refine stop_at 48 rfl ?_)
          unfold Stop
          refine wpList_mapEntry (k := evKey x) (es := es) rfl (.tmp 42) (.tmp 43) 79 rfl keyTryP Tryz.underlying79 (zeroInts _) (hM0.alloc _) rfl rfl ?_
          intro w1 hM1 hgM1
          rw [HES.out] at hM1 ⊢
          dsimp only
          have hGa := (hG1.below (balloc (balloc (balloc (Below.refl _ _) _) _) _)).kept hgM1 (fun g e => by injection e with e; omega)
          have hOa := (((hO.alloc _).alloc _).alloc _).kept hgM1 (.inr (own_ne_map hO hM))
          have hs1 : wr.heap.size + 3 ≤ w1.heap.size := by have := hgM1.size; simp at this; omega
          have hown := hGa.own _ _ _ _ _ HAT.out HATL.out
          have hB1 : Below w.heap.size w w1 := Below.grown (by repeat (first | exact hB | refine balloc ?_ _)) hgM1 (by simp; omega) (fun g e => by injection e with e; omega)
          have hk : ∀ j, w1.cell? ⟨wr.heap.size, j, none⟩ = (#[Value.int .i64 x.it, .int .i64 x.tr, .int .i64 x.wi, .int .i64 x.ti, .int .i64 x.ad, .int .u64 x.ma])[j]? := fun j => by
            rw [World.cell?_of_block (hgM1.block wr.heap.size (by simp; omega) (by intro e; injection e with e; omega))]
            exact new_cell (W := ((_ : World).alloc _).alloc _) (balloc (balloc (Below.refl _ _) _) _) j
          have HK := Lib.hid hk
          clear hk
          have k2 := HK.out 2
          go_wp2_with (with_reducible refine stop_at 49 rfl ?_)
          unfold Stop
          refine wpList_append_rd _ rfl (.tmp 44) (.tmp 47) 82 rfl (w.heap.size + 1) 3 _ 1 8 (by kernel_rfl) infoInt rfl (by omega) v1 l1.length (ints .i64 l1) rfl hown _ 1 1 (ints .i64 [x.wi]) rfl ?_ (ints_one _ _) (by omega) (by omega) (by omega) ?_
          · exact (rd_at _ _ _ 1 1 _ (by simp) rfl (by omega)).grown hgM1 (fun b' o' e => by simp at e; intro h; injection h with h; omega)
          intro v2 w2 hown2 hg2 hat2
          have hv1 : ∀ g, v1.ownBlock = some g → w.heap.size + 1 ≤ g ∧ g < wr.heap.size := fun g hg => (hG1.own _ _ _ _ _ HAT.out HATL.out).lt g hg
          have hM2 := hM1.grown hg2 (by intro e; have := hv1 _ e; omega)
          have hw2 := hg2.size
          have hown2' : w2.ownsRow (w.heap.size + 1) 3 1 v2 (l1 ++ [x.wi]).length (ints .i64 (l1 ++ [x.wi])) := by rw [List.length_append, ← ints_append]; exact hown2
          have hG2 := hGa.set_ (by omega) HAT.out HATL.out hg2 hown2' (by
            rcases hat2 with e | e
            · exact .inl e
            · exact .inr (fun g h => by rw [e] at h; injection h with h; omega))
          have hO2 := hOa.kept hg2 (own_ne hOa hown (by decide))
          have hB2 := hB1.grown hg2 (by omega) (fun g e => by have := hv1 g e; omega)
          go_wp2_with (with_reducible refine wpList_entryStore rfl (.tmp 42) (.tmp 50) (.tmp 49) 79 rfl hM2 ?_ i1 ?_ (evKey x) v1 v2 HAT.out ?_ ?_)
          · rfl
          · rfl
          · rfl
          intro w3 hM3 hg3
          have hw3 := hg3.size
          have hG3 := hG2.kept hg3 (fun g e => by injection e with e; omega)
          have hO3 := hO2.kept hg3 (.inr (own_ne_map hO2 hM2))
          have hB3 := hB2.grown hg3 (by omega) (fun g e => by injection e with e; omega)
          have hk3 : ∀ j, w3.cell? ⟨wr.heap.size, j, none⟩ = (#[Value.int .i64 x.it, .int .i64 x.tr, .int .i64 x.wi, .int .i64 x.ti, .int .i64 x.ad, .int .u64 x.ma])[j]? := fun j => by
            rw [World.cell?_of_block (hg3.block wr.heap.size (by omega) (by intro e; injection e with e; omega)), World.cell?_of_block (hg2.block wr.heap.size (by omega) (by intro e; have := hv1 _ e.symm; omega))]
            exact HK.out j
          have k0 := hk3 0
          have k1 := hk3 1
          have k2 := hk3 2
          have k3 := hk3 3
          have k4 := hk3 4
          have k5 := hk3 5
          clear hk3
          go_wp2_with (with_reducible refine stop_at 54 rfl ?_)
          unfold Stop
          refine wpList_append_rd _ rfl (.tmp 51) (.tmp 53) 27 rfl (w.heap.size + 1) 46 _ 6 48 (by kernel_rfl) infoEv rfl (by omega) u5 out.length (evs out) rfl (hO3.alloc _) _ 1 1 (evs [x]) rfl (rd_at _ _ _ 6 1 _ rfl rfl (by omega)) (evs_one _) (by omega) (by omega) (by simp; omega) ?_
          intro v3 w4 hO4 hg4 hat4
          have hw4 := hg4.size
          have hO4' : w4.ownsRow (w.heap.size + 1) 46 6 v3 (out ++ [x]).length (evs (out ++ [x])) := by rw [List.length_append, ← evs_append]; exact hO4
          have hG4 := (hG3.below (balloc (Below.refl _ _) _)).kept_own (hO3.alloc _) (by decide) hg4
          have hM4 := (hM3.alloc _).grown hg4 (own_ne_map hO3 hM3)
          have hB4 := (hB3.alloc (by omega) _).grown hg4 (by simp; omega) (fun g e => by have := hO3.lt g e; omega)
          go_wp2
          go_roundg (n - (k + 1))
          case measure => omega
          case rel =>
            exact ⟨k + 1, _, out ++ [x], by omega, by go_num, hB4, by simp at hw4; omega, hM4, by rw [HGS.out, HGA.out]; exact hG4, hO4', by simp; omega, fun h => by simp at h, by show _ = _; rw [HS.out, HS2.out]⟩
    · obtain rfl : k = n := by omega
      rw [List.take_of_length_le (by rw [HL.out]; exact Nat.le_refl _)] at HT
      go_wp2
      try rw [Exit.noGoto_ret]
      go_ret2
      refine ⟨u5, rfl, ?_, hB, by rw [HT.out]; exact hnl⟩
      rw [HT.out]
      obtain ⟨h1, h2⟩ := hO
      exact ⟨h1, h2.imp id fun ⟨g, cap, cur, e, hb, r⟩ => ⟨g, cap, cur, e, by omega, r⟩⟩
end Go.Proofs.YtcilfgedcnehfaaGreatDoor
set_option linter.unusedVariables false
namespace Go.Proofs.YtcilfgedcnehfaaGreatDoor
open Go.RowKit Go.AM
def evOf : List Value → Option (List Ev)
  | [] => some []
  | .int .i64 a :: .int .i64 b :: .int .i64 c :: .int .i64 d :: .int .i64 e :: .int .u64 f :: r => (evOf r).map (⟨a, b, c, d, e, f⟩ :: ·)
  | _ => none
theorem evOf_some : ∀ {xs : List Value} {l : List Ev}, evOf xs = some l → xs = evs l ∧ xs.all flatV = true := by
  intro xs
  induction xs using evOf.induct with
  | case1 => intro l h; cases h; exact ⟨rfl, rfl⟩
  | case2 a b c d e f r ih =>
    intro l h
    simp only [evOf] at h
    cases hr : evOf r with
    | none => rw [hr] at h; cases h
    | some l' =>
      rw [hr] at h; cases h
      obtain ⟨h1, h2⟩ := ih hr
      exact ⟨by rw [h1]; rfl, by simpa [flatV] using h2⟩
  | case3 xs h1 h2 =>
    intro l h
    exfalso
    unfold evOf at h
    split at h
    · exact h1 rfl
    · exact h2 _ _ _ _ _ _ _ rfl
    · cases h
theorem rd_of {w : World} {A : Option Addr} {n : Nat} {l : List Ev} (h : Reads w 6 A n (evs l)) (hn : n ≤ 1024) : Rd w 6 A n (evs l) :=
  ⟨h.len, by omega, fun h0 => h.at_ (by omega)⟩
set_option maxHeartbeats 1000000 in
set_option maxRecDepth 100000 in
theorem sparse_big (w : World) (A : Option Addr) (n c : Nat) (h1 : 1024 < n) (h2 : n ≤ 140737488355328) :
    Calls Tryz.prog 48 #[.slice A n c] w fun en w' => en = .returned (.tuple #[.bool false, .int .i64 1]) ∧ Below w.heap.size w w' := by
  go_enter Tryz.func48, Tryz.ntmps48
  go_wp2_with (first | (go_at_call 20; refine (check_any _ _ _ _ h2).mono ?_; rintro e w' ⟨rfl, rfl⟩; rw [if_pos h1]))
  go_ret2
  exact ⟨rfl, Below.refl _ _⟩
set_option maxHeartbeats 1000000 in
set_option maxRecDepth 100000 in
theorem thin_big (w : World) (A : Option Addr) (n c : Nat) (h1 : 1024 < n) (h2 : n ≤ 140737488355328) :
    Calls Tryz.prog 12 #[.slice A n c] w fun en w' => en = .returned (.tuple #[.slice none 0 0, .int .i64 1]) ∧ Below w.heap.size w w' := by
  go_enter Tryz.func12, Tryz.ntmps12
  go_wp2_with (first | (go_at_call 20; refine (check_any _ _ _ _ h2).mono ?_; rintro e w' ⟨rfl, rfl⟩; rw [if_pos h1]))
  go_step3
  go_wp2
  rw [Exit.noGoto_ret]
  go_ret2
  exact ⟨rfl, Below.refl _ _⟩
def sparR (n : Nat) (xs : List Value) : Option (List Value) := match evOf xs with
  | some l => if n ≤ 1024 then some [.bool (sparseB l), .int .i64 0] else if n ≤ 2000 then some [.bool false, .int .i64 1] else none
  | none => none
noncomputable def sparG : List Value → M Value := readV 6 sparR
theorem spar_leaf {G : List (Nat × Obj)} : FnOK Tryz.prog G 48 sparG := by
  refine readV_ok (Go.AM.enters_of Tryz.func48 rfl (by decide +kernel)) ?_
  intro n xs vs h
  unfold sparR at h
  split at h
  · rename_i l hl
    split at h
    · rename_i hn
      cases h
      obtain ⟨rfl, hf⟩ := evOf_some hl
      exact ⟨hf, rfl, fun w A c hr _ => sparse_walk w A n c l (rd_of hr hn) hn⟩
    · rename_i hn
      split at h
      · cases h
        obtain ⟨rfl, hf⟩ := evOf_some hl
        exact ⟨hf, rfl, fun w A c hr _ => sparse_big w A n c (by omega) (by omega)⟩
      · cases h
  · cases h
def thinR (n : Nat) (xs : List Value) : Option (List Value × Nat × Value) := match evOf xs with
  | some l => if n ≤ 1024 then some (evs (thin l), (thin l).length, .int .i64 0) else if n ≤ 2000 then some ([], 0, .int .i64 1) else none
  | none => none
noncomputable def thinG : List Value → M Value := readR 6 6 46 thinR
theorem evs_flat : ∀ l : List Ev, (evs l).all flatV = true
  | [] => rfl
  | x :: l => by
    have := evs_flat l
    show (x.cells ++ evs l).all flatV = true
    rw [List.all_append, this, Bool.and_true]; rfl
theorem thin_leaf {G : List (Nat × Obj)} : FnOK Tryz.prog G 12 thinG := by
  refine readR_ok (Go.AM.enters_of Tryz.func12 rfl (by decide +kernel)) (by decide) ?_
  intro n xs ys m c h
  unfold thinR at h
  split at h
  · rename_i l hl
    split at h
    · rename_i hn
      cases h
      obtain ⟨rfl, hf⟩ := evOf_some hl
      refine ⟨hf, evs_flat _, rfl, evs_len _, fun w A c hr _ => ?_⟩
      refine (thin_walk w A n c l (rd_of hr hn) hn).mono ?_
      rintro en W ⟨v, he, ho, hb, hnil⟩
      exact ⟨v, he, ho, hb, fun h0 => hnil (List.eq_nil_of_length_eq_zero h0)⟩
    · rename_i hn
      split at h
      · cases h
        obtain ⟨rfl, hf⟩ := evOf_some hl
        refine ⟨hf, rfl, rfl, rfl, fun w A c hr _ => ?_⟩
        refine (thin_big w A n c (by omega) (by omega)).mono ?_
        rintro en W ⟨he, hb⟩
        exact ⟨_, he, World.ownsRow_nil _ _ _ _, hb, fun _ => rfl⟩
      · cases h
  · cases h
end Go.Proofs.YtcilfgedcnehfaaGreatDoor
set_option linter.unusedVariables false
set_option linter.unusedSimpArgs false
namespace Go.AM
open Go Go.Proofs.YtcilfgedcnehfaaGreatDoor
theorem Ar.getEv {S : St} {p : Option Addr} {n : Nat} {l : List Ev} (h : Ar S p n 6 Ev.cells l) {i : Nat} (hi : i < l.length) :
    ∃ a, p = some a ∧ S.cell (a.add (i * 6)) = some (vI l[i].it) ∧ S.cell ((a.add (i * 6)).add 1) = some (vI l[i].tr) ∧ S.cell ((a.add (i * 6)).add 2) = some (vI l[i].wi) ∧
      S.cell ((a.add (i * 6)).add 3) = some (vI l[i].ti) ∧ S.cell ((a.add (i * 6)).add 4) = some (vI l[i].ad) ∧ S.cell ((a.add (i * 6)).add 5) = some (vU l[i].ma) := by
  obtain ⟨a, h1, h2⟩ := h.2 i hi
  exact ⟨a, h1, by have := h2 0 _ rfl; rwa [add_zero_] at this, h2 1 _ rfl, h2 2 _ rfl, h2 3 _ rfl, h2 4 _ rfl, h2 5 _ rfl⟩
theorem evOf_evs : ∀ l : List Ev, evOf (l.flatMap Ev.cells) = some l
  | [] => rfl
  | x :: l => by
    have := evOf_evs l
    show evOf (.int .i64 x.it :: .int .i64 x.tr :: .int .i64 x.wi :: .int .i64 x.ti :: .int .i64 x.ad :: .int .u64 x.ma :: l.flatMap Ev.cells) = _
    simp only [evOf, this]; rfl
theorem eqEv (x y : Ev) : eqL [vI x.it, vI x.tr, vI x.wi, vI x.ti, vI x.ad, vU x.ma] [vI y.it, vI y.tr, vI y.wi, vI y.ti, vI y.ad, vU y.ma] = decide (x = y) := by
  obtain ⟨a1, a2, a3, a4, a5, a6⟩ := x
  obtain ⟨b1, b2, b3, b4, b5, b6⟩ := y
  simp [eqL, Bool.and_assoc, Bool.decide_and, Ev.mk.injEq]; rfl
theorem take_eq_step {α : Type} {x y : List α} {j : Nat} (h : x.take j = y.take j) (hx : j < x.length) (hy : j < y.length) (he : x[j] = y[j]) : x.take (j + 1) = y.take (j + 1) := by
  rw [take_snoc hx, take_snoc hy, h, he]
end Go.AM
set_option linter.unusedVariables false
set_option linter.unusedSectionVars false
set_option linter.unusedSimpArgs false
namespace Go.Proofs.YtcilfgedcnehfaaGreatDoor
open Go.RowKit

def Ev.nothing (x : Ev) (n : Int) : Bool := x.ma == 0 || decide (x.ad < 0) || decide (n ≤ x.ad)
end Go.Proofs.YtcilfgedcnehfaaGreatDoor
set_option linter.unusedVariables false
set_option linter.unusedSectionVars false
set_option linter.unusedSimpArgs false
namespace Go.Proofs.YtcilfgedcnehfaaGreatDoor
open Go.RowKit

theorem near_iff {a b : Int} (ha : i64r a) (hb : i64r b) : nearW a b = true ↔ ¬ far a b := by
  unfold nearW far
  rw [decide_eq_true_eq, u64_wrap, u64_wrap, u64_wrap]
  unfold i64r at *
  rcases Int.le_total a b with h | h
  · rw [Int.max_eq_right h, Int.min_eq_left h]; omega
  · rw [Int.max_eq_left h, Int.min_eq_right h]; omega
theorem thin_from : ∀ (l out : List Ev), ∃ sub, l.foldl thin1 out = out ++ sub ∧ sub.Sublist l
  | [], out => ⟨[], by simp, List.Sublist.refl _⟩
  | x :: l, out => by
    rw [List.foldl_cons]
    obtain ⟨sub, h1, h2⟩ := thin_from l (thin1 out x)
    rw [h1]
    unfold thin1
    split
    · exact ⟨sub, rfl, h2.cons _⟩
    · exact ⟨x :: sub, by simp, h2.cons_cons _⟩
theorem thin_sub (l : List Ev) : (thin l).Sublist l := by
  obtain ⟨sub, h1, h2⟩ := thin_from l []
  unfold thin; rw [h1]; simpa using h2
end Go.Proofs.YtcilfgedcnehfaaGreatDoor
