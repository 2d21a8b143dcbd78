/-
  Part of the proof of a law: contracts of functions that work with maps. Conditions: none.
-/
import Derived.WalkKit
import Derived.BigQuiet
import Derived.Deep.QuietTactic
import Derived.Deep.DeepFit
import Derived.WalkLawsBesides
import Derived.WalkSpells
import Derived.Deep.LoopGhost
import Derived.Deep.Draws
import Derived.Deep.AppendLies
import Derived.Maps.AppendAt
import Derived.Lib.Hide
import Derived.StillTailTactics
import Derived.Deep.RegionHeld3
import Derived.Deep.DeepCutAuto
import Derived.KernelRfl
import Derived.MapKept
import Derived.Maps.RangeRun
import Derived.Test.YtackinampfgklaaGreatDoorVL1
import Derived.Test.YtackinampfgklaaGreatDoorVP1
import Derived.Laws.Bits64
set_option linter.unusedVariables false
set_option linter.unusedSectionVars false
set_option linter.unusedSimpArgs false
set_option linter.deprecated false
set_option linter.unusedVariables false
set_option linter.unusedSectionVars false
set_option linter.unusedSimpArgs false
namespace Go.Proofs.YtackinampfgklaaGreatDoor
open Go.RowKit

structure Ev where
  it : Int
  tr : Int
  wi : Int
  ti : Int
  ad : Int
  ma : Int
structure Rc where
  it : Int
  tr : Int
  wi : Int
  ad : Int
  ba : Int
  go : Int
theorem Ev.eq_iff (x y : Ev) : x = y ↔ x.it = y.it ∧ x.tr = y.tr ∧ x.wi = y.wi ∧ x.ti = y.ti ∧ x.ad = y.ad ∧ x.ma = y.ma := by
  cases x; cases y; simp
theorem Rc.eq_iff (x y : Rc) : x = y ↔ x.it = y.it ∧ x.tr = y.tr ∧ x.wi = y.wi ∧ x.ad = y.ad ∧ x.ba = y.ba ∧ x.go = y.go := by
  cases x; cases y; simp
instance : DecidableEq Ev := fun x y => decidable_of_iff _ (Ev.eq_iff x y).symm
instance : DecidableEq Rc := fun x y => decidable_of_iff _ (Rc.eq_iff x y).symm
def Ev.cells (x : Ev) : List Value := [.int .i64 x.it, .int .i64 x.tr, .int .i64 x.wi, .int .i64 x.ti, .int .i64 x.ad, .int .u64 x.ma]
def Rc.cells (x : Rc) : List Value := [.int .i64 x.it, .int .i64 x.tr, .int .i64 x.wi, .int .i64 x.ad, .int .u64 x.ba, .int .u64 x.go]
abbrev Ev.val (x : Ev) : Value := .agg #[.int .i64 x.it, .int .i64 x.tr, .int .i64 x.wi, .int .i64 x.ti, .int .i64 x.ad, .int .u64 x.ma]
abbrev Rc.val (x : Rc) : Value := .agg #[.int .i64 x.it, .int .i64 x.tr, .int .i64 x.wi, .int .i64 x.ad, .int .u64 x.ba, .int .u64 x.go]

structure Rd (w : World) (size : Nat) (A : Option Addr) (n : Nat) (xs : List Value) : Prop where
  len : xs.length = n * size
  big : n ≤ 140737488355328
  at_ : 0 < n → ∃ b o, A = some ⟨b, o, none⟩ ∧ b < w.heap.size ∧ ∀ j u, xs[j]? = some u → w.cell? ⟨b, o + j, none⟩ = some u

theorem Rd.below {w w1 : World} {size n : Nat} {A : Option Addr} {xs : List Value} (h : Rd w size A n xs) (hb : Below w.heap.size w w1) : Rd w1 size A n xs :=
  ⟨h.len, h.big, fun hn => by
    obtain ⟨b, o, e, hlt, hc⟩ := h.at_ hn
    exact ⟨b, o, e, Nat.lt_of_lt_of_le hlt hb.size, fun j u hu => (hb.cell hlt).trans (hc j u hu)⟩⟩
theorem Rd.grown {w w1 : World} {size n : Nat} {A : Option Addr} {xs : List Value} (h : Rd w size A n xs) {row : Option Nat} (hg : w.grownBy w1 row) (hne : ∀ b o, A = some ⟨b, o, none⟩ → row ≠ some b) : Rd w1 size A n xs :=
  ⟨h.len, h.big, fun hn => by
    obtain ⟨b, o, e, hlt, hc⟩ := h.at_ hn
    exact ⟨b, o, e, Nat.lt_of_lt_of_le hlt hg.size, fun j u hu => (World.cell?_of_block (hg.block b hlt (fun x => hne b o e x.symm))).trans (hc j u hu)⟩⟩
theorem Rd.alloc {w : World} {size n : Nat} {A : Option Addr} {xs : List Value} (h : Rd w size A n xs) (o : Obj) : Rd (w.alloc o) size A n xs := h.below ((Below.refl _ _).alloc (Nat.le_refl _) _)
theorem Rd.drew {w : World} {size n : Nat} {A : Option Addr} {xs : List Value} (h : Rd w size A n xs) : Rd w.drew size A n xs := ⟨h.len, h.big, h.at_⟩
theorem Rd.drewN {w : World} {size n : Nat} {A : Option Addr} {xs : List Value} (h : Rd w size A n xs) (k : Nat) : Rd (w.drewN k) size A n xs := ⟨h.len, h.big, h.at_⟩
theorem Rd.nil (w : World) (size : Nat) (A : Option Addr) : Rd w size A 0 [] := ⟨by simp, by omega, fun h => absurd h (by omega)⟩
theorem obelow {w w1 : World} {base n : Nat} {e : TypeId} {size : Nat} {v : Value} {xs : List Value} (h : w.ownsRow base e size v n xs) (hb : Below w.heap.size w w1) : w1.ownsRow base e size v n xs :=
  h.kept (row := none) ⟨hb.os, hb.tape, hb.output, hb.size, fun i hi _ => hb.block i hi⟩ (by cases v.ownBlock <;> simp)
structure Kp (T : Nat → Prop) (w w' : World) : Prop where
  os : w'.os = w.os
  tape : w'.tape = w.tape
  output : w'.output = w.output
  size : w.heap.size ≤ w'.heap.size
  block : ∀ k, k < w.heap.size → ¬ T k → w'.heap[k]? = w.heap[k]?
theorem Kp.refl (T : Nat → Prop) (w : World) : Kp T w w := ⟨rfl, rfl, rfl, Nat.le_refl _, fun _ _ _ => rfl⟩
theorem Kp.trans {T : Nat → Prop} {a b c : World} (h : Kp T a b) (k : Kp T b c) : Kp T a c :=
  ⟨k.os.trans h.os, k.tape.trans h.tape, k.output.trans h.output, Nat.le_trans h.size k.size, fun i hi ht => (k.block i (Nat.lt_of_lt_of_le hi h.size) ht).trans (h.block i hi ht)⟩
theorem Kp.mono {T T' : Nat → Prop} {a b : World} (h : Kp T a b) (hT : ∀ k, k < a.heap.size → T k → T' k) : Kp T' a b := ⟨h.os, h.tape, h.output, h.size, fun i hi ht => h.block i hi fun x => ht (hT i hi x)⟩
theorem Kp.of_below {T : Nat → Prop} {a b : World} (h : Below a.heap.size a b) : Kp T a b := ⟨h.os, h.tape, h.output, h.size, fun i hi _ => h.block i hi⟩
theorem Kp.below {T : Nat → Prop} {a b : World} (h : Kp T a b) {B : Nat} (hB : B ≤ a.heap.size) (hT : ∀ k, k < B → ¬ T k) : Below B a b := ⟨h.os, h.tape, h.output, h.size, fun i hi => h.block i (by omega) (hT i hi)⟩
theorem Kp.drew {T : Nat → Prop} {a b : World} (h : Kp T a b) : Kp T a b.drew := ⟨h.os, h.tape, h.output, h.size, h.block⟩
theorem Kp.drewN {T : Nat → Prop} {a b : World} (h : Kp T a b) (n : Nat) : Kp T a (b.drewN n) := ⟨h.os, h.tape, h.output, h.size, h.block⟩
theorem Kp.alloc {T : Nat → Prop} {a b : World} (h : Kp T a b) (o : Obj) : Kp T a (b.alloc o) := h.trans (Kp.of_below ((Below.refl _ _).alloc (Nat.le_refl _) o))
theorem Kp.setCell {T : Nat → Prop} {a b : World} (h : Kp T a b) {p : Addr} (hp : T p.block ∨ a.heap.size ≤ p.block) (u : Value) : Kp T a (b.setCell p u) :=
  ⟨h.os, h.tape, h.output, by simpa [World.setCell] using h.size, fun i hi ht => (Below.heap_setCell b p u i (by
    rintro rfl
    rcases hp with hp | hp
    · exact ht hp
    · omega)).trans (h.block i hi ht)⟩
theorem Kp.grown {T : Nat → Prop} {a b c : World} (h : Kp T a b) {row : Option Nat} (hg : b.grownBy c row) (hr : ∀ g, row = some g → T g ∨ a.heap.size ≤ g) : Kp T a c :=
  ⟨hg.os.trans h.os, hg.tape.trans h.tape, hg.output.trans h.output, Nat.le_trans h.size hg.size, fun i hi ht => (hg.block i (Nat.lt_of_lt_of_le hi h.size) (fun e => by
    rcases hr i e.symm with x | x
    · exact ht x
    · omega)).trans (h.block i hi ht)⟩
theorem Kp.cell {T : Nat → Prop} {a b : World} (h : Kp T a b) {p : Addr} (hp : p.block < a.heap.size) (ht : ¬ T p.block) : b.cell? p = a.cell? p := World.cell?_of_block (w := a) (h.block p.block hp ht)
theorem Rd.kp {w w1 : World} {size n : Nat} {A : Option Addr} {xs : List Value} (h : Rd w size A n xs) {T : Nat → Prop} (hg : Kp T w w1) (hne : ∀ b o, A = some ⟨b, o, none⟩ → ¬ T b) : Rd w1 size A n xs :=
  ⟨h.len, h.big, fun hn => by
    obtain ⟨b, o, e, hlt, hc⟩ := h.at_ hn
    exact ⟨b, o, e, Nat.lt_of_lt_of_le hlt hg.size, fun j u hu => (World.cell?_of_block (hg.block b hlt (hne b o e))).trans (hc j u hu)⟩⟩

theorem flat_len {α : Type} (f : α → List Value) (s : Nat) (hs : ∀ x, (f x).length = s) (l : List α) : (l.flatMap f).length = l.length * s := by
  induction l with
  | nil => simp
  | cons x l ih => rw [List.flatMap_cons, List.length_append, hs, ih, List.length_cons, Nat.add_mul]; omega

def evs (l : List Ev) : List Value := l.flatMap Ev.cells
theorem add_addr (b o j : Nat) : (⟨b, o, none⟩ : Addr).add j = ⟨b, o + j, none⟩ := by unfold Addr.add; split <;> simp_all
section
variable {P : Program} (t e : TypeId) (z : Value) (size bytes : Nat) (ht : P.underlying t = some (.slice e)) (hinfo : (P.info? e).map (fun i => (i.zero, i.size, i.bytes)) = some (some z, size, bytes))
include ht hinfo
end

def RdV (w : World) (size : Nat) (v : Value) (n : Nat) (xs : List Value) : Prop := ∃ A c, v = .slice A n c ∧ n ≤ c ∧ Rd w size A n xs
theorem RdV.mk {w : World} {size n c : Nat} {A : Option Addr} {xs : List Value} (h : Rd w size A n xs) (hc : n ≤ c) : RdV w size (.slice A n c) n xs := ⟨A, c, rfl, hc, h⟩
theorem RdV.below {w w1 : World} {size n : Nat} {v : Value} {xs : List Value} (h : RdV w size v n xs) (hb : Below w.heap.size w w1) : RdV w1 size v n xs := by
  obtain ⟨A, c, hv, hc, hr⟩ := h; exact ⟨A, c, hv, hc, hr.below hb⟩
theorem RdV.alloc {w : World} {size n : Nat} {v : Value} {xs : List Value} (h : RdV w size v n xs) (o : Obj) : RdV (w.alloc o) size v n xs := by
  obtain ⟨A, c, hv, hc, hr⟩ := h; exact ⟨A, c, hv, hc, hr.alloc o⟩
theorem RdV.nil (w : World) (size : Nat) : RdV w size (.slice none 0 0) 0 [] := ⟨none, 0, rfl, Nat.le_refl _, Rd.nil _ _ _⟩
def ints (k : IntKind) (l : List Int) : List Value := l.map (.int k)
theorem ints_len (k : IntKind) (l : List Int) : (ints k l).length = l.length := by simp [ints]
theorem Rd.u_len {w : World} {A : Option Addr} {n : Nat} {k : IntKind} {l : List Int} (h : Rd w 1 A n (ints k l)) : l.length = n := by have := h.len; rw [ints_len] at this; omega
theorem Rd.int {w : World} {A : Option Addr} {n : Nat} {kk : IntKind} {l : List Int} (h : Rd w 1 A n (ints kk l)) (k : Nat) (x : Int) (hx : l[k]? = some x) : ∃ b o, A = some ⟨b, o, none⟩ ∧ b < w.heap.size ∧ w.cell? ⟨b, o + k, none⟩ = some (.int kk x) := by
  have hk : k < n := by rw [← h.u_len]; exact (List.getElem?_eq_some_iff.1 hx).1
  obtain ⟨b, o, e, hb, hc⟩ := h.at_ (by omega)
  exact ⟨b, o, e, hb, hc k _ (by simp [ints, hx])⟩
section
variable {P : Program} (w : World)
end
end Go.Proofs.YtackinampfgklaaGreatDoor
set_option linter.unusedVariables false
set_option linter.unusedSectionVars false
set_option linter.unusedSimpArgs false
namespace Go.Proofs.YtackinampfgklaaGreatDoor
open Go.RowKit
open Go.ChangeMaps (setBlock)

section
variable {κ β : Type} [DecidableEq κ]
def fnd (k : κ) : List (κ × β) → Nat → Option (Nat × β)
  | [], _ => none
  | (k', v) :: es, i => if k = k' then some (i, v) else fnd k es (i + 1)
theorem fnd_some {k : κ} : ∀ {es : List (κ × β)} {i j : Nat} {v : β}, fnd k es i = some (j, v) → i ≤ j ∧ es[j - i]? = some (k, v)
  | [], _, _, _, h => by simp [fnd] at h
  | (k', v') :: es, i, j, v, h => by
    unfold fnd at h
    split at h
    · rename_i hk; subst hk; simp at h; obtain ⟨rfl, rfl⟩ := h; simp
    · obtain ⟨h1, h2⟩ := fnd_some h
      refine ⟨by omega, ?_⟩
      rw [show j - i = (j - (i + 1)) + 1 from by omega]; simpa using h2
theorem fnd_none {k : κ} : ∀ {es : List (κ × β)} {i : Nat}, fnd k es i = none → k ∉ es.map (·.1)
  | [], _, _ => by simp
  | (k', v') :: es, i, h => by
    unfold fnd at h
    split at h
    · cases h
    · rename_i hk
      simp only [List.map_cons, List.mem_cons, not_or]
      exact ⟨hk, fnd_none h⟩
theorem fnd_keys {γ : Type} {k : κ} : ∀ {es : List (κ × β)} {L : List (κ × γ)} {i : Nat}, es.map (·.1) = L.map (·.1) → (fnd k es i).map (·.1) = (fnd k L i).map (·.1)
  | [], [], _, _ => rfl
  | [], _ :: _, _, h => by simp at h
  | _ :: _, [], _, h => by simp at h
  | (k1, v1) :: es, (k2, v2) :: L, i, h => by
    simp only [List.map_cons, List.cons.injEq] at h
    obtain ⟨rfl, h⟩ := h
    unfold fnd
    split
    · rfl
    · exact fnd_keys h
def entOf (k : κ) (es : List (κ × β)) (z : β) : List (κ × β) × Nat × β := match fnd k es 0 with
  | some (i, v) => (es, i, v)
  | none => (es ++ [(k, z)], es.length, z)
theorem entOf_at (k : κ) (es : List (κ × β)) (z : β) : (entOf k es z).1[(entOf k es z).2.1]? = some (k, (entOf k es z).2.2) := by
  unfold entOf
  split
  · rename_i i v h
    simpa using (fnd_some h).2
  · simp
theorem entOf_keys {γ : Type} (k : κ) (es : List (κ × β)) (L : List (κ × γ)) (z : β) (y : γ) (h : es.map (·.1) = L.map (·.1)) : (entOf k es z).1.map (·.1) = (entOf k L y).1.map (·.1) ∧ (entOf k es z).2.1 = (entOf k L y).2.1 := by
  have hk := fnd_keys (k := k) (i := 0) h
  have hl : es.length = L.length := by simpa using congrArg List.length h
  unfold entOf
  cases h1 : fnd k es 0 <;> cases h2 : fnd k L 0 <;> simp [h1, h2] at hk ⊢
  · exact ⟨h, hl⟩
  · exact ⟨h, hk⟩
def gAdd {α : Type} (k : κ) (x : α) (L : List (κ × List α)) : List (κ × List α) := (entOf k L []).1.set (entOf k L []).2.1 (k, (entOf k L []).2.2 ++ [x])
end
section
variable {κ : Type} [DecidableEq κ] (enc : κ → Value)
def ents : List (κ × Value) → Nat → List MapEntry
  | [], _ => []
  | (k, v) :: es, i => { key := enc k, val := v, born := i } :: ents es (i + 1)
def IsMap (w : World) (b : Nat) (es : List (κ × Value)) : Prop := w.heap[b]? = some (.map (ents enc es 0).toArray es.length)

variable {enc} {P : Program} {kt et mt : TypeId} {w : World} {b : Nat} {es : List (κ × Value)}
theorem IsMap.lt (h : IsMap enc w b es) : b < w.heap.size := (Array.getElem?_eq_some_iff.1 h).1
theorem IsMap.keep {w' : World} (h : IsMap enc w b es) (hb : w'.heap[b]? = w.heap[b]?) : IsMap enc w' b es := by unfold IsMap at *; rw [hb]; exact h
theorem IsMap.below {w' : World} (h : IsMap enc w b es) (hb : Below w.heap.size w w') : IsMap enc w' b es := h.keep (hb.block b h.lt)
theorem IsMap.grown {w' : World} {row : Option Nat} (h : IsMap enc w b es) (hb : w.grownBy w' row) (hr : row ≠ some b) : IsMap enc w' b es := h.keep (hb.block b h.lt (fun e => hr e.symm))
theorem IsMap.alloc (h : IsMap enc w b es) (o : Obj) : IsMap enc (w.alloc o) b es := h.below ((Below.refl _ _).alloc (Nat.le_refl _) _)
theorem IsMap.drew (h : IsMap enc w b es) : IsMap enc w.drew b es := h
variable {ops : Array Oper} {rest : List Oper} {o : Oper} {a : Act} {Q : Exit → Act → World → Prop}
def IsIter (w : World) (r b n : Nat) (seen : List Nat) : Prop := w.heap[r]? = some (.mapIter (some b) n seen.toArray n)
theorem IsIter.keep {w' : World} {r n : Nat} {seen : List Nat} (h : IsIter w r b n seen) (hb : w'.heap[r]? = w.heap[r]?) : IsIter w' r b n seen := by unfold IsIter at *; rw [hb]; exact h
theorem IsIter.lt {r n : Nat} {seen : List Nat} (h : IsIter w r b n seen) : r < w.heap.size := (Array.getElem?_eq_some_iff.1 h).1
end
end Go.Proofs.YtackinampfgklaaGreatDoor
set_option linter.unusedVariables false
set_option linter.unusedSectionVars false
set_option linter.unusedSimpArgs false
namespace Go.Proofs.YtackinampfgklaaGreatDoor
open Go.RowKit

section
variable {κ : Type} [DecidableEq κ] {enc : κ → Value}
structure Groups (w : World) (B : Nat) (e : TypeId) (es : List (κ × Value)) (L : List (κ × List Int)) : Prop where
  keys : es.map (·.1) = L.map (·.1)
  own : ∀ (i : Nat) k v k' l, es[i]? = some (k, v) → L[i]? = some (k', l) → w.ownsRow B e 1 v l.length (ints .i64 l)
  apart : ∀ (i j : Nat) p q, i ≠ j → es[i]? = some p → es[j]? = some q → p.2.ownBlock = none ∨ p.2.ownBlock ≠ q.2.ownBlock

theorem Groups.nil (w : World) (B : Nat) (e : TypeId) : Groups w B e ([] : List (κ × Value)) [] := ⟨rfl, by simp, by simp⟩
theorem Groups.len {w : World} {B : Nat} {e : TypeId} {es : List (κ × Value)} {L : List (κ × List Int)} (h : Groups w B e es L) : es.length = L.length := by simpa using congrArg List.length h.keys
theorem Groups.at_ {w : World} {B : Nat} {e : TypeId} {es : List (κ × Value)} {L : List (κ × List Int)} (h : Groups w B e es L) {i : Nat} {k : κ} {v : Value} (hi : es[i]? = some (k, v)) : ∃ l, L[i]? = some (k, l) := by
  have hlt : i < L.length := by rw [← h.len]; exact (List.getElem?_eq_some_iff.1 hi).1
  refine ⟨(L[i]).2, ?_⟩
  have hk : (es.map (·.1))[i]? = (L.map (·.1))[i]? := by rw [h.keys]
  simp only [List.getElem?_map, hi, List.getElem?_eq_getElem hlt, Option.map_some, Option.some.injEq] at hk
  rw [List.getElem?_eq_getElem hlt, hk]
theorem Groups.kept {w w' : World} {B : Nat} {e : TypeId} {es : List (κ × Value)} {L : List (κ × List Int)} (h : Groups w B e es L) {row : Option Nat} (hg : w.grownBy w' row) (hr : ∀ g, row = some g → g < B) : Groups w' B e es L :=
  ⟨h.keys, fun i k v k' l h1 h2 => (h.own i k v k' l h1 h2).kept hg (by
    cases hv : v.ownBlock with
    | none => exact .inl rfl
    | some g => exact .inr (fun e => by have := (h.own i k v k' l h1 h2).lt g hv; have := hr g e.symm; omega)), h.apart⟩
theorem Groups.below {w w' : World} {B : Nat} {e : TypeId} {es : List (κ × Value)} {L : List (κ × List Int)} (h : Groups w B e es L) (hb : Below w.heap.size w w') : Groups w' B e es L :=
  ⟨h.keys, fun i k v k' l h1 h2 => obelow (h.own i k v k' l h1 h2) hb, h.apart⟩
theorem Groups.entOf {w : World} {B : Nat} {e : TypeId} {es : List (κ × Value)} {L : List (κ × List Int)} (h : Groups w B e es L) (k : κ) : Groups w B e (entOf k es (.slice none 0 0)).1 (entOf k L []).1 := by
  have hk := fnd_keys (k := k) (i := 0) h.keys
  obtain ⟨hkk, _⟩ := entOf_keys k es L (.slice none 0 0) ([] : List Int) h.keys
  refine ⟨hkk, ?_, ?_⟩
  · unfold YtackinampfgklaaGreatDoor.entOf
    cases h1 : fnd k es 0 <;> cases h2 : fnd k L 0 <;> simp [h1, h2] at hk ⊢
    · intro i k1 v k2 l e1 e2
      rcases Nat.lt_or_ge i es.length with hlt | hge
      · rw [List.getElem?_append_left hlt] at e1
        rw [List.getElem?_append_left (by rw [← h.len]; exact hlt)] at e2
        exact h.own i k1 v k2 l e1 e2
      · have hi : i = es.length := by
          have := (List.getElem?_eq_some_iff.1 e1).1
          simp at this; omega
        subst hi
        simp at e1
        rw [h.len] at e2
        simp at e2
        obtain ⟨_, rfl⟩ := e1
        obtain ⟨_, rfl⟩ := e2
        exact World.ownsRow_nil _ _ _ _
    · exact h.own
  · unfold YtackinampfgklaaGreatDoor.entOf
    cases h1 : fnd k es 0 <;> simp only
    · intro i j p q hne e1 e2
      rcases Nat.lt_or_ge i es.length with hi | hi
      · rcases Nat.lt_or_ge j es.length with hj | hj
        · rw [List.getElem?_append_left hi] at e1
          rw [List.getElem?_append_left hj] at e2
          exact h.apart i j p q hne e1 e2
        · have hj' : j = es.length := by
            have := (List.getElem?_eq_some_iff.1 e2).1
            simp at this; omega
          subst hj'
          simp at e2
          subst e2
          cases hp : p.2.ownBlock <;> simp [Value.ownBlock]
      · have hi' : i = es.length := by
          have := (List.getElem?_eq_some_iff.1 e1).1
          simp at this; omega
        subst hi'
        simp at e1
        subst e1
        exact .inl rfl
    · exact h.apart
def groups {α : Type} (key : α → κ) (val : α → Int) (l : List α) : List (κ × List Int) := l.foldl (fun L x => gAdd (key x) (val x) L) []
def sel {α : Type} (key : α → κ) (val : α → Int) (k : κ) (l : List α) : List Int := (l.filter (fun x => decide (key x = k))).map val
structure GInv {α : Type} (key : α → κ) (val : α → Int) (l : List α) (L : List (κ × List Int)) : Prop where
  nodup : (L.map (·.1)).Nodup
  is : ∀ k m, (k, m) ∈ L → m = sel key val k l
  all : ∀ x ∈ l, key x ∈ L.map (·.1)
theorem sel_snoc {α : Type} (key : α → κ) (val : α → Int) (k : κ) (l : List α) (x : α) : sel key val k (l ++ [x]) = sel key val k l ++ if key x = k then [val x] else [] := by
  unfold sel; rw [List.filter_append, List.map_append]; by_cases h : key x = k <;> simp [h]
theorem gAdd_inv {α : Type} (key : α → κ) (val : α → Int) (l : List α) (L : List (κ × List Int)) (x : α) (h : GInv key val l L) : GInv key val (l ++ [x]) (gAdd (key x) (val x) L) := by
  have hsel : key x ∉ L.map (·.1) → sel key val (key x) l = [] := by
    intro hn
    unfold sel
    rw [List.map_eq_nil_iff, List.filter_eq_nil_iff]
    intro y hy he
    exact hn (by have := h.all y hy; rw [of_decide_eq_true he] at this; exact this)
  unfold gAdd entOf
  cases hf : fnd (key x) L 0 with
  | none =>
    have hn := fnd_none hf
    simp only [List.set_append_right _ _ (Nat.le_refl _), Nat.sub_self, List.set_cons_zero, List.nil_append]
    refine ⟨?_, ?_, ?_⟩
    · rw [List.map_append, List.nodup_append]
      refine ⟨h.nodup, by simp, ?_⟩
      intro a ha b hb
      simp at hb
      rintro rfl
      exact hn (by rw [hb] at ha; exact ha)
    · intro k m hm
      rw [sel_snoc]
      rcases List.mem_append.1 hm with hm | hm
      · have hk : key x ≠ k := by
          rintro rfl
          exact hn (List.mem_map.2 ⟨_, hm, rfl⟩)
        rw [if_neg hk, List.append_nil]
        exact h.is k m hm
      · simp at hm
        obtain ⟨rfl, rfl⟩ := hm
        rw [if_pos rfl, hsel hn]; rfl
    · intro y hy
      rw [List.map_append, List.mem_append]
      rcases List.mem_append.1 hy with hy | hy
      · exact .inl (h.all y hy)
      · simp at hy; subst hy; exact .inr (by simp)
  | some p =>
    obtain ⟨i, m0⟩ := p
    have hi := (fnd_some hf).2
    simp only [Nat.sub_zero] at hi
    have hlt := (List.getElem?_eq_some_iff.1 hi).1
    simp only
    have hkeys : (L.set i (key x, m0 ++ [val x])).map (·.1) = L.map (·.1) := by
      rw [List.map_set]
      have h1 : (L.map (·.1))[i]? = some (key x) := by simp [hi]
      obtain ⟨h2, h3⟩ := List.getElem?_eq_some_iff.1 h1
      conv => rhs; rw [← List.set_getElem_self h2]
      rw [h3]
    refine ⟨by rw [hkeys]; exact h.nodup, ?_, ?_⟩
    · intro k m hm
      obtain ⟨j, hj⟩ := List.mem_iff_getElem?.1 hm
      rw [sel_snoc]
      by_cases hji : j = i
      · subst hji
        rw [List.getElem?_set_self hlt] at hj
        simp at hj
        obtain ⟨rfl, rfl⟩ := hj
        rw [if_pos rfl, ← h.is _ _ (List.mem_of_getElem? hi)]
      · rw [List.getElem?_set_ne (Ne.symm hji)] at hj
        have hk : key x ≠ k := by
          rintro rfl
          have h1 : (L.map (·.1))[j]? = some (key x) := by simp [hj]
          have h2 : (L.map (·.1))[i]? = some (key x) := by simp [hi]
          have hjl := (List.getElem?_eq_some_iff.1 h1).1
          have := (List.getElem?_inj hjl h.nodup).1 (h1.trans h2.symm)
          exact hji this
        rw [if_neg hk, List.append_nil]
        exact h.is k m (List.mem_of_getElem? hj)
    · intro y hy
      rw [hkeys]
      rcases List.mem_append.1 hy with hy | hy
      · exact h.all y hy
      · simp at hy; subst hy
        exact List.mem_map.2 ⟨_, List.mem_of_getElem? hi, rfl⟩
theorem groups_inv {α : Type} (key : α → κ) (val : α → Int) (l : List α) : GInv key val l (groups key val l) := by
  have : ∀ (r l : List α) (L : List (κ × List Int)), GInv key val l L → GInv key val (l ++ r) (r.foldl (fun L x => gAdd (key x) (val x) L) L) := by
    intro r
    induction r with
    | nil => intro l L h; simpa using h
    | cons x r ih => intro l L h; rw [List.foldl_cons, show l ++ x :: r = (l ++ [x]) ++ r by simp]; exact ih _ _ (gAdd_inv key val l L x h)
  exact this l [] [] ⟨by simp, by simp, by simp⟩
theorem look_eq {β : Type} (k : κ) (es : List (κ × β)) (z : β) : ((fnd k es 0).map (·.2)).getD z = (entOf k es z).2.2 := by
  unfold entOf
  cases fnd k es 0 <;> rfl
theorem ent_sel {α : Type} {key : α → κ} {val : α → Int} {l : List α} {L : List (κ × List Int)} (h : GInv key val l L) (k : κ) : (entOf k L []).2.2 = sel key val k l := by
  unfold entOf
  cases hf : fnd k L 0 with
  | none =>
    have hn := fnd_none hf
    simp only
    symm
    unfold sel
    rw [List.map_eq_nil_iff, List.filter_eq_nil_iff]
    intro y hy he
    exact hn (by have := h.all y hy; rw [of_decide_eq_true he] at this; exact this)
  | some p =>
    obtain ⟨i, m⟩ := p
    have hi := (fnd_some hf).2
    exact h.is _ _ (List.mem_of_getElem? hi)
theorem Groups.look {α : Type} {key : α → κ} {val : α → Int} {l : List α} {w : World} {B : Nat} {e : TypeId} {es : List (κ × Value)} (h : Groups w B e es (groups key val l)) (k : κ) :
    w.ownsRow B e 1 (((fnd k es 0).map (·.2)).getD (.slice none 0 0)) (sel key val k l).length (ints .i64 (sel key val k l)) := by
  have h1 := h.entOf k
  have h2 := h1.own _ _ _ _ _ (entOf_at k es (Value.slice none 0 0)) (by rw [(entOf_keys k es (groups key val l) (Value.slice none 0 0) ([] : List Int) h.keys).2]; exact entOf_at k (groups key val l) ([] : List Int))
  rw [ent_sel (groups_inv key val l) k] at h2
  rw [look_eq]; exact h2
end
end Go.Proofs.YtackinampfgklaaGreatDoor
set_option linter.unusedVariables false
set_option linter.unusedSectionVars false
set_option linter.unusedSimpArgs false
namespace Go.Proofs.YtackinampfgklaaGreatDoor
open Go.RowKit

def evKey (x : Ev) : Int × Int := (x.it, x.tr)
def sorted (l : List Int) : List Int := l.mergeSort fun x y => decide (x ≤ y)
def i64r (x : Int) : Prop := -9223372036854775808 ≤ x ∧ x ≤ 9223372036854775807
def far (a b : Int) : Prop := a + 2 ≤ b ∨ b + 2 ≤ a
def apart (a b : Ev) : Prop := evKey a = evKey b → far a.wi b.wi
end Go.Proofs.YtackinampfgklaaGreatDoor
set_option linter.unusedVariables false
set_option linter.unusedSimpArgs false
namespace Go.AM
open Go Go.Proofs.YtackinampfgklaaGreatDoor
theorem Ar.getEv {S : St} {p : Option Addr} {n : Nat} {l : List Ev} (h : Ar S p n 6 Ev.cells l) {i : Nat} (hi : i < l.length) :
    ∃ a, p = some a ∧ S.cell (a.add (i * 6)) = some (vI l[i].it) ∧ S.cell ((a.add (i * 6)).add 1) = some (vI l[i].tr) ∧ S.cell ((a.add (i * 6)).add 2) = some (vI l[i].wi) ∧
      S.cell ((a.add (i * 6)).add 3) = some (vI l[i].ti) ∧ S.cell ((a.add (i * 6)).add 4) = some (vI l[i].ad) ∧ S.cell ((a.add (i * 6)).add 5) = some (vU l[i].ma) := by
  obtain ⟨a, h1, h2⟩ := h.2 i hi
  exact ⟨a, h1, by have := h2 0 _ rfl; rwa [add_zero_] at this, h2 1 _ rfl, h2 2 _ rfl, h2 3 _ rfl, h2 4 _ rfl, h2 5 _ rfl⟩
theorem take_eq_step {α : Type} {x y : List α} {j : Nat} (h : x.take j = y.take j) (hx : j < x.length) (hy : j < y.length) (he : x[j] = y[j]) : x.take (j + 1) = y.take (j + 1) := by
  rw [take_snoc hx, take_snoc hy, h, he]
end Go.AM
set_option linter.unusedVariables false
set_option linter.unusedSectionVars false
set_option linter.unusedSimpArgs false
namespace Go.Proofs.YtackinampfgklaaGreatDoor
open Go.RowKit

def Ev.nothing (x : Ev) (n : Int) : Bool := x.ma == 0 || decide (x.ad < 0) || decide (n ≤ x.ad)
def hit (ws : List Int) (x : Ev) : List Int := if x.nothing ws.length then ws else ws.set x.ad.toNat (bits .xor .u64 (ws.getD x.ad.toNat 0) x.ma)
def strike (l : List Ev) (ws : List Int) : List Int := l.foldl hit ws
theorem hit_len (ws : List Int) (x : Ev) : (hit ws x).length = ws.length := by unfold hit; split <;> simp
theorem strike_len (l : List Ev) : ∀ ws, (strike l ws).length = ws.length := by
  induction l with
  | nil => intro ws; rfl
  | cons x l ih => intro ws; show (strike l (hit ws x)).length = _; rw [ih, hit_len]


def u64r (x : Int) : Prop := 0 ≤ x ∧ x ≤ 18446744073709551615
abbrev xor64 (a b : Int) : Int := bits .xor .u64 a b
theorem xor_nat {a b : Int} (ha : u64r a) (hb : u64r b) : xor64 a b = ((a.toNat ^^^ b.toNat : Nat) : Int) := by
  obtain ⟨n, rfl⟩ := Int.eq_ofNat_of_zero_le ha.1
  obtain ⟨m, rfl⟩ := Int.eq_ofNat_of_zero_le hb.1
  have h1 := ha.2
  have h2 := hb.2
  unfold xor64
  rw [bits_xor_u64_nat n m (by omega) (by omega)]
  simp
theorem xor_r {a b : Int} (ha : u64r a) (hb : u64r b) : u64r (xor64 a b) := by
  rw [xor_nat ha hb]
  have h1 := ha.2
  have h2 := hb.2
  have := Nat.xor_lt_two_pow (x := a.toNat) (y := b.toNat) (n := 64) (by unfold u64r at *; omega) (by unfold u64r at *; omega)
  constructor <;> omega
theorem xor_comm3 {a b c : Int} (ha : u64r a) (hb : u64r b) (hc : u64r c) : xor64 (xor64 a b) c = xor64 (xor64 a c) b := by
  rw [xor_nat (xor_r ha hb) hc, xor_nat (xor_r ha hc) hb, xor_nat ha hb, xor_nat ha hc]
  simp only [Int.toNat_natCast, Nat.xor_assoc, Nat.xor_comm b.toNat]
theorem xor_self2 {a b : Int} (ha : u64r a) (hb : u64r b) : xor64 (xor64 a b) b = a := by
  rw [xor_nat (xor_r ha hb) hb, xor_nat ha hb]
  simp only [Int.toNat_natCast, Nat.xor_assoc, Nat.xor_self, Nat.xor_zero]
  unfold u64r at ha; omega
theorem xor_eq_iff {a b : Int} (ha : u64r a) (hb : u64r b) : xor64 a b = a ↔ b = 0 := by
  constructor
  · intro h
    have h1 := xor_self2 ha hb
    rw [h] at h1
    have h2 : xor64 a a = 0 := by rw [xor_nat ha ha]; simp
    have h3 := xor_self2 ha hb
    have h4 : xor64 (xor64 a b) a = b := by
      rw [xor_nat (xor_r ha hb) ha, xor_nat ha hb]
      simp only [Int.toNat_natCast]
      rw [Nat.xor_comm a.toNat, Nat.xor_assoc, Nat.xor_self, Nat.xor_zero]
      unfold u64r at hb; omega
    rw [h, h2] at h4
    exact h4.symm
  · rintro rfl
    rw [xor_nat ha hb]
    simp
    unfold u64r at ha; omega

def wsOk (ws : List Int) : Prop := ∀ x ∈ ws, u64r x
theorem getD_ok {ws : List Int} (h : wsOk ws) (i : Nat) : u64r (ws.getD i 0) := by
  rw [List.getD_eq_getElem?_getD]
  cases hx : ws[i]? with
  | none => simp [u64r]
  | some x => exact h x (List.mem_of_getElem? hx)
theorem hit_ok {ws : List Int} {x : Ev} (h : wsOk ws) (hx : u64r x.ma) : wsOk (hit ws x) := by
  unfold hit
  split
  · exact h
  · intro y hy
    rcases List.mem_or_eq_of_mem_set hy with hy | rfl
    · exact h y hy
    · exact xor_r (getD_ok h _) hx
theorem strike_ok (l : List Ev) : ∀ ws, wsOk ws → (∀ x ∈ l, u64r x.ma) → wsOk (strike l ws) := by
  induction l with
  | nil => intro ws h _; exact h
  | cons x l ih => intro ws h hl; exact ih _ (hit_ok h (hl x (by simp))) (fun y hy => hl y (by simp [hy]))
theorem hit_comm {ws : List Int} {x y : Ev} (h : wsOk ws) (hx : u64r x.ma) (hy : u64r y.ma) : hit (hit ws x) y = hit (hit ws y) x := by
  unfold hit
  by_cases h1 : x.nothing ws.length <;> by_cases h2 : y.nothing ws.length <;> simp only [h1, h2, if_true, if_false, List.length_set, Bool.false_eq_true]
  have hxr : x.ad.toNat < ws.length := by simp [Ev.nothing] at h1; omega
  have hyr : y.ad.toNat < ws.length := by simp [Ev.nothing] at h2; omega
  by_cases he : x.ad.toNat = y.ad.toNat
  · rw [he]
    simp only [List.getD_eq_getElem?_getD, List.getElem?_set_self hyr, Option.getD_some, List.set_set]
    congr 1
    have := xor_comm3 (getD_ok h y.ad.toNat) hx hy
    simpa [List.getD_eq_getElem?_getD] using this
  · simp only [List.getD_eq_getElem?_getD, List.getElem?_set_ne he, List.getElem?_set_ne (Ne.symm he)]
    rw [List.set_comm _ _ he]
end Go.Proofs.YtackinampfgklaaGreatDoor
