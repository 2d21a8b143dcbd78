/-
  Part of the proof of a law: arguments of a law. Conditions: none.
-/
import Derived.Test.YtackinampfgklaaDoorVA2
import Derived.Test.YtackinampfgklaaDoorVP1
import Derived.OpenShut
import Derived.Deep.Slices
import Derived.Deep.Fields
import Derived.SizedLaws
import Derived.WideLaws
import Derived.WideShapes
import Derived.ChangeArms
import Derived.ChangeShapes
set_option linter.unusedVariables false
set_option linter.unusedSectionVars false
set_option linter.unusedSimpArgs false
set_option linter.deprecated false
set_option linter.unusedVariables false
namespace Go.AM
open Go Go.RowKit Go.ChangeShapes Go.WideShapes Go.Deep

abbrev Fl := Option IntKind
inductive Lf where
  | fl (x : Fl)
  | sl (es : List Fl) (B : Nat)

def FlOk : Fl → Value → Prop
  | some k, v => ∃ x, v = .int k x ∧ (Lit.int k x).wf = true
  | none, v => ∃ b, v = .bool b

section
variable {H : Type} {enc : TypeId × Value → H} {P : Program} {w : World} {base : Nat} {spare : Nat → Bool} {held : Bool}

def Fits (P : Program) (t : TypeId) (d : DataW H) : Prop := ∀ n ∈ d.weights P t, n ≤ reachBytes

end

def U8 (G : List (Nat × Obj)) : Prop := ∀ p ∈ G, ∃ c e z, p.2 = .cells c e z ∧ ∀ v ∈ c, ∃ n, v = Value.int .u8 n
def LV (S : St) : Lf → Value → Prop
  | .fl x, v => FlOk x v
  | .sl es B, v => ∃ a n c, v = .slice a n c ∧ n ≤ c ∧ n * B ≤ reachBytes ∧ ∀ i, i < n → ∃ x, a = some x ∧ ∀ (j : Nat) l, es[j]? = some l → ∃ u, S.cell ((x.add (i * es.length)).add j) = some u ∧ FlOk l u

theorem LV.listC {α : Type} {S : St} {es : List Fl} {B : Nat} {u : Value} (h : LV S (.sl es B) u) (e : α → List Value) (Pα : α → Prop) (hw : ∀ x, (e x).length = es.length)
    (dec : ∀ c : List Value, c.length = es.length → (∀ (j : Nat) l v, es[j]? = some l → c[j]? = some v → FlOk l v) → ∃ x, Pα x ∧ e x = c) :
    ∃ a c l, u = .slice a l.length c ∧ l.length ≤ c ∧ l.length * B ≤ reachBytes ∧ Ar S a l.length es.length e l ∧ ∀ x ∈ l, Pα x := by
  obtain ⟨a, n, c, rfl, hnc, hB, hi⟩ := h
  have h' : ∀ i : Fin n, ∃ x : α, Pα x ∧ ∀ y, a = some y → ∀ (j : Nat) v, (e x)[j]? = some v → S.cell ((y.add (i * es.length)).add j) = some v := fun i => by
    obtain ⟨y, hy, hat⟩ := hi i i.2
    have hc : ∃ c : List Value, c.length = es.length ∧ ∀ (j : Nat) l, es[j]? = some l → ∃ v, c[j]? = some v ∧ S.cell ((y.add (i * es.length)).add j) = some v ∧ FlOk l v := by
      let f : Fin es.length → Value := fun j => Classical.choose (hat j (es[j]) (List.getElem?_eq_getElem j.2))
      have hf := fun j : Fin es.length => Classical.choose_spec (hat j (es[j]) (List.getElem?_eq_getElem j.2))
      refine ⟨List.ofFn f, by simp, fun j l hj => ?_⟩
      have hjl : j < es.length := (List.getElem?_eq_some_iff.1 hj).1
      have hl : es[j] = l := (List.getElem?_eq_some_iff.1 hj).2
      refine ⟨f ⟨j, hjl⟩, by simp [hjl], (hf ⟨j, hjl⟩).1, ?_⟩
      have := (hf ⟨j, hjl⟩).2
      rw [← hl]; exact this
    obtain ⟨c, hcl, hcc⟩ := hc
    obtain ⟨x, hPx, hx⟩ := dec c hcl (fun j l v hj hv => by
      obtain ⟨v', h1, _, h3⟩ := hcc j l hj
      rw [hv] at h1; cases h1; exact h3)
    refine ⟨x, hPx, fun y' hy' j v hv => ?_⟩
    rw [hy] at hy'; cases hy'
    rw [hx] at hv
    have hjl : j < es.length := by rw [← hcl]; exact (List.getElem?_eq_some_iff.1 hv).1
    obtain ⟨v', h1, h2, _⟩ := hcc j es[j] (List.getElem?_eq_getElem hjl)
    rw [hv] at h1; cases h1; exact h2
  let g : Fin n → α := fun i => Classical.choose (h' i)
  have hg := fun i => Classical.choose_spec (h' i)
  have hl : (List.ofFn g).length = n := by simp
  refine ⟨a, c, List.ofFn g, by rw [hl], by rw [hl]; exact hnc, by rw [hl]; exact hB, ⟨rfl, fun i hin => ?_⟩, fun x hx => ?_⟩
  · rw [hl] at hin
    obtain ⟨y, hy, _⟩ := hi i hin
    refine ⟨y, hy, fun j v hv => ?_⟩
    have := (hg ⟨i, hin⟩).2 y hy j v
    exact this (by simpa using hv)
  · obtain ⟨i, rfl⟩ := List.mem_ofFn.1 hx
    exact (hg i).1
theorem LV.list {α : Type} {S : St} {es : List Fl} {B : Nat} {u : Value} (h : LV S (.sl es B) u) (e : α → List Value) (Pα : α → Prop) (hw : ∀ x, (e x).length = es.length)
    (dec : ∀ c : List Value, c.length = es.length → (∀ (j : Nat) l v, es[j]? = some l → c[j]? = some v → FlOk l v) → ∃ x, Pα x ∧ e x = c) :
    ∃ a c l, u = .slice a l.length c ∧ l.length * B ≤ reachBytes ∧ Ar S a l.length es.length e l ∧ ∀ x ∈ l, Pα x := by
  obtain ⟨a, c, l, h1, _, h2⟩ := h.listC e Pα hw dec
  exact ⟨a, c, l, h1, h2⟩
end Go.AM
set_option linter.unusedVariables false
namespace Go.AM
open Go
variable {S : St} {B : Nat} {u : Value}
theorem wf_u64 {n : Int} (h : (Lit.int .u64 n).wf = true) : 0 ≤ n ∧ n < 18446744073709551616 := by
  simp [Lit.wf, IntKind.min, IntKind.max, IntKind.signed, IntKind.bits] at h
  omega
theorem wf_i64 {n : Int} (h : (Lit.int .i64 n).wf = true) : -9223372036854775808 ≤ n ∧ n < 9223372036854775808 := by
  simp [Lit.wf, IntKind.min, IntKind.max, IntKind.signed, IntKind.bits] at h
  omega
def u64p (x : Int) : Prop := 0 ≤ x ∧ x < 18446744073709551616
def i64p (x : Int) : Prop := -9223372036854775808 ≤ x ∧ x < 9223372036854775808
def axR (a : Ax) : Prop := i64p a.N
theorem LV.axes (h : LV S (.sl [some .i64, none] B) u) : ∃ a c l, u = .slice a l.length c ∧ l.length * B ≤ reachBytes ∧ Ar S a l.length 2 eAx l ∧ ∀ x ∈ l, axR x :=
  h.list eAx axR (fun _ => rfl) fun c hc hat => by
    match c, hc with
    | [v, v'], _ =>
      obtain ⟨x, rfl, hw⟩ := hat 0 _ v rfl rfl
      obtain ⟨b, rfl⟩ := hat 1 _ v' rfl rfl
      exact ⟨⟨x, b⟩, wf_i64 hw, rfl⟩
theorem LV.u64 (h : LV S (.fl (some .u64)) u) : ∃ x, u = .int .u64 x ∧ u64p x := by
  obtain ⟨x, rfl, hw⟩ := h; exact ⟨x, rfl, wf_u64 hw⟩
theorem LV.i64 (h : LV S (.fl (some .i64)) u) : ∃ x, u = .int .i64 x ∧ i64p x := by
  obtain ⟨x, rfl, hw⟩ := h; exact ⟨x, rfl, wf_i64 hw⟩
theorem LV.bool (h : LV S (.fl none) u) : ∃ b, u = .bool b := h
end Go.AM
