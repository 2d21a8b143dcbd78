import Derived.Test.YtcilfgedcnehfaaDoorQParts
import Derived.Test.YtcilfgedcnehfaaDoorRows
import Derived.ChangeSame
import Derived.ChangeVars
import Derived.JoinedOf
import Derived.RowKit
import Derived.LaidLaws
import Derived.LaidHandle
import Derived.WideLaws
import Derived.ProofKit
import Derived.OpenShut
import Derived.ChangeOld
import Derived.SizedLaws
import Derived.Deep.Slices
import Derived.Deep.Fields
set_option linter.unusedVariables false
set_option linter.unusedSectionVars false
set_option linter.unusedSimpArgs false
namespace Go.Proofs.YtcilfgedcnehfaaDoor
open Go.ChangeShapes Go.WideShapes Go.ChangeAt Go.RowKit Go.Deep

/-! ### What cells a value of a type has, and how they read -/
theorem add_addr (b o j : Nat) : (⟨b, o, none⟩ : Addr).add j = ⟨b, o + j, none⟩ := by unfold Addr.add; split <;> simp_all
abbrev Lf := Sum (Option IntKind) TypeId
@[reducible] def Lf.int (k : IntKind) : Lf := .inl (some k)
@[reducible] def Lf.bool : Lf := .inl none
@[reducible] def Lf.slice (t : TypeId) : Lf := .inr t

def fieldLeafs (P : Program) (g : TypeId → Option (List Lf)) : List Field → Nat → Option (List Lf)
  | [], _ => some []
  | f :: fs, off => if f.offset = off then
      match g f.type with
      | some ls => if P.cellsOf f.type = ls.length then (fieldLeafs P g fs (off + ls.length)).map (ls ++ ·) else none
      | none => none
    else none
def leafs (P : Program) : Nat → TypeId → Option (List Lf)
  | 0, _ => none
  | n + 1, t => match P.underlying t with
    | some (.int k) => some [Lf.int k]
    | some .bool => some [Lf.bool]
    | some (.slice _) => some [Lf.slice t]
    | some (.struct fs) => fieldLeafs P (leafs P n) fs.toList 0
    | _ => none

section
variable {H : Type} (enc : TypeId × Value → H) (P : Program) (w : World) (base : Nat) (spare : Nat → Bool) (held : Bool)
def LfAt : Lf → Value → Prop
  | .inl (some k), v => ∃ x, v = .int k x ∧ (Lit.int k x).wf = true
  | .inl none, v => ∃ b, v = .bool b
  | .inr t, v => ∃ m y, DataW.trod enc P w base spare held m t [v] = some y

theorem field_leafs {g : TypeId → Option (List Lf)} {cs : List Value} {n : Nat}
    (hg : ∀ t ls cs' y, g t = some ls → P.cellsOf t = ls.length → DataW.trod enc P w base spare held n t cs' = some y → cs'.length = ls.length ∧ ∀ (j : Nat) l, ls[j]? = some l → ∃ v, cs'[j]? = some v ∧ LfAt enc P w base spare held l v) :
    ∀ (fs : List Field) (off k : Nat) (ls : List Lf), fieldLeafs P g fs off = some ls → (∀ (i : Nat) (f : Field), fs[i]? = some f → ∃ y, DataW.trod enc P w base spare held n f.type ((cs.drop f.offset).take (P.cellsOf f.type)) = some y) →
      ∀ (j : Nat) l, ls[j]? = some l → ∃ v, cs[off + j]? = some v ∧ LfAt enc P w base spare held l v
  | [], off, k, ls, h, _, j, l, hl => by
    simp only [fieldLeafs, Option.some.injEq] at h
    subst h
    simp at hl
  | f :: fs, off, k, ls, h, hf, j, l, hl => by
    unfold fieldLeafs at h
    split at h
    · rename_i ho
      split at h
      · rename_i l0 hg0
        split at h
        · rename_i hc
          obtain ⟨l1, h1, rfl⟩ := Option.map_eq_some_iff.1 h
          obtain ⟨y, hy⟩ := hf 0 f rfl
          obtain ⟨hlen, hat⟩ := hg _ _ _ _ hg0 hc hy
          by_cases hj : j < l0.length
          · rw [List.getElem?_append_left hj] at hl
            obtain ⟨v, hv, hva⟩ := hat j l hl
            refine ⟨v, ?_, hva⟩
            rw [List.getElem?_take] at hv
            split at hv
            · rw [List.getElem?_drop, ho] at hv; exact hv
            · cases hv
          · rw [List.getElem?_append_right (by omega)] at hl
            obtain ⟨v, hv, hva⟩ := field_leafs hg fs (off + l0.length) k l1 h1 (fun i f' hi => hf (i + 1) f' (by simpa using hi)) (j - l0.length) l hl
            refine ⟨v, ?_, hva⟩
            rw [← hv]; congr 1; omega
        · cases h
      · cases h
    · cases h

theorem leafs_trod : ∀ (k : Nat) (t : TypeId) (ls : List Lf) (n : Nat) (cs : List Value) (y : DataW H × List MemPlace), leafs P k t = some ls → P.cellsOf t = ls.length → DataW.trod enc P w base spare held n t cs = some y →
    cs.length = ls.length ∧ ∀ (j : Nat) l, ls[j]? = some l → ∃ v, cs[j]? = some v ∧ LfAt enc P w base spare held l v := by
  intro k
  induction k with
  | zero => intro t ls n cs y h; simp [leafs] at h
  | succ k ih =>
    intro t ls n cs y h hc ht
    unfold leafs at h
    split at h
    · rename_i kk hu
      simp only [Option.some.injEq] at h; subst h
      obtain ⟨x, rfl, _, hw⟩ := DataW.trod_int hu ht
      exact ⟨rfl, fun j l hl => by
        match j with
        | 0 => simp at hl; subst hl; exact ⟨_, rfl, x, rfl, hw⟩
        | j + 1 => simp at hl⟩
    · rename_i hu
      simp only [Option.some.injEq] at h; subst h
      obtain ⟨x, rfl, _⟩ := DataW.trod_bool hu ht
      exact ⟨rfl, fun j l hl => by
        match j with
        | 0 => simp at hl; subst hl; exact ⟨_, rfl, x, rfl⟩
        | j + 1 => simp at hl⟩
    · rename_i e hu
      simp only [Option.some.injEq] at h; subst h
      have ht' := ht
      rcases open_slice hu ht with ⟨rfl, _⟩ | ⟨a, len, cap, m, n', D, Pl, rfl, _⟩
      all_goals exact ⟨rfl, fun j l hl => by
        match j with
        | 0 => simp at hl; subst hl; exact ⟨_, rfl, n, y, ht'⟩
        | j + 1 => simp at hl⟩
    · rename_i fs hu
      obtain ⟨xs, n', rfl, _, hlen, hxl, hf⟩ := DataW.trod_struct hu ht
      refine ⟨hlen.trans hc, fun j l hl => ?_⟩
      have := field_leafs enc P w base spare held (g := leafs P k) (cs := cs) (n := n') ?_ fs.toList 0 0 ls h (fun i f hi => ?_) j l hl
      · simpa using this
      · exact fun t' ls' cs' y' h1 hcc h2 => ih t' ls' n' cs' y' h1 hcc h2
      · have hi' : fs[i]? = some f := by simpa using hi
        have hx : i < xs.length := by rw [hxl]; exact (Array.getElem?_eq_some_iff.1 hi').1
        exact ⟨xs[i], (hf i f hi').trans (List.getElem?_eq_getElem hx)⟩
    · cases h
end

section
variable {H : Type} {enc : TypeId × Value → H} {P : Program} {W : World} {base : Nat} {spare : Nat → Bool} {held : Bool}
/-- an argument that is a slice: cell by cell -/
theorem open_cells {t e : TypeId} {v : Value} {d : DataW H} {p : List MemPlace} {ls : List Lf} {k B : Nat} (ht : P.underlying t = some (.slice e)) (hl : leafs P k e = some ls) (hc : P.cellsOf e = ls.length) (hB : P.bytesOf e = B) (hne : 0 < ls.length)
    {r : Reach} {b0 : Nat} (hv : Value.okWide P W r b0 t v) (h : DataW.Trod enc P W base spare held t v d p)
    {ts : List TypeId} {ds : List (DataW H)} {q : Nat} (hsz : (DataW.weightsEach P ts ds).all (· ≤ reachBytes) = true) (hts : ts[q]? = some t) (hds : ds[q]? = some d) :
    ∃ A n c, v = .slice A n c ∧ n ≤ c ∧ n * B ≤ 140737488351232 ∧ (0 < n → ∃ b o, A = some ⟨b, o, none⟩ ∧ b < W.heap.size) ∧
      ∀ i, i < n → ∃ b o, A = some ⟨b, o, none⟩ ∧ ∀ (j : Nat) l, ls[j]? = some l → ∃ u, W.cell? ⟨b, o + (i * ls.length + j), none⟩ = some u ∧ LfAt enc P W base spare held l u := by
  obtain ⟨A, n, c, rfl⟩ := okWide_slice ht hv
  obtain ⟨fuel, hf⟩ := h
  rcases open_slice ht hf with ⟨hcs, _⟩ | ⟨a, len, cap, m, n', D, Pl, hcs, hb, hlc, hm, hmm, hx, hi⟩
  · simp [Value.cells] at hcs
    obtain ⟨rfl, rfl, rfl⟩ := hcs
    exact ⟨none, 0, 0, rfl, Nat.le_refl _, by simp, fun h => absurd h (by omega), fun i h => absurd h (by omega)⟩
  · simp [Value.cells] at hcs
    obtain ⟨rfl, rfl, rfl⟩ := hcs
    have hnm : n ≤ m := by rw [hmm]; split <;> omega
    have hsp : 0 < n → a.spot = none ∧ a.block < W.heap.size := by
      intro h0
      obtain ⟨cs', hcells, ht'⟩ := hi 0 (by omega)
      obtain ⟨hlen, hat⟩ := leafs_trod enc P W base spare held k e ls n' cs' _ hl hc ht'
      obtain ⟨_, hcl, hcat⟩ := World.cells?_some hcells
      rw [hc] at hcat
      obtain ⟨u, hu, _⟩ := hat 0 (ls[0]'hne) (List.getElem?_eq_getElem hne)
      have h0 := (hcat 0 hne).trans hu
      have ea : (a.add (0 * P.cellsOf e)).add 0 = a := by simp [Addr.add]
      rw [hc] at ea
      rw [ea] at h0
      refine ⟨?_, World.block_lt_of_cell? W a h0⟩
      unfold World.cell? at h0
      split at h0
      · split at h0
        · cases h0
        · rename_i hs; simpa using hs
      · cases h0
    have hel : ∀ i, i < n → ∃ b o, (some a : Option Addr) = some ⟨b, o, none⟩ ∧ ∀ (j : Nat) l, ls[j]? = some l → ∃ u, W.cell? ⟨b, o + (i * ls.length + j), none⟩ = some u ∧ LfAt enc P W base spare held l u := by
      intro i hin
      obtain ⟨cs', hcells, ht'⟩ := hi i (by omega)
      obtain ⟨hlen, hat⟩ := leafs_trod enc P W base spare held k e ls n' cs' _ hl hc ht'
      obtain ⟨_, hcl, hcat⟩ := World.cells?_some hcells
      rw [hc] at hcat
      have hs := (hsp (by omega)).1
      obtain ⟨b, o, s⟩ := a
      simp only at hs
      subst hs
      refine ⟨b, o, rfl, fun j l hj => ?_⟩
      obtain ⟨u, hu, hlf⟩ := hat j l hj
      have hjl : j < ls.length := (List.getElem?_eq_some_iff.1 hj).1
      refine ⟨u, ?_, hlf⟩
      have h0 := (hcat j hjl).trans hu
      rw [add_addr, add_addr] at h0
      rw [← Nat.add_assoc]; exact h0
    refine ⟨some a, n, c, rfl, hlc, ?_, fun h0 => ?_, hel⟩
    · obtain ⟨hd, _⟩ := Prod.mk.inj hx
      subst hd
      have z := sized_slice hsz hts hds ht
      rw [hB] at z
      refine Nat.le_trans (Nat.mul_le_mul_right _ ?_) z
      simp
    · obtain ⟨hs, hb⟩ := hsp h0
      obtain ⟨b, o, s⟩ := a
      simp only at hs
      subst hs
      exact ⟨b, o, rfl, hb⟩
end

end Go.Proofs.YtcilfgedcnehfaaDoor
