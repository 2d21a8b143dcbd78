import Derived.Test.YtcilfgedcnehfaaB
import Derived.ProofKit
import Derived.OpenShut
import Derived.ChangeOld
import Derived.SizedLaws
import Derived.Deep.Slices
import Derived.Deep.Fields
set_option linter.unusedVariables false
set_option linter.unusedSectionVars false
set_option linter.unusedSimpArgs false
namespace Go.Proofs.Ytcilfgedcnehfaa
open Go.ChangeShapes Go.WideShapes Go.ChangeAt Go.RowKit Go.Deep

/-! ### What cells a value of a type has, and how they read -/
abbrev Lf := Sum (Option IntKind) TypeId
@[reducible] def Lf.int (k : IntKind) : Lf := .inl (some k)
@[reducible] def Lf.bool : Lf := .inl none
@[reducible] def Lf.slice (t : TypeId) : Lf := .inr t

def fieldLeafs (P : Program) (g : TypeId → Option (List Lf)) : List Field → Nat → Option (List Lf)
  | [], _ => some []
  | f :: fs, off => if f.offset = off then
      match g f.type with
      | some ls => if P.cellsOf f.type = ls.length then (fieldLeafs P g fs (off + ls.length)).map (ls ++ ·) else none
      | none => none
    else none
def leafs (P : Program) : Nat → TypeId → Option (List Lf)
  | 0, _ => none
  | n + 1, t => match P.underlying t with
    | some (.int k) => some [Lf.int k]
    | some .bool => some [Lf.bool]
    | some (.slice _) => some [Lf.slice t]
    | some (.struct fs) => fieldLeafs P (leafs P n) fs.toList 0
    | _ => none

section
variable {H : Type} (enc : TypeId × Value → H) (P : Program) (w : World) (base : Nat) (spare : Nat → Bool) (held : Bool)
def LfAt : Lf → Value → Prop
  | .inl (some k), v => ∃ x, v = .int k x ∧ (Lit.int k x).wf = true
  | .inl none, v => ∃ b, v = .bool b
  | .inr t, v => ∃ m y, DataW.trod enc P w base spare held m t [v] = some y

theorem field_leafs {g : TypeId → Option (List Lf)} {cs : List Value} {n : Nat}
    (hg : ∀ t ls cs' y, g t = some ls → P.cellsOf t = ls.length → DataW.trod enc P w base spare held n t cs' = some y → cs'.length = ls.length ∧ ∀ (j : Nat) l, ls[j]? = some l → ∃ v, cs'[j]? = some v ∧ LfAt enc P w base spare held l v) :
    ∀ (fs : List Field) (off k : Nat) (ls : List Lf), fieldLeafs P g fs off = some ls → (∀ (i : Nat) (f : Field), fs[i]? = some f → ∃ y, DataW.trod enc P w base spare held n f.type ((cs.drop f.offset).take (P.cellsOf f.type)) = some y) →
      ∀ (j : Nat) l, ls[j]? = some l → ∃ v, cs[off + j]? = some v ∧ LfAt enc P w base spare held l v
  | [], off, k, ls, h, _, j, l, hl => by
    simp only [fieldLeafs, Option.some.injEq] at h
    subst h
    simp at hl
  | f :: fs, off, k, ls, h, hf, j, l, hl => by
    unfold fieldLeafs at h
    split at h
    · rename_i ho
      split at h
      · rename_i l0 hg0
        split at h
        · rename_i hc
          obtain ⟨l1, h1, rfl⟩ := Option.map_eq_some_iff.1 h
          obtain ⟨y, hy⟩ := hf 0 f rfl
          obtain ⟨hlen, hat⟩ := hg _ _ _ _ hg0 hc hy
          by_cases hj : j < l0.length
          · rw [List.getElem?_append_left hj] at hl
            obtain ⟨v, hv, hva⟩ := hat j l hl
            refine ⟨v, ?_, hva⟩
            rw [List.getElem?_take] at hv
            split at hv
            · rw [List.getElem?_drop, ho] at hv; exact hv
            · cases hv
          · rw [List.getElem?_append_right (by omega)] at hl
            obtain ⟨v, hv, hva⟩ := field_leafs hg fs (off + l0.length) k l1 h1 (fun i f' hi => hf (i + 1) f' (by simpa using hi)) (j - l0.length) l hl
            refine ⟨v, ?_, hva⟩
            rw [← hv]; congr 1; omega
        · cases h
      · cases h
    · cases h

theorem leafs_trod : ∀ (k : Nat) (t : TypeId) (ls : List Lf) (n : Nat) (cs : List Value) (y : DataW H × List MemPlace), leafs P k t = some ls → P.cellsOf t = ls.length → DataW.trod enc P w base spare held n t cs = some y →
    cs.length = ls.length ∧ ∀ (j : Nat) l, ls[j]? = some l → ∃ v, cs[j]? = some v ∧ LfAt enc P w base spare held l v := by
  intro k
  induction k with
  | zero => intro t ls n cs y h; simp [leafs] at h
  | succ k ih =>
    intro t ls n cs y h hc ht
    unfold leafs at h
    split at h
    · rename_i kk hu
      simp only [Option.some.injEq] at h; subst h
      obtain ⟨x, rfl, _, hw⟩ := DataW.trod_int hu ht
      exact ⟨rfl, fun j l hl => by
        match j with
        | 0 => simp at hl; subst hl; exact ⟨_, rfl, x, rfl, hw⟩
        | j + 1 => simp at hl⟩
    · rename_i hu
      simp only [Option.some.injEq] at h; subst h
      obtain ⟨x, rfl, _⟩ := DataW.trod_bool hu ht
      exact ⟨rfl, fun j l hl => by
        match j with
        | 0 => simp at hl; subst hl; exact ⟨_, rfl, x, rfl⟩
        | j + 1 => simp at hl⟩
    · rename_i e hu
      simp only [Option.some.injEq] at h; subst h
      have ht' := ht
      rcases open_slice hu ht with ⟨rfl, _⟩ | ⟨a, len, cap, m, n', D, Pl, rfl, _⟩
      all_goals exact ⟨rfl, fun j l hl => by
        match j with
        | 0 => simp at hl; subst hl; exact ⟨_, rfl, n, y, ht'⟩
        | j + 1 => simp at hl⟩
    · rename_i fs hu
      obtain ⟨xs, n', rfl, _, hlen, hxl, hf⟩ := DataW.trod_struct hu ht
      refine ⟨hlen.trans hc, fun j l hl => ?_⟩
      have := field_leafs enc P w base spare held (g := leafs P k) (cs := cs) (n := n') ?_ fs.toList 0 0 ls h (fun i f hi => ?_) j l hl
      · simpa using this
      · exact fun t' ls' cs' y' h1 hcc h2 => ih t' ls' n' cs' y' h1 hcc h2
      · have hi' : fs[i]? = some f := by simpa using hi
        have hx : i < xs.length := by rw [hxl]; exact (Array.getElem?_eq_some_iff.1 hi').1
        exact ⟨xs[i], (hf i f hi').trans (List.getElem?_eq_getElem hx)⟩
    · cases h
end

section
variable {H : Type} {enc : TypeId × Value → H} {P : Program} {W : World} {base : Nat} {spare : Nat → Bool} {held : Bool}
/-- an argument that is a slice: cell by cell -/
theorem open_cells {t e : TypeId} {v : Value} {d : DataW H} {p : List MemPlace} {ls : List Lf} {k B : Nat} (ht : P.underlying t = some (.slice e)) (hl : leafs P k e = some ls) (hc : P.cellsOf e = ls.length) (hB : P.bytesOf e = B) (hne : 0 < ls.length)
    {r : Reach} {b0 : Nat} (hv : Value.okWide P W r b0 t v) (h : DataW.Trod enc P W base spare held t v d p)
    {ts : List TypeId} {ds : List (DataW H)} {q : Nat} (hsz : (DataW.weightsEach P ts ds).all (· ≤ reachBytes) = true) (hts : ts[q]? = some t) (hds : ds[q]? = some d) :
    ∃ A n c, v = .slice A n c ∧ n ≤ c ∧ n * B ≤ 140737488351232 ∧ (0 < n → ∃ b o, A = some ⟨b, o, none⟩ ∧ b < W.heap.size) ∧
      ∀ i, i < n → ∃ b o, A = some ⟨b, o, none⟩ ∧ ∀ (j : Nat) l, ls[j]? = some l → ∃ u, W.cell? ⟨b, o + (i * ls.length + j), none⟩ = some u ∧ LfAt enc P W base spare held l u := by
  obtain ⟨A, n, c, rfl⟩ := okWide_slice ht hv
  obtain ⟨fuel, hf⟩ := h
  rcases open_slice ht hf with ⟨hcs, _⟩ | ⟨a, len, cap, m, n', D, Pl, hcs, hb, hlc, hm, hmm, hx, hi⟩
  · simp [Value.cells] at hcs
    obtain ⟨rfl, rfl, rfl⟩ := hcs
    exact ⟨none, 0, 0, rfl, Nat.le_refl _, by simp, fun h => absurd h (by omega), fun i h => absurd h (by omega)⟩
  · simp [Value.cells] at hcs
    obtain ⟨rfl, rfl, rfl⟩ := hcs
    have hnm : n ≤ m := by rw [hmm]; split <;> omega
    have hsp : 0 < n → a.spot = none ∧ a.block < W.heap.size := by
      intro h0
      obtain ⟨cs', hcells, ht'⟩ := hi 0 (by omega)
      obtain ⟨hlen, hat⟩ := leafs_trod enc P W base spare held k e ls n' cs' _ hl hc ht'
      obtain ⟨_, hcl, hcat⟩ := World.cells?_some hcells
      rw [hc] at hcat
      obtain ⟨u, hu, _⟩ := hat 0 (ls[0]'hne) (List.getElem?_eq_getElem hne)
      have h0 := (hcat 0 hne).trans hu
      have ea : (a.add (0 * P.cellsOf e)).add 0 = a := by simp [Addr.add]
      rw [hc] at ea
      rw [ea] at h0
      refine ⟨?_, World.block_lt_of_cell? W a h0⟩
      unfold World.cell? at h0
      split at h0
      · split at h0
        · cases h0
        · rename_i hs; simpa using hs
      · cases h0
    have hel : ∀ i, i < n → ∃ b o, (some a : Option Addr) = some ⟨b, o, none⟩ ∧ ∀ (j : Nat) l, ls[j]? = some l → ∃ u, W.cell? ⟨b, o + (i * ls.length + j), none⟩ = some u ∧ LfAt enc P W base spare held l u := by
      intro i hin
      obtain ⟨cs', hcells, ht'⟩ := hi i (by omega)
      obtain ⟨hlen, hat⟩ := leafs_trod enc P W base spare held k e ls n' cs' _ hl hc ht'
      obtain ⟨_, hcl, hcat⟩ := World.cells?_some hcells
      rw [hc] at hcat
      have hs := (hsp (by omega)).1
      obtain ⟨b, o, s⟩ := a
      simp only at hs
      subst hs
      refine ⟨b, o, rfl, fun j l hj => ?_⟩
      obtain ⟨u, hu, hlf⟩ := hat j l hj
      have hjl : j < ls.length := (List.getElem?_eq_some_iff.1 hj).1
      refine ⟨u, ?_, hlf⟩
      have h0 := (hcat j hjl).trans hu
      rw [add_addr, add_addr] at h0
      rw [← Nat.add_assoc]; exact h0
    refine ⟨some a, n, c, rfl, hlc, ?_, fun h0 => ?_, hel⟩
    · obtain ⟨hd, _⟩ := Prod.mk.inj hx
      subst hd
      have z := sized_slice hsz hts hds ht
      rw [hB] at z
      refine Nat.le_trans (Nat.mul_le_mul_right _ ?_) z
      simp
    · obtain ⟨hs, hb⟩ := hsp h0
      obtain ⟨b, o, s⟩ := a
      simp only at hs
      subst hs
      exact ⟨b, o, rfl, hb⟩
end

section
variable {H : Type} {enc : TypeId × Value → H} {P : Program} {W : World} {base : Nat} {spare : Nat → Bool} {held : Bool}
/-- a list of structs is read, struct by struct -/
theorem rd_of_elems {α : Type} (f : α → List Value) (s : Nat) (hf : ∀ x, (f x).length = s) (w : World) (A : Option Addr) (n : Nat) (hn : n ≤ 140737488355328) (hA : 0 < n → ∃ b o, A = some ⟨b, o, none⟩ ∧ b < w.heap.size) (Good : α → Prop)
    (h : ∀ i, i < n → ∃ b o x, A = some ⟨b, o, none⟩ ∧ Good x ∧ ∀ (j : Nat) u, (f x)[j]? = some u → w.cell? ⟨b, o + (i * s + j), none⟩ = some u) :
    ∃ l : List α, l.length = n ∧ Rd w s A n (l.flatMap f) ∧ ∀ x ∈ l, Good x := by
  have h' : ∀ i : Fin n, ∃ x, Good x ∧ ∀ b o, A = some ⟨b, o, none⟩ → ∀ (j : Nat) u, (f x)[j]? = some u → w.cell? ⟨b, o + (i * s + j), none⟩ = some u := fun i => by
    obtain ⟨b, o, x, e, hg, hx⟩ := h i i.2
    exact ⟨x, hg, fun b' o' e' => by rw [e] at e'; injection e' with e'; injection e' with e1 e2; subst e1; subst e2; exact hx⟩
  let g : Fin n → α := fun i => Classical.choose (h' i)
  have hg : ∀ i, Good (g i) ∧ ∀ b o, A = some ⟨b, o, none⟩ → ∀ (j : Nat) u, (f (g i))[j]? = some u → w.cell? ⟨b, o + (i * s + j), none⟩ = some u := fun i => Classical.choose_spec (h' i)
  refine ⟨List.ofFn g, by simp, ⟨by rw [flat_len f s hf]; simp, hn, fun h0 => ?_⟩, fun x hx => ?_⟩
  · obtain ⟨b, o, e, hb⟩ := hA h0
    refine ⟨b, o, e, hb, fun j u hu => ?_⟩
    have hs : 0 < s := by
      rcases Nat.eq_zero_or_pos s with h0 | h0
      · have : ((List.ofFn g).flatMap f).length = 0 := by rw [flat_len f s hf, h0]; simp
        rw [List.eq_nil_of_length_eq_zero this] at hu
        simp at hu
      · exact h0
    have hj : j < n * s := by
      have := (List.getElem?_eq_some_iff.1 hu).1
      rw [flat_len f s hf] at this
      simpa using this
    have hd : j / s < n := Nat.div_lt_of_lt_mul (by rw [Nat.mul_comm]; exact hj)
    have hm : j % s < s := Nat.mod_lt _ hs
    have hx : (List.ofFn g)[j / s]? = some (g ⟨j / s, hd⟩) := by simp [hd]
    have ej : j = j / s * s + j % s := by rw [Nat.mul_comm]; exact (Nat.div_add_mod j s).symm
    have := flat_at f s hf (List.ofFn g) (j / s) (j % s) _ hx hm
    rw [← ej, hu] at this
    have h2 := (hg ⟨j / s, hd⟩).2 b o e (j % s) u this.symm
    rw [ej]; exact h2
  · obtain ⟨i, rfl⟩ := (List.mem_ofFn).1 hx
    exact (hg i).1

def i64ok (x : Int) : Prop := -9223372036854775808 ≤ x ∧ x ≤ 9223372036854775807
def u64ok (x : Int) : Prop := 0 ≤ x ∧ x ≤ 18446744073709551615
theorem i64_of {x : Int} (h : (Lit.int .i64 x).wf = true) : i64ok x := bounds_i64 h
theorem u64_of {x : Int} (h : (Lit.int .u64 x).wf = true) : u64ok x := bounds_u64 h

def Ev.ok (x : Ev) : Prop := i64ok x.it ∧ i64ok x.tr ∧ i64ok x.wi ∧ i64ok x.ti ∧ i64ok x.ad ∧ u64ok x.ma
def Rc.ok (x : Rc) : Prop := i64ok x.it ∧ i64ok x.tr ∧ i64ok x.wi ∧ i64ok x.ad ∧ u64ok x.ba ∧ u64ok x.go
def evLeafs : List Lf := [Lf.int .i64, Lf.int .i64, Lf.int .i64, Lf.int .i64, Lf.int .i64, Lf.int .u64]
def rcLeafs : List Lf := [Lf.int .i64, Lf.int .i64, Lf.int .i64, Lf.int .i64, Lf.int .u64, Lf.int .u64]

theorem open_evs {t e : TypeId} {v : Value} {d : DataW H} {p : List MemPlace} {k : Nat} (ht : P.underlying t = some (.slice e)) (hl : leafs P k e = some evLeafs) (hc : P.cellsOf e = 6) (hB : P.bytesOf e = 48)
    {r : Reach} {b0 : Nat} (hv : Value.okWide P W r b0 t v) (h : DataW.Trod enc P W base spare held t v d p)
    {ts : List TypeId} {ds : List (DataW H)} {q : Nat} (hsz : (DataW.weightsEach P ts ds).all (· ≤ reachBytes) = true) (hts : ts[q]? = some t) (hds : ds[q]? = some d) :
    ∃ A n c l, v = .slice A n c ∧ n ≤ c ∧ n * 48 ≤ 140737488351232 ∧ Rd W 6 A n (evs l) ∧ ∀ x ∈ l, Ev.ok x := by
  obtain ⟨A, n, c, rfl, hnc, hnB, hA, hi⟩ := open_cells ht hl hc hB (by decide) hv h hsz hts hds
  obtain ⟨l, hln, hrd, hg⟩ := rd_of_elems Ev.cells 6 (fun _ => rfl) W A n (by omega) hA Ev.ok (fun i hin => by
    obtain ⟨b, o, e1, hj⟩ := hi i hin
    obtain ⟨_, c0, x0, rfl, w0⟩ := hj 0 _ rfl
    obtain ⟨_, c1, x1, rfl, w1⟩ := hj 1 _ rfl
    obtain ⟨_, c2, x2, rfl, w2⟩ := hj 2 _ rfl
    obtain ⟨_, c3, x3, rfl, w3⟩ := hj 3 _ rfl
    obtain ⟨_, c4, x4, rfl, w4⟩ := hj 4 _ rfl
    obtain ⟨_, c5, x5, rfl, w5⟩ := hj 5 _ rfl
    refine ⟨b, o, ⟨x0, x1, x2, x3, x4, x5⟩, e1, ⟨i64_of w0, i64_of w1, i64_of w2, i64_of w3, i64_of w4, u64_of w5⟩, fun j u hu => ?_⟩
    match j with
    | 0 => simp [Ev.cells] at hu; subst hu; exact c0
    | 1 => simp [Ev.cells] at hu; subst hu; exact c1
    | 2 => simp [Ev.cells] at hu; subst hu; exact c2
    | 3 => simp [Ev.cells] at hu; subst hu; exact c3
    | 4 => simp [Ev.cells] at hu; subst hu; exact c4
    | 5 => simp [Ev.cells] at hu; subst hu; exact c5
    | j + 6 => simp [Ev.cells] at hu)
  exact ⟨A, n, c, l, rfl, hnc, hnB, hrd, hg⟩
theorem open_rcs {t e : TypeId} {v : Value} {d : DataW H} {p : List MemPlace} {k : Nat} (ht : P.underlying t = some (.slice e)) (hl : leafs P k e = some rcLeafs) (hc : P.cellsOf e = 6) (hB : P.bytesOf e = 48)
    {r : Reach} {b0 : Nat} (hv : Value.okWide P W r b0 t v) (h : DataW.Trod enc P W base spare held t v d p)
    {ts : List TypeId} {ds : List (DataW H)} {q : Nat} (hsz : (DataW.weightsEach P ts ds).all (· ≤ reachBytes) = true) (hts : ts[q]? = some t) (hds : ds[q]? = some d) :
    ∃ A n c l, v = .slice A n c ∧ n ≤ c ∧ n * 48 ≤ 140737488351232 ∧ Rd W 6 A n (rcs l) ∧ ∀ x ∈ l, Rc.ok x := by
  obtain ⟨A, n, c, rfl, hnc, hnB, hA, hi⟩ := open_cells ht hl hc hB (by decide) hv h hsz hts hds
  obtain ⟨l, hln, hrd, hg⟩ := rd_of_elems Rc.cells 6 (fun _ => rfl) W A n (by omega) hA Rc.ok (fun i hin => by
    obtain ⟨b, o, e1, hj⟩ := hi i hin
    obtain ⟨_, c0, x0, rfl, w0⟩ := hj 0 _ rfl
    obtain ⟨_, c1, x1, rfl, w1⟩ := hj 1 _ rfl
    obtain ⟨_, c2, x2, rfl, w2⟩ := hj 2 _ rfl
    obtain ⟨_, c3, x3, rfl, w3⟩ := hj 3 _ rfl
    obtain ⟨_, c4, x4, rfl, w4⟩ := hj 4 _ rfl
    obtain ⟨_, c5, x5, rfl, w5⟩ := hj 5 _ rfl
    refine ⟨b, o, ⟨x0, x1, x2, x3, x4, x5⟩, e1, ⟨i64_of w0, i64_of w1, i64_of w2, i64_of w3, u64_of w4, u64_of w5⟩, fun j u hu => ?_⟩
    match j with
    | 0 => simp [Rc.cells] at hu; subst hu; exact c0
    | 1 => simp [Rc.cells] at hu; subst hu; exact c1
    | 2 => simp [Rc.cells] at hu; subst hu; exact c2
    | 3 => simp [Rc.cells] at hu; subst hu; exact c3
    | 4 => simp [Rc.cells] at hu; subst hu; exact c4
    | 5 => simp [Rc.cells] at hu; subst hu; exact c5
    | j + 6 => simp [Rc.cells] at hu)
  exact ⟨A, n, c, l, rfl, hnc, hnB, hrd, hg⟩

theorem open_u64s {t e : TypeId} {v : Value} {d : DataW H} {p : List MemPlace} {k : Nat} (ht : P.underlying t = some (.slice e)) (hl : leafs P k e = some [Lf.int .u64]) (hc : P.cellsOf e = 1) (hB : P.bytesOf e = 8)
    {r : Reach} {b0 : Nat} (hv : Value.okWide P W r b0 t v) (h : DataW.Trod enc P W base spare held t v d p)
    {ts : List TypeId} {ds : List (DataW H)} {q : Nat} (hsz : (DataW.weightsEach P ts ds).all (· ≤ reachBytes) = true) (hts : ts[q]? = some t) (hds : ds[q]? = some d) :
    ∃ A n c l, v = .slice A n c ∧ n ≤ c ∧ n * 8 ≤ 140737488351232 ∧ Rd W 1 A n (ints .u64 l) ∧ ∀ x ∈ l, u64ok x := by
  obtain ⟨A, n, c, rfl, hnc, hnB, hA, hi⟩ := open_cells ht hl hc hB (by decide) hv h hsz hts hds
  obtain ⟨l, hln, hrd, hg⟩ := rd_of_elems (fun x : Int => [Value.int .u64 x]) 1 (fun _ => rfl) W A n (by omega) hA u64ok (fun i hin => by
    obtain ⟨b, o, e1, hj⟩ := hi i hin
    obtain ⟨_, c0, x0, rfl, w0⟩ := hj 0 _ rfl
    refine ⟨b, o, x0, e1, u64_of w0, fun j u hu => ?_⟩
    match j with
    | 0 => simp at hu; subst hu; exact c0
    | j + 1 => simp at hu)
  refine ⟨A, n, c, l, rfl, hnc, hnB, ?_, hg⟩
  have e : ∀ l : List Int, ints .u64 l = l.flatMap fun x : Int => [Value.int .u64 x] := by
    intro l
    induction l with
    | nil => rfl
    | cons x l ih => unfold ints at ih ⊢; rw [List.map_cons, List.flatMap_cons, ih]; rfl
  rw [e l]; exact hrd
/-- a struct by value: cell by cell -/
theorem open_agg {t : TypeId} {v : Value} {d : DataW H} {p : List MemPlace} {ls : List Lf} {k : Nat} {fs : Array Field} (hs : P.underlying t = some (.struct fs)) (hl : leafs P k t = some ls) (hc : P.cellsOf t = ls.length)
    {r : Reach} {b0 : Nat} (hv : Value.okWide P W r b0 t v) (h : DataW.Trod enc P W base spare held t v d p) :
    ∃ cs : List Value, v = .agg cs.toArray ∧ cs.length = ls.length ∧ ∀ (j : Nat) l, ls[j]? = some l → ∃ u, cs[j]? = some u ∧ LfAt enc P W base spare held l u := by
  obtain ⟨cs, rfl, hsz⟩ := okWide_struct hs hv
  obtain ⟨fuel, hf⟩ := h
  obtain ⟨h1, h2⟩ := leafs_trod enc P W base spare held k t ls fuel cs.toList _ hl hc (by simpa [Value.cells] using hf)
  exact ⟨cs.toList, by simp, h1, h2⟩
theorem open_ev {t : TypeId} {v : Value} {d : DataW H} {p : List MemPlace} {k : Nat} {fs : Array Field} (hs : P.underlying t = some (.struct fs)) (hl : leafs P k t = some evLeafs) (hc : P.cellsOf t = 6)
    {r : Reach} {b0 : Nat} (hv : Value.okWide P W r b0 t v) (h : DataW.Trod enc P W base spare held t v d p) : ∃ x : Ev, v = x.val ∧ x.ok := by
  obtain ⟨cs, rfl, hlen, hj⟩ := open_agg hs hl hc hv h
  obtain ⟨_, c0, x0, rfl, w0⟩ := hj 0 _ rfl
  obtain ⟨_, c1, x1, rfl, w1⟩ := hj 1 _ rfl
  obtain ⟨_, c2, x2, rfl, w2⟩ := hj 2 _ rfl
  obtain ⟨_, c3, x3, rfl, w3⟩ := hj 3 _ rfl
  obtain ⟨_, c4, x4, rfl, w4⟩ := hj 4 _ rfl
  obtain ⟨_, c5, x5, rfl, w5⟩ := hj 5 _ rfl
  refine ⟨⟨x0, x1, x2, x3, x4, x5⟩, ?_, ⟨i64_of w0, i64_of w1, i64_of w2, i64_of w3, i64_of w4, u64_of w5⟩⟩
  match cs, hlen with
  | [a0, a1, a2, a3, a4, a5], _ =>
    simp at c0 c1 c2 c3 c4 c5
    subst c0 c1 c2 c3 c4 c5
    rfl
end
end Go.Proofs.Ytcilfgedcnehfaa
