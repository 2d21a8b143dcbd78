import Derived.Test.YtcilfgedcnehfaaB
import Derived.MapKept
import Derived.Maps.RangeRun
set_option linter.unusedVariables false
set_option linter.unusedSectionVars false
set_option linter.unusedSimpArgs false
namespace Go.Proofs.Ytcilfgedcnehfaa
open Go.RowKit
open Go.ChangeMaps (setBlock)

/-! ### Maps whose entries are told as a list, in the order in which they were laid -/
section
variable {κ β : Type} [DecidableEq κ]
def fnd (k : κ) : List (κ × β) → Nat → Option (Nat × β)
  | [], _ => none
  | (k', v) :: es, i => if k = k' then some (i, v) else fnd k es (i + 1)
theorem fnd_some {k : κ} : ∀ {es : List (κ × β)} {i j : Nat} {v : β}, fnd k es i = some (j, v) → i ≤ j ∧ es[j - i]? = some (k, v)
  | [], _, _, _, h => by simp [fnd] at h
  | (k', v') :: es, i, j, v, h => by
    unfold fnd at h
    split at h
    · rename_i hk; subst hk; simp at h; obtain ⟨rfl, rfl⟩ := h; simp
    · obtain ⟨h1, h2⟩ := fnd_some h
      refine ⟨by omega, ?_⟩
      rw [show j - i = (j - (i + 1)) + 1 from by omega]; simpa using h2
theorem fnd_none {k : κ} : ∀ {es : List (κ × β)} {i : Nat}, fnd k es i = none → k ∉ es.map (·.1)
  | [], _, _ => by simp
  | (k', v') :: es, i, h => by
    unfold fnd at h
    split at h
    · cases h
    · rename_i hk
      simp only [List.map_cons, List.mem_cons, not_or]
      exact ⟨hk, fnd_none h⟩
theorem fnd_keys {γ : Type} {k : κ} : ∀ {es : List (κ × β)} {L : List (κ × γ)} {i : Nat}, es.map (·.1) = L.map (·.1) → (fnd k es i).map (·.1) = (fnd k L i).map (·.1)
  | [], [], _, _ => rfl
  | [], _ :: _, _, h => by simp at h
  | _ :: _, [], _, h => by simp at h
  | (k1, v1) :: es, (k2, v2) :: L, i, h => by
    simp only [List.map_cons, List.cons.injEq] at h
    obtain ⟨rfl, h⟩ := h
    unfold fnd
    split
    · rfl
    · exact fnd_keys h
/-- the entry of a key, laid if there is none: all entries, its place, what it holds -/
def entOf (k : κ) (es : List (κ × β)) (z : β) : List (κ × β) × Nat × β := match fnd k es 0 with
  | some (i, v) => (es, i, v)
  | none => (es ++ [(k, z)], es.length, z)
theorem entOf_at (k : κ) (es : List (κ × β)) (z : β) : (entOf k es z).1[(entOf k es z).2.1]? = some (k, (entOf k es z).2.2) := by
  unfold entOf
  split
  · rename_i i v h
    simpa using (fnd_some h).2
  · simp
theorem entOf_keys {γ : Type} (k : κ) (es : List (κ × β)) (L : List (κ × γ)) (z : β) (y : γ) (h : es.map (·.1) = L.map (·.1)) : (entOf k es z).1.map (·.1) = (entOf k L y).1.map (·.1) ∧ (entOf k es z).2.1 = (entOf k L y).2.1 := by
  have hk := fnd_keys (k := k) (i := 0) h
  have hl : es.length = L.length := by simpa using congrArg List.length h
  unfold entOf
  cases h1 : fnd k es 0 <;> cases h2 : fnd k L 0 <;> simp [h1, h2] at hk ⊢
  · exact ⟨h, hl⟩
  · exact ⟨h, hk⟩
/-- one more of a group -/
def gAdd {α : Type} (k : κ) (x : α) (L : List (κ × List α)) : List (κ × List α) := (entOf k L []).1.set (entOf k L []).2.1 (k, (entOf k L []).2.2 ++ [x])
end
section
variable {κ : Type} [DecidableEq κ] (enc : κ → Value)
def ents : List (κ × Value) → Nat → List MapEntry
  | [], _ => []
  | (k, v) :: es, i => { key := enc k, val := v, born := i } :: ents es (i + 1)
/-- block b is a map with these entries -/
def IsMap (w : World) (b : Nat) (es : List (κ × Value)) : Prop := w.heap[b]? = some (.map (ents enc es 0).toArray es.length)

theorem ents_len : ∀ (es : List (κ × Value)) (i : Nat), (ents enc es i).length = es.length
  | [], _ => rfl
  | (k, v) :: es, i => by simp [ents, ents_len es]
theorem ents_at : ∀ (es : List (κ × Value)) (i j : Nat) (k : κ) (v : Value), es[j]? = some (k, v) → (ents enc es i)[j]? = some { key := enc k, val := v, born := i + j }
  | [], _, j, _, _, h => by simp at h
  | (k', v') :: es, i, 0, k, v, h => by simp at h; simp [ents, h]
  | (k', v') :: es, i, j + 1, k, v, h => by
    simp only [ents, List.getElem?_cons_succ]
    rw [ents_at es (i + 1) j k v (by simpa using h)]
    simp; omega
theorem ents_snoc : ∀ (es : List (κ × Value)) (i : Nat) (k : κ) (v : Value), ents enc (es ++ [(k, v)]) i = ents enc es i ++ [{ key := enc k, val := v, born := i + es.length }]
  | [], i, k, v => by simp [ents]
  | (k', v') :: es, i, k, v => by simp only [List.cons_append, ents, ents_snoc es (i + 1), List.length_cons]; congr 4; omega
theorem ents_set : ∀ (es : List (κ × Value)) (i j : Nat) (k : κ) (v u : Value), es[j]? = some (k, v) → ents enc (es.set j (k, u)) i = (ents enc es i).modify j fun e => { e with val := u }
  | [], _, j, _, _, _, h => by simp at h
  | (k', v') :: es, i, 0, k, v, u, h => by simp at h; simp [ents, h]
  | (k', v') :: es, i, j + 1, k, v, u, h => by simp only [List.set_cons_succ, ents, ents_set es (i + 1) j k v u (by simpa using h), List.modify_succ_cons]
theorem ents_born : ∀ (es : List (κ × Value)) (n i : Nat), i < es.length → (ents enc es n).findIdx? (fun e => (e.born : Int) == ((n + i : Nat) : Int)) = some i
  | [], _, i, h => by simp at h
  | (k, v) :: es, n, 0, _ => by simp [ents, List.findIdx?_cons]
  | (k, v) :: es, n, i + 1, h => by
    have := ents_born es (n + 1) i (by simpa using h)
    rw [show n + 1 + i = n + (i + 1) from by omega] at this
    simp only [ents, List.findIdx?_cons, this]
    simp; omega

/-- what a key's type must be good for -/
structure MapKey (P : Program) (kt : TypeId) : Prop where
  chk : ∀ (e : Bool) (k : κ) (w : World), (Instr.checkKey e 10000 kt (enc k)).run P w = .ok () w
  find : ∀ (es : List (κ × Value)) (k : κ) (w : World), (Instr.findKey kt (enc k) (ents enc es 0)).run P w = .ok (fnd k es 0) w
  same : ∀ k : κ, Instr.sameBits 10000 (enc k) (enc k) = true

theorem asking {P : Program} {kt : TypeId} (heq : ∀ (a b : κ) (w : World), (Op.equal kt (enc a) (enc b)).run P w = .ok (decide (a = b)) w) (k : κ) (w : World) :
    ∀ (es : List (κ × Value)) (i : Nat), (Instr.findAsking kt (enc k) (ents enc es i) i).run P w = .ok (fnd k es i) w
  | [], i => rfl
  | (k', v) :: es, i => by
    unfold ents fnd Instr.findAsking
    simp only [Sem.run_bind, heq, Result.andThen]
    by_cases h : k = k'
    · simp [h]
    · simp [h, asking heq k w es (i + 1)]
theorem MapKey.of_struct {P : Program} {kt : TypeId} {fs : Array Field} (hu : P.underlying kt = some (.struct fs)) (hc : ∀ (e : Bool) (k : κ) (w : World), (Instr.checkKey e 10000 kt (enc k)).run P w = .ok () w)
    (heq : ∀ (a b : κ) (w : World), (Op.equal kt (enc a) (enc b)).run P w = .ok (decide (a = b)) w) (hs : ∀ k : κ, Instr.sameBits 10000 (enc k) (enc k) = true) : MapKey enc P kt :=
  ⟨hc, fun es k w => by
    unfold Instr.findKey
    simp only [Sem.run_bind, run_underlying hu, Result.andThen]
    cases es with
    | nil => rfl
    | cons x es =>
      obtain ⟨k', v⟩ := x
      have : Instr.findNow (.struct fs) (enc k) (ents enc ((k', v) :: es) 0) 0 = none := by simp [ents, Instr.findNow, Instr.sameNow]
      rw [this]
      exact asking enc heq k w ((k', v) :: es) 0, hs⟩

variable {enc} {P : Program} {kt et mt : TypeId} {w : World} {b : Nat} {es : List (κ × Value)}
theorem IsMap.lt (h : IsMap enc w b es) : b < w.heap.size := (Array.getElem?_eq_some_iff.1 h).1
theorem IsMap.keep {w' : World} (h : IsMap enc w b es) (hb : w'.heap[b]? = w.heap[b]?) : IsMap enc w' b es := by unfold IsMap at *; rw [hb]; exact h
theorem IsMap.below {w' : World} (h : IsMap enc w b es) (hb : Below w.heap.size w w') : IsMap enc w' b es := h.keep (hb.block b h.lt)
theorem IsMap.grown {w' : World} {row : Option Nat} (h : IsMap enc w b es) (hb : w.grownBy w' row) (hr : row ≠ some b) : IsMap enc w' b es := h.keep (hb.block b h.lt (fun e => hr e.symm))
theorem IsMap.alloc (h : IsMap enc w b es) (o : Obj) : IsMap enc (w.alloc o) b es := h.below ((Below.refl _ _).alloc (Nat.le_refl _) _)
theorem IsMap.drew (h : IsMap enc w b es) : IsMap enc w.drew b es := h
theorem isMap_set {o : Obj} (h : w.heap[b]? = some o) (es : List (κ × Value)) : IsMap enc (setBlock w b (.map (ents enc es 0).toArray es.length)) b es := by
  have hlt := (Array.getElem?_eq_some_iff.1 h).1
  simp [IsMap, setBlock, hlt]
theorem setBlock_grown {o o' : Obj} (h : w.heap[b]? = some o) : w.grownBy (setBlock w b o') (some b) :=
  ⟨rfl, rfl, rfl, by simp [setBlock], fun i hi hne => by simp [setBlock]; rw [Array.getElem?_setIfInBounds_ne (by intro e; exact hne (by rw [e]))]⟩

theorem rget {es' : Array MapEntry} {c : Nat} (hb : w.heap[b]? = some (.map es' c)) : (getObj b).run P w = .ok (.map es' c) w := by simp [getObj, Sem.run, hb]
theorem rset_map {es' : Array MapEntry} {c : Nat} (o : Obj) (hb : w.heap[b]? = some (.map es' c)) : (setObj b o).run P w = .ok () (setBlock w b o) := by simp [setObj, Sem.run, hb, setBlock]
theorem run_mapEntry_new (K : MapKey enc P kt) (hm : P.underlying mt = some (.map kt et)) {z : Value} (hz : (zeroValue et).run P w = .ok z w) (h : IsMap enc w b es) (k : κ) (hf : fnd k es 0 = none) :
    (Instr.mapEntry mt (.map (some b)) (enc k)).run P w = .ok (.tuple #[z, .int .i64 es.length]) (setBlock w b (.map (ents enc (es ++ [(k, z)]) 0).toArray (es ++ [(k, z)]).length)) := by
  have hb : w.heap[b]? = some (.map (ents enc es 0).toArray es.length) := h
  have hfind := K.find es k w
  simp only [Instr.mapEntry, Sem.run_bind, run_underlying hm, rget hb, K.chk, hfind, hf, hz, rset_map _ hb, Result.andThen]
  simp [ents_snoc, goInt]
theorem run_mapEntry_old (K : MapKey enc P kt) (hm : P.underlying mt = some (.map kt et)) (h : IsMap enc w b es) (k : κ) {i : Nat} {v : Value} (hf : fnd k es 0 = some (i, v)) :
    (Instr.mapEntry mt (.map (some b)) (enc k)).run P w = .ok (.tuple #[v, .int .i64 i]) (setBlock w b (.map (ents enc es 0).toArray es.length)) := by
  have hb : w.heap[b]? = some (.map (ents enc es 0).toArray es.length) := h
  have hfind := K.find es k w
  obtain ⟨_, he⟩ := fnd_some hf
  have ha := ents_at enc es 0 i k v (by simpa using he)
  have hkey : (Instr.keyThatStays (enc k) (enc k)).run P w = .ok (enc k) w := by simp [Instr.keyThatStays, K.same]
  have hmod : (ents enc es 0).modify i (fun e => { e with key := enc k }) = ents enc es 0 := by
    apply List.ext_getElem?
    intro j
    rw [List.getElem?_modify]
    by_cases hj : i = j
    · subst hj; rw [ha]; simp
    · simp [hj]
  simp only [Instr.mapEntry, Sem.run_bind, run_underlying hm, rget hb, K.chk, hfind, hf, Result.andThen, List.getElem?_toArray, ha, Option.map_some, Option.getD_some, hkey, rset_map _ hb]
  simp [goInt, hmod]
theorem run_entryStore (h : IsMap enc w b es) {i : Nat} {k : κ} {v u : Value} (hi : es[i]? = some (k, v)) :
    (Instr.entryStore mt (.map (some b)) (.int .i64 i) u).run P w = .ok () (setBlock w b (.map (ents enc (es.set i (k, u)) 0).toArray (es.set i (k, u)).length)) := by
  have hb : w.heap[b]? = some (.map (ents enc es 0).toArray es.length) := h
  have hidx : (ents enc es 0).toArray.findIdx? (fun e => (e.born : Int) == (i : Int)) = some i := by
    rw [List.findIdx?_toArray]
    have := ents_born enc es 0 i (List.getElem?_eq_some_iff.1 hi).1; simpa using this
  simp only [Instr.entryStore, Sem.run_bind, rget hb, Result.andThen, asInt, asIntOf, Sem.run_pure, hidx, rset_map _ hb]
  simp [ents_set enc es 0 i k v u hi]

/-! ### the operations in a walk -/
variable {ops : Array Oper} {rest : List Oper} {o : Oper} {a : Act} {Q : Exit → Act → World → Prop}
theorem wpList_mapEntry (hgd : o.guard = none) (m x : Operand) (t : TypeId) (ho : o.op = .mapEntry t m x) (K : MapKey enc P kt) (ht : P.underlying t = some (.map kt et)) {z : Value} (hz : (zeroValue et).run P w = .ok z w)
    (h : IsMap enc w b es) (hm : a.eval m = .map (some b)) (k : κ) (hk : a.eval x = enc k)
    (hc : ∀ w', IsMap enc w' b (entOf k es z).1 → w.grownBy w' (some b) → wpList P ops Q rest (a.put o.dst (.tuple #[(entOf k es z).2.2, .int .i64 (entOf k es z).2.1])) w') : wpList P ops Q (o :: rest) a w := by
  refine wpList_plain hgd fun K' hK' => ?_
  have hb : w.heap[b]? = some (.map (ents enc es 0).toArray es.length) := h
  unfold Oper.wp execOp
  simp only [ho, hm, hk]
  unfold entOf at hc
  cases hf : fnd k es 0 with
  | none =>
    simp only [hf] at hc
    simp only [Sem.run_bind, run_mapEntry_new K ht hz h k hf, Result.andThen, Sem.run_pure, Functor.map, Sem.run_map]
    exact hK' _ _ (hc _ (isMap_set hb _) (setBlock_grown hb))
  | some p =>
    obtain ⟨i, v⟩ := p
    simp only [hf] at hc
    simp only [Sem.run_bind, run_mapEntry_old K ht h k hf, Result.andThen, Sem.run_pure]
    exact hK' _ _ (hc _ (isMap_set hb _) (setBlock_grown hb))
theorem wpList_entryStore (hgd : o.guard = none) (m x u : Operand) (t : TypeId) (ho : o.op = .entryStore t m x u) (h : IsMap enc w b es) (hm : a.eval m = .map (some b)) (i : Nat) (hx : a.eval x = .int .i64 i) (k : κ) (v v' : Value) (hi : es[i]? = some (k, v)) (hu : a.eval u = v')
    (hc : ∀ w', IsMap enc w' b (es.set i (k, v')) → w.grownBy w' (some b) → wpList P ops Q rest (a.put o.dst undef) w') : wpList P ops Q (o :: rest) a w := by
  refine wpList_plain hgd fun K' hK' => ?_
  have hb : w.heap[b]? = some (.map (ents enc es 0).toArray es.length) := h
  unfold Oper.wp execOp
  simp only [ho, hm, hx, hu]
  simp only [Sem.run_bind, run_entryStore h hi, Result.andThen, Sem.run_pure]
  exact hK' _ _ (hc _ (isMap_set hb _) (setBlock_grown hb))

theorem run_lookupE (K : MapKey enc P kt) (hm : P.underlying mt = some (.map kt et)) {z : Value} (hz : (zeroValue et).run P w = .ok z w) (h : IsMap enc w b es) (k : κ) :
    (Instr.lookup mt (.map (some b)) (enc k) false).run P w = .ok (((fnd k es 0).map (·.2)).getD z) w := by
  have hb : w.heap[b]? = some (.map (ents enc es 0).toArray es.length) := h
  have hfind := K.find es k w
  cases hf : fnd k es 0 with
  | none => simp [Instr.lookup, run_underlying hm, rget hb, K.chk, hfind, hf, hz, Result.andThen]
  | some p => simp [Instr.lookup, run_underlying hm, rget hb, K.chk, hfind, hf, Result.andThen]
theorem wpList_lookupE (hgd : o.guard = none) (m x : Operand) (t : TypeId) (ho : o.op = .lookup t m x false) (K : MapKey enc P kt) (ht : P.underlying t = some (.map kt et)) {z : Value} (hz : (zeroValue et).run P w = .ok z w)
    (h : IsMap enc w b es) (hm : a.eval m = .map (some b)) (k : κ) (hk : a.eval x = enc k) (hc : wpList P ops Q rest (a.put o.dst (((fnd k es 0).map (·.2)).getD z)) w) : wpList P ops Q (o :: rest) a w := by
  refine wpList_plain hgd fun K' hK' => ?_
  unfold Oper.wp execOp
  simp only [ho, hm, hk]
  simp only [Sem.run_bind, run_lookupE K ht hz h k, Result.andThen, Sem.run_pure]
  exact hK' _ _ hc

/-- block r goes through the map in block b, which had n entries; 'seen': those that came -/
def IsIter (w : World) (r b n : Nat) (seen : List Nat) : Prop := w.heap[r]? = some (.mapIter (some b) n seen.toArray n)
theorem IsIter.keep {w' : World} {r n : Nat} {seen : List Nat} (h : IsIter w r b n seen) (hb : w'.heap[r]? = w.heap[r]?) : IsIter w' r b n seen := by unfold IsIter at *; rw [hb]; exact h
theorem IsIter.lt {r n : Nat} {seen : List Nat} (h : IsIter w r b n seen) : r < w.heap.size := (Array.getElem?_eq_some_iff.1 h).1
theorem ents_mem {e : MapEntry} : ∀ {es : List (κ × Value)} {n : Nat}, e ∈ ents enc es n → ∃ i k v, es[i]? = some (k, v) ∧ e = { key := enc k, val := v, born := n + i }
  | [], _, h => by simp [ents] at h
  | (k, v) :: es, n, h => by
    simp only [ents, List.mem_cons] at h
    rcases h with rfl | h
    · exact ⟨0, k, v, rfl, rfl⟩
    · obtain ⟨i, k', v', h1, rfl⟩ := ents_mem h
      exact ⟨i + 1, k', v', by simpa using h1, by congr 1; omega⟩
theorem ents_borns : ∀ (es : List (κ × Value)) (n : Nat), (ents enc es n).map (·.born) = List.range' n es.length
  | [], n => rfl
  | (k, v) :: es, n => by simp [ents, ents_borns es, List.range'_succ]

theorem wpList_next {r : Nat} {seen : List Nat} (hgd : o.guard = none) (x : Operand) (ho : o.op = .next x false) (h : IsMap enc w b es) (hi : IsIter w r b es.length seen) (hx : a.eval x = .pointer (some ⟨r, 0, none⟩))
    (hdone : (∀ i, i < es.length → i ∈ seen) → wpList P ops Q rest (a.put o.dst (.tuple #[.bool false])) w)
    (hmore : ∀ i k v w', es[i]? = some (k, v) → i ∉ seen → IsIter w' r b es.length (seen ++ [i]) → w.grownBy w' (some r) → wpList P ops Q rest (a.put o.dst (.tuple #[.bool true, enc k, v])) w') : wpList P ops Q (o :: rest) a w := by
  refine wpList_plain hgd fun K' hK' => ?_
  have hb : w.heap[b]? = some (.map (ents enc es 0).toArray es.length) := h
  unfold Oper.wp execOp
  simp only [ho, hx]
  have hmem : ∀ x ∈ (ents enc es 0).toArray.toList, x.born < es.length := by
    intro x hx
    obtain ⟨i, k, v, h1, rfl⟩ := ents_mem hx
    have := (List.getElem?_eq_some_iff.1 h1).1
    simp; omega
  rcases run_next_at (P := P) w o.type r b es.length es.length seen.toArray (ents enc es 0).toArray es.length hi hb hmem (Nat.le_refl _) with ⟨h0, hrun⟩ | ⟨e, he, w1, hw1, hrun⟩
  · simp only [Sem.run_bind, hrun, Result.andThen, Sem.run_pure]
    refine hK' _ _ (hdone fun i hlt => ?_)
    obtain ⟨p, hp⟩ : ∃ p, es[i]? = some p := ⟨_, List.getElem?_eq_getElem hlt⟩
    have hat := ents_at enc es 0 i p.1 p.2 hp
    rcases Classical.em (i ∈ seen) with hs | hs
    · exact hs
    · exfalso
      have hm : ({ key := enc p.1, val := p.2, born := 0 + i } : MapEntry) ∈ (leftOf (ents enc es 0).toArray seen.toArray).toList := by
        simp [leftOf, hs]; exact List.mem_of_getElem? (by simpa using hat)
      rw [Array.eq_empty_of_size_eq_zero h0] at hm
      simp at hm
  · have hl : e ∈ ents enc es 0 ∧ e.born ∉ seen := by simpa [leftOf] using he
    obtain ⟨i, k, v, h1, rfl⟩ := ents_mem hl.1
    simp only [Sem.run_bind, hrun, Result.andThen, Sem.run_pure]
    have hr1 : w1.heap[r]? = some (.mapIter (some b) es.length seen.toArray es.length) := by rcases hw1 with rfl | rfl <;> exact hi
    have hlt := (Array.getElem?_eq_some_iff.1 hr1).1
    refine hK' _ _ (hmore i k v _ h1 (by simpa using hl.2) (by simp [IsIter, setBlock, hlt]) ?_)
    have hg : w.grownBy w1 (some r) := by
      rcases hw1 with rfl | rfl
      · exact World.grownBy.refl _ _
      · exact ⟨rfl, rfl, rfl, Nat.le_refl _, fun _ _ _ => rfl⟩
    exact World.grownBy.trans hg (setBlock_grown hr1)
theorem wpList_entryE {r : Nat} {seen : List Nat} (hgd : o.guard = none) (x : Operand) (ho : o.op = .entry x) (h : IsMap enc w b es) (i : Nat) (k : κ) (v : Value) (hi : IsIter w r b es.length (seen ++ [i])) (hx : a.eval x = .pointer (some ⟨r, 0, none⟩)) (he : es[i]? = some (k, v))
    (hc : wpList P ops Q rest (a.put o.dst (.tuple #[enc k, v])) w) : wpList P ops Q (o :: rest) a w := by
  refine wpList_plain hgd fun K' hK' => ?_
  have hb : w.heap[b]? = some (.map (ents enc es 0).toArray es.length) := h
  have hat := ents_at enc es 0 i k v he
  have hrun := run_entry_at (P := P) w r b es.length seen.toArray (ents enc es 0).toArray es.length { key := enc k, val := v, born := 0 + i } (by have := hi; unfold IsIter at this; simpa using this) hb (List.mem_of_getElem? hat) (by rw [ents_borns]; exact List.nodup_range')
  unfold Oper.wp execOp
  simp only [ho, hx]
  simp only [Sem.run_bind, hrun, Result.andThen, Sem.run_pure]
  exact hK' _ _ hc
theorem wpList_rangeE (hgd : o.guard = none) (x : Operand) (t : TypeId) (ho : o.op = .range t x) (ht : P.underlying t = some (.map kt et)) (h : IsMap enc w b es) (hx : a.eval x = .map (some b))
    (hc : IsIter (w.alloc (.mapIter (some b) es.length #[] es.length)) w.heap.size b es.length [] → wpList P ops Q rest (a.put o.dst (.pointer (some ⟨w.heap.size, 0, none⟩))) (w.alloc (.mapIter (some b) es.length #[] es.length))) : wpList P ops Q (o :: rest) a w := by
  refine wpList_plain hgd fun K' hK' => ?_
  have hb : w.heap[b]? = some (.map (ents enc es 0).toArray es.length) := h
  unfold Oper.wp execOp
  simp only [ho, hx]
  have hrun : (Instr.range t (.map (some b))).run P w = .ok (.pointer (some ⟨w.heap.size, 0, none⟩)) (w.alloc (.mapIter (some b) es.length #[] es.length)) := by
    simp [Instr.range, run_underlying ht, rget hb, Result.andThen, newObj, Sem.run]
  simp only [Sem.run_bind, hrun, Result.andThen, Sem.run_pure]
  exact hK' _ _ (hc (heap_alloc_new w _))
end
end Go.Proofs.Ytcilfgedcnehfaa
