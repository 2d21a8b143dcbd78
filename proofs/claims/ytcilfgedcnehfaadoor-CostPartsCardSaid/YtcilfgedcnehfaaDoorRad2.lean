import Derived.Test.YtcilfgedcnehfaaDoorRad
set_option linter.unusedVariables false
set_option linter.unusedSectionVars false
set_option linter.unusedSimpArgs false
namespace Go.Proofs.YtcilfgedcnehfaaDoor
open Go.RowKit Go.Shelf
attribute [local go_sem] Oper.semAt_some

theorem own_low {W : World} {base base' : Nat} {e : TypeId} {size n : Nat} {v : Value} {xs : List Value} (h : W.ownsRow base e size v n xs) (hb : base' ≤ base) : W.ownsRow base' e size v n xs := by
  refine ⟨h.1, ?_⟩
  rcases h.2 with h2 | ⟨g, cap, cur, hv, hg, r⟩
  · exact .inl h2
  · exact .inr ⟨g, cap, cur, hv, Nat.le_trans hb hg, r⟩
def natsV (l : List Nat) : List Value := l.map fun x : Nat => Value.int .i64 ((x : Nat) : Int)
/-- what the rounds have made -/
def RadI (w : World) (bo be bx : Nat) (to te ti : Nat) (pre : List Nat) (W : World) : Prop :=
  (∃ v, Boxed W bo to v ∧ W.ownsRow (bx + 1) ti 1 v pre.length (natsV pre)) ∧ Boxed W be te (.int .i64 0) ∧ (∀ r ∈ pre, r ≤ 5) ∧ Below w.heap.size w W ∧ bx < W.heap.size
/-- what the call comes to -/
def RadPost (w : World) (ti : Nat) (L : List Nat) (e : Ending) (W' : World) : Prop :=
  ∃ v, e = .returned (.tuple #[v, .int .i64 (if L.all (fun r => decide (r ≤ 5)) then 0 else 4)]) ∧
      W'.ownsRow w.heap.size ti 1 v (if L.all (fun r => decide (r ≤ 5)) then L else []).length (natsV (if L.all (fun r => decide (r ≤ 5)) then L else [])) ∧ Below w.heap.size w W'
def RadX (w : World) (bo be : Nat) (to te : Nat) (c : Code) (pre : List Nat) (W : World) : Prop :=
  c = .ret ∧ Boxed W bo to (.slice none 0 0) ∧ Boxed W be te (.int .i64 4) ∧ (∃ r ∈ pre, 5 < r) ∧ Below w.heap.size w W

theorem boxed_put {W : World} {B D : Nat} {t : TypeId} {v : Value} {o o' : Obj} (h : Boxed W B t v) (hD : W.heap[D]? = some o) (hn : o.isCells = false) : Boxed (W.putObj D o') B t v :=
  (World.putObj_heap_other (fun e => by subst e; have h2 := (show W.heap[_]? = _ from h).symm.trans hD; cases h2; cases hn)).trans h
theorem boxed_far {W : World} {B : Nat} {t : TypeId} {v : Value} (h : Boxed W B t v) (b : Nat) (u : Value) (hne : B ≠ b) : Boxed (W.setCell ⟨b, 0, none⟩ u) B t v :=
  (Below.heap_setCell W _ u B (by simpa using hne)).trans h
theorem radI_own (w : World) (bo be bx to te ti : Nat) (hw : w.heap.size ≤ bo) (hb : w.heap.size ≤ bx) : OwnFrom (bx + 1) (RadI w bo be bx to te ti) := by
  have h1 := holdsRow_own (β := List Nat) (bx + 1) bo to ti 1 (fun s => s.length) natsV (fun _ _ => True)
  intro s A B row hs hg hr
  obtain ⟨⟨v, hv, hro⟩, he, hall, hB, hbx⟩ := hs
  obtain ⟨v', hv', hro', _⟩ := h1 s A B row ⟨v, hv, hro, trivial⟩ hg (fun r e => (hr r e).2)
  refine ⟨⟨v', hv', hro'⟩, he.kept hg (fun e => ?_), hall, hB.grown hg hB.size (fun j e => by have := (hr j e).1; omega), Nat.lt_of_lt_of_le hbx hg.size⟩
  obtain ⟨_, o, ho, hc⟩ := hr be e.symm
  rw [show A.heap[be]? = _ from he] at ho; cases ho; cases hc
theorem radX_own (w : World) (bo be bx to te : Nat) (hb : w.heap.size ≤ bx) (c : Code) : OwnFrom (bx + 1) (RadX w bo be to te c) := by
  intro s A B row hs hg hr
  obtain ⟨hc, hv, he, hall, hB⟩ := hs
  refine ⟨hc, hv.kept hg (fun e => ?_), he.kept hg (fun e => ?_), hall, hB.grown hg hB.size (fun j e => by have := (hr j e).1; omega)⟩
  · obtain ⟨_, o, ho, hc⟩ := hr bo e.symm
    rw [show A.heap[bo]? = _ from hv] at ho; cases ho; cases hc
  · obtain ⟨_, o, ho, hc⟩ := hr be e.symm
    rw [show A.heap[be]? = _ from he] at ho; cases ho; cases hc
theorem radI_set (w : World) (bo be bx to te ti : Nat) (h1 : bo ≠ bx) (h2 : be ≠ bx) (hb : w.heap.size ≤ bx) (s : List Nat) (W : World) (v : Value) (h : RadI w bo be bx to te ti s W) : RadI w bo be bx to te ti s (W.setCell ⟨bx, 0, none⟩ v) := by
  obtain ⟨⟨u, hv, hro⟩, he, hall, hB, hbx⟩ := h
  refine ⟨⟨u, boxed_far hv _ _ h1, hro.kept (grownBy_setCell' W bx v) ?_⟩, boxed_far he _ _ h2, hall, hB.setCell (p := ⟨bx, 0, none⟩) hb v, by simpa using hbx⟩
  rcases hro.2 with ⟨rfl, _⟩ | ⟨g, cap, cur, rfl, hg, _⟩
  · exact .inl rfl
  · refine .inr fun e => ?_
    have : g = bx := by simpa [Value.ownBlock] using e
    omega
theorem radX_set (w : World) (bo be bx to te : Nat) (h1 : bo ≠ bx) (h2 : be ≠ bx) (hb : w.heap.size ≤ bx) (c : Code) (s : List Nat) (W : World) (v : Value) (h : RadX w bo be to te c s W) : RadX w bo be to te c s (W.setCell ⟨bx, 0, none⟩ v) := by
  obtain ⟨hc, hv, he, hall, hB⟩ := h
  exact ⟨hc, boxed_far hv _ _ h1, boxed_far he _ _ h2, hall, hB.setCell (p := ⟨bx, 0, none⟩) hb v⟩

set_option maxRecDepth 100000 in
set_option maxHeartbeats 2000000 in
theorem radices_no (n : Int) (h : n < 1 ∨ 4096 < n) (w : World) :
    Calls Tryd.prog 48 #[.int .i64 n] w fun e W' => e = .returned (.tuple #[.slice none 0 0, .int .i64 4]) ∧ Below w.heap.size w W' := by
  by_cases h1 : n < 1
  · go_enter Tryd.func48, Tryd.ntmps48
    go_wp2
    exact bodyPost_ret (v := .tuple #[.slice none 0 0, .int .i64 4]) (by simp [results, Tryd.results48, go_sem]) rfl ⟨rfl, by repeat (first | exact Below.refl _ _ | refine Below.setCell ?_ (by simp) _ | refine Below.alloc ?_ (by simp) _)⟩
  · have h2 : (4096 : Int) < n := by omega
    clear h
    go_enter Tryd.func48, Tryd.ntmps48
    go_wp2
    exact bodyPost_ret (v := .tuple #[.slice none 0 0, .int .i64 4]) (by simp [results, Tryd.results48, go_sem]) rfl ⟨rfl, by repeat (first | exact Below.refl _ _ | refine Below.setCell ?_ (by simp) _ | refine Below.alloc ?_ (by simp) _)⟩

set_option maxRecDepth 100000 in
set_option maxHeartbeats 4000000 in
theorem radices_yes (n t : Nat) (h1 : 1 ≤ n) (h2 : n ≤ 4096) (ht : Lib.ctz 64 n = t) (ht12 : t ≤ 12) (hp : 0 < n / 2 ^ t) (hlen : (radT t n).length ≤ 4096) (w : World) (hT : TabAt 3 Lib.deBruijn64tab w) :
    Calls Tryd.prog 48 #[.int .i64 (n : Int)] w (RadPost w 3 (radT t n)) := by
  have HT := Lib.hid hT
  have HTT := Lib.hid ht
  have hn1 : (1 : Int) ≤ (n : Int) := by omega
  have hn2 : (n : Int) ≤ 4096 := by omega
  refine (callsIn_wide (n := 6)).1 ?_
  refine callsIn_of_wp_marks Tryd.func48 rfl trivial ?_ rfl
  simp only [Tryd.ntmps48, List.size_toArray, List.length_cons, List.length_nil, Nat.reduceAdd, Nat.reduceSub, Array.replicate_succ, Array.replicate_zero, List.push_toArray, List.append_toArray, List.nil_append, List.cons_append]
  clear hT ht
  have hd1 : decide ((n : Int) < 1) = false := decide_eq_false (by omega)
  have hd2 : decide ((4096 : Int) < (n : Int)) = false := decide_eq_false (by omega)
  gi_wp2_with (refine ⟨trivial, ?_⟩; gi_at_call 74; refine (callsIn_wide.2 (radices_mk _ _)).mono ?_; rintro e w' ⟨rfl, rfl⟩)
  obtain ⟨W0, hW0⟩ : ∃ W0, (((w.alloc (.cells #[.slice none 0 0] 61)).alloc (.cells #[.int .i64 0] 26)).alloc (.cells #[.int .i64 (n : Int)] 3)) = W0 := ⟨_, rfl⟩
  have hsz : W0.heap.size = w.heap.size + 3 := by rw [← hW0]; simp
  have bO : Boxed W0 w.heap.size 61 (.slice none 0 0) := by rw [← hW0]; exact ((Boxed.new w _ _).alloc _).alloc _
  have bE : Boxed W0 (w.heap.size + 1) 26 (.int .i64 0) := by
    rw [← hW0]; have := Boxed.new (w.alloc (.cells #[.slice none 0 0] 61)) 26 (.int .i64 0); rw [World.size_alloc] at this; exact this.alloc _
  have bN : Boxed W0 (w.heap.size + 1 + 1) 3 (.int .i64 (n : Int)) := by
    rw [← hW0]; have := Boxed.new ((w.alloc (.cells #[.slice none 0 0] 61)).alloc (.cells #[.int .i64 0] 26)) 3 (.int .i64 (n : Int)); rw [World.size_alloc, World.size_alloc] at this; exact this
  have hB0 : Below w.heap.size w W0 := by rw [← hW0]; exact (((Below.refl _ w).alloc (Nat.le_refl _) _).alloc (by simp) _).alloc (by simp; omega) _
  have hT0 : TabAt 3 Lib.deBruijn64tab W0 := fun j hj => by
    have h := HT.out j hj
    exact (hB0.cell (World.block_lt_of_cell? w _ h)).trans h
  rw [hW0]
  clear hW0
  have HT0 := Lib.hid hT0
  clear hT0
  refine rangeFunc_box (w := W0) rfl (by omega) (gf := 90) (lb := #[.pointer (some ⟨w.heap.size + 1 + 1, 0, none⟩)]) rfl trivial (enters_of Tryd.func90 (by kernel_rfl) rfl) (bx := w.heap.size + 1 + 1) (by omega)
    (radices_stops Fence.wide (fun _ => trivial) rfl rfl (6 - 1) n (w.heap.size + 1 + 1) t (by omega) h1 h2 HTT.out ht12 hp W0 bN HT0.out (fun W hW => by rw [← HTT.out]; exact callsIn_wide.2 (tz_any n (by omega) (by omega) W hW)))
    (fun h k => k.trans h) (fun W l o o' hl h _ _ => World.putObj_heap_other (by omega)) (Below.refl _ _) (fun _ => rfl)
    (RadI w w.heap.size (w.heap.size + 1) (w.heap.size + 1 + 1) 61 26 3) (RadX w w.heap.size (w.heap.size + 1) 61 26)
    (by rw [hsz]; exact radI_own _ _ _ _ _ _ _ (by omega) (by omega)) (fun c => by rw [hsz]; exact radX_own _ _ _ _ _ _ (by omega) c)
    (radI_set _ _ _ _ _ _ _ (by omega) (by omega) (by omega)) (fun c => radX_set _ _ _ _ _ _ (by omega) (by omega) (by omega) c)
    ⟨⟨_, bO, World.ownsRow_nil _ _ _ _⟩, bE, by simp, hB0, by omega⟩
    (fun x => { tmps := #[.int .i64 (n : Int), undef, .pointer (some ⟨w.heap.size, 0, none⟩), .pointer (some ⟨w.heap.size + 1, 0, none⟩), .int .i64 (x : Int), .int .i64 (n : Int), .bool false, .bool false, .int .i64 (n : Int), .bool false, .bool false, .int .i64 (n : Int), .func (.func 90) #[] #[.pointer (some ⟨w.heap.size + 1 + 1, 0, none⟩)], .int .i64 (x : Int), undef, undef, undef, undef, undef, undef, undef], defers := [] }) ?assign ?body ?done ?stop
  case assign =>
    intro l x W K hK
    dsimp only [encR]
    gi_wp2
    exact hK
  case body =>
    rintro l pre x W ⟨⟨v, hv, hrow⟩, he, hall, hB, hbx⟩ hlt
    have hpl : pre.length < 4096 := by omega
    obtain ⟨i0, hi, hz0, hz1, hz2⟩ := info_parts (show (Tryd.prog.info? 3).map (fun i => (i.zero, i.size, i.bytes)) = some (some (.int .i64 0), 1, 8) by kernel_rfl)
    have hc := hv.cell
    have hf := hv.frozen
    have hce := he.cell
    have hfe := he.frozen
    have hbs := hB.size
    by_cases hx : x ≤ 5
    · have hxi : ¬ (5 : Int) < (x : Int) := by omega
      have HE := Lib.hid he
      have HA := Lib.hid hall
      have HB := Lib.hid hB
      clear hlt he hall hB
      gi_wp2_with (gi_at_builtin; (refine wpListIn_append_own _ rfl _ _ 61 rfl (w.heap.size + 1 + 1 + 1) 3 i0 (.int .i64 0) 1 8 Tryd.underlying61 hi hz0 hz1 hz2 rfl (by decide) _ _ _ rfl (hrow.alloc _) ⟨W.heap.size, 0, none⟩ 1 1 [.int .i64 (x : Int)] rfl rfl (cell_one_new _ _ _) (by simp [Value.oneCell']) (by unfold maxLen; omega) (by omega) (by simp; omega) ?_); intro v' w1 hown' hgrow _; obtain ⟨g', cap', rfl⟩ := ownsRow_succ hown'; obtain ⟨hv1, hv2, hr2, hk2, hb2⟩ := hv.appended (n₀ := w.heap.size) (by decide) (own_low hrow (by omega)) HB.out.size (by omega) (own_low hown' (by omega)) hgrow; have hc1 := hv1.cell; have hf1 := hv1.frozen)
      have hgrow : (W.alloc (.cells #[.int .i64 (x : Int)] 3)).grownBy w1 v.ownBlock := hgrow
      have hbe : Boxed w1 (w.heap.size + 1) 26 (.int .i64 0) := (HE.out.alloc _).kept hgrow (HE.out.not_row (by decide) hrow)
      refine ⟨hk2.from _, ?_, ⟨_, hv2, ?_⟩, boxed_far hbe _ _ (by omega), ?_, HB.out.trans hb2, ?_⟩
      · refine (Below.heap_setCell _ _ _ _ (by simp; omega)).trans ((hgrow.block (w.heap.size + 1 + 1) (by simp; omega) ?_).trans (Below.heap_alloc _ _ _ (by omega)))
        rcases hrow.2 with ⟨rfl, _⟩ | ⟨g, cap, cur, rfl, hg, _⟩
        · simp [Value.ownBlock]
        · intro e; have : w.heap.size + 1 + 1 = g := by simpa [Value.ownBlock] using e
          omega
      · have h3 := hown'.kept (grownBy_setCell' w1 w.heap.size (.slice (some ⟨g', 0, none⟩) (pre.length + 1) cap')) (.inr (hv1.not_row (by decide) hown').symm)
        rw [List.length_append]
        simpa [natsV] using h3
      · intro r hr
        rcases List.mem_append.1 hr with h | h
        · exact HA.out r h
        · simp at h; omega
      · have := hgrow.size; simp at this ⊢; omega
    · have hxi : (5 : Int) < (x : Int) := by omega
      have HB := Lib.hid hB
      clear hall hlt hB
      gi_wp2
      refine ⟨((KeepsOthers.setCell _ _ _).trans (KeepsOthers.setCell _ _ _)).from _, rfl, ?_, ?_, ⟨x, by simp, by omega⟩, ?_⟩
      · exact boxed_far (Boxed.set _ hv) _ _ (by omega)
      · exact Boxed.set _ (boxed_far he _ _ (by omega))
      · exact (HB.out.setCell (p := ⟨w.heap.size, 0, none⟩) (Nat.le_refl _) _).setCell (p := ⟨w.heap.size + 1, 0, none⟩) (by simp) _
  case done =>
    rintro D ys W hD rfl ⟨⟨v, hv, hrow⟩, he, hall, hB, hbx⟩ hK
    have hg : (radT t n).all (fun r => decide (r ≤ 5)) = true := by rw [List.all_eq_true]; intro r hr; exact decide_eq_true (hall r hr)
    have HG := Lib.hid hg
    have hc := hv.cell
    have hf := hv.frozen
    have hce := he.cell
    have hfe := he.frozen
    have HB := Lib.hid hB
    clear hall hg hB
    obtain ⟨A, c, rfl⟩ : ∃ A c, v = .slice A (radT t n).length c := by
      rcases hrow.2 with ⟨rfl, h0⟩ | ⟨g, cap, cur, rfl, _⟩
      · exact ⟨none, 0, by rw [h0]⟩
      · exact ⟨_, _, rfl⟩
    gi_wp2
    have hK2 : ((W.setCell ⟨w.heap.size, 0, none⟩ (.slice A (radT t n).length c)).setCell ⟨w.heap.size + 1, 0, none⟩ (.int .i64 0)).heap[D]? = some (.deferred (some [])) :=
      (Below.heap_setCell _ _ _ _ (by simp; omega)).trans ((Below.heap_setCell _ _ _ _ (by simp; omega)).trans hK)
    refine ⟨by simp, .inl ⟨_, _, rfl, run_takeDeferred hK2, ?_⟩⟩
    have b1 := boxed_put (boxed_far (Boxed.set (.slice A (radT t n).length c) hv) (w.heap.size + 1) (.int .i64 0) (by omega)) hK2 (by rfl) (o' := .deferred none)
    have b2 := boxed_put (Boxed.set (.int .i64 0) (boxed_far he w.heap.size (.slice A (radT t n).length c) (by omega))) hK2 (by rfl) (o' := .deferred none)
    have hc2 := b1.cell
    have hce2 := b2.cell
    refine ⟨.tuple #[.slice A (radT t n).length c, .int .i64 0], ?_, ?_⟩
    · simp [results, Tryd.results48, go_sem, hc2, hce2]
    · show RadPost _ _ _ _ _
      unfold RadPost
      rw [HG.out]
      have hb3 := ((HB.out.setCell (p := ⟨w.heap.size, 0, none⟩) (Nat.le_refl _) (.slice A (radT t n).length c)).setCell (p := ⟨w.heap.size + 1, 0, none⟩) (by simp) (.int .i64 0))
      have hr1 := hrow.kept (grownBy_setCell' W w.heap.size (.slice A (radT t n).length c)) (.inr (hv.not_row (by decide) hrow).symm)
      have hr2 := hr1.kept (grownBy_setCell' _ (w.heap.size + 1) (.int .i64 0)) (.inr ((boxed_far he w.heap.size (.slice A (radT t n).length c) (by omega)).not_row (by decide) hr1).symm)
      exact ⟨_, rfl, own_low (ownsRow_putObj hr2 _ hK2 rfl) (by omega), hb3.trans (belowK_b (w := W0) (by omega) _ D _ _ hD hK2 rfl rfl)⟩
  case stop =>
    rintro D c pre W hD hpre ⟨rfl, hv, he, hbad, hB⟩ hK
    have hg : (radT t n).all (fun r => decide (r ≤ 5)) = false := by
      obtain ⟨r, hr, h5⟩ := hbad
      rw [Bool.eq_false_iff]; intro h
      rw [List.all_eq_true] at h
      have := of_decide_eq_true (h r (hpre.subset hr)); omega
    have HG := Lib.hid hg
    have hc := hv.cell
    have hce := he.cell
    have HB := Lib.hid hB
    clear hbad hg hB
    gi_wp2
    refine ⟨by simp, .inl ⟨_, _, rfl, run_takeDeferred hK, ?_⟩⟩
    have hc2 := (boxed_put hv hK (by rfl) (o' := .deferred none)).cell
    have hce2 := (boxed_put he hK (by rfl) (o' := .deferred none)).cell
    refine ⟨.tuple #[.slice none 0 0, .int .i64 4], ?_, ?_⟩
    · simp [results, Tryd.results48, go_sem, hc2, hce2]
    · show RadPost _ _ _ _ _
      unfold RadPost
      rw [HG.out]
      exact ⟨_, rfl, World.ownsRow_nil _ _ _ _, HB.out.trans (belowK_b (w := W0) (by omega) W D _ _ hD hK rfl rfl)⟩

theorem ctz_facts_ : ∀ a, a < 65 → ∀ b, b < 64 → 1 ≤ 64 * a + b → Lib.ctz 64 (64 * a + b) ≤ 12 ∧ 0 < (64 * a + b) / 2 ^ Lib.ctz 64 (64 * a + b) ∧ (radL (64 * a + b)).length ≤ 4096 := by decide +kernel
theorem ctz_facts (n : Nat) (h : n < 4097) (h1 : 1 ≤ n) : Lib.ctz 64 n ≤ 12 ∧ 0 < n / 2 ^ Lib.ctz 64 n ∧ (radL n).length ≤ 4096 := by
  have := ctz_facts_ (n / 64) (by omega) (n % 64) (by omega) (by omega)
  rwa [Nat.div_add_mod] at this
/-- the table that the library's function reads -/
def Tab (w : World) : Prop := TabAt 3 Lib.deBruijn64tab w
def radR (n : Nat) : List Int × Int := if (radL n).all (fun r => decide (r ≤ 5)) then ((radL n).map fun x : Nat => (x : Int), 0) else ([], 4)
theorem radices_all (n : Nat) (h1 : 1 ≤ n) (h2 : n ≤ 4096) (w : World) (hT : Tab w) : Calls Tryd.prog 48 #[.int .i64 (n : Int)] w (RadPost w 3 (radL n)) := by
  obtain ⟨a, b, c⟩ := ctz_facts n (by omega) h1
  exact radices_yes n _ h1 h2 rfl a b c w hT
end Go.Proofs.YtcilfgedcnehfaaDoor
