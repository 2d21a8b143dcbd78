import Derived.Test.YtcilfgedcnehfaaScr0
set_option linter.unusedVariables false
set_option linter.unusedSectionVars false
set_option linter.unusedSimpArgs false
namespace Go.Proofs.Ytcilfgedcnehfaa
open Go.RowKit

def sparseB_of (L : List ((Int × Int) × List Int)) : Bool := L.all fun g => apartB g.2
theorem nodup_le : ∀ (n : Nat) (l : List Nat), l.Nodup → (∀ x ∈ l, x < n) → l.length ≤ n
  | 0, l, _, h => by
    cases l with
    | nil => simp
    | cons x l => exact absurd (h x (by simp)) (by omega)
  | n + 1, l, hn, h => by
    have := nodup_le n (l.erase n) (hn.erase _) (fun x hx => by
      have h1 := h x (List.mem_of_mem_erase hx)
      have h2 : x ≠ n := by rintro rfl; exact (List.Nodup.not_mem_erase hn) hx
      omega)
    rw [List.length_erase] at this
    split at this <;> omega
theorem below_drewN' {B : Nat} {a w : World} (h : Below B a w) (n : Nat) : Below B a (w.drewN n) := ⟨h.os, h.tape, h.output, h.size, h.block⟩
theorem seen_all {α : Type} [Inhabited α] (L : List α) (seen : List Nat) (ok : Bool) (f : α → Bool) (h1 : ∀ i, i < L.length → i ∈ seen) (h2 : ∀ i ∈ seen, i < L.length) (d : α) (h : ok = seen.all fun i => f (L.getD i d)) : ok = L.all f := by
  rw [h, Bool.eq_iff_iff, List.all_eq_true, List.all_eq_true]
  constructor
  · intro ha x hx
    obtain ⟨i, hi⟩ := List.mem_iff_getElem?.1 hx
    have hl := (List.getElem?_eq_some_iff.1 hi).1
    have := ha i (h1 i hl)
    rwa [List.getD_eq_getElem?_getD, hi] at this
  · intro ha i hi
    have hl := h2 i hi
    refine ha _ ?_
    rw [List.getD_eq_getElem?_getD, List.getElem?_eq_getElem hl]
    exact List.getElem_mem hl

set_option maxHeartbeats 2000000 in
set_option maxRecDepth 100000 in
theorem sparse_walk (w : World) (A : Option Addr) (n c : Nat) (l : List Ev) (h : Rd w 6 A n (evs l)) (hn : n ≤ 1024) :
    Calls Try.prog 16 #[.slice A n c] w fun en w' => en = .returned (.tuple #[.bool (sparseB l), .int .i64 0]) ∧ Below w.heap.size w w' := by
  have hbig := h.big
  have HL := Lib.hid h.ev_len
  have hmm := @run_makeMap Try.prog
  go_enter Try.func16, Try.ntmps16
  go_wp2_with (first | (go_at_call 27; refine (check_ok _ _ _ _ hn).mono ?_; rintro e w' ⟨rfl, rfl⟩))
  go_loopg [21] n (fun g v wr => ∃ k : Nat, ∃ es : List ((Int × Int) × Value), k + g = n ∧ v = .int .i64 k ∧ Below w.heap.size w wr ∧ w.heap.size < wr.heap.size ∧ IsMap encTry wr w.heap.size es ∧ Groups wr (w.heap.size + 1) 3 es (evGroups (l.take k)))
  case atStart => exact ⟨0, [], by omega, rfl, (Below.refl _ _).alloc (Nat.le_refl _) _, by simp, heap_alloc_new w _, Groups.nil _ _ _⟩
  case round =>
    obtain ⟨k, es, hk, rfl, hB, hsz, hM, hG⟩ := hrel
    by_cases hlt : k < n
    · obtain ⟨x, hx⟩ : ∃ x, l[k]? = some x := ⟨_, List.getElem?_eq_getElem (by rw [HL.out]; exact hlt)⟩
      obtain ⟨b, o, rfl, hbl, g0, g1, g2, g3, g4, g5⟩ := (h.below hB).ev k x hx
      have hs : evGroups (l.take (k + 1)) = gAdd (evKey x) x.wi (evGroups (l.take k)) := by rw [List.take_add_one, hx]; exact groups_snoc _ _ _ _
      have HS := Lib.hid hs
      have hlen : ∀ y ∈ evGroups (l.take k), y.2.length ≤ 1024 := by
        intro y hy
        rw [(groups_inv evKey Ev.wi (l.take k)).is y.1 y.2 hy]
        unfold sel
        rw [List.length_map]
        have h1 := List.length_filter_le (fun z => decide (evKey z = y.1)) (l.take k)
        have h2 := List.length_take_le k l
        omega
      have HLN := Lib.hid hlen
      clear hx hs hlen
      generalize evGroups (l.take k) = L at *
      have hG1 := hG.entOf (evKey x)
      have hat := entOf_at (evKey x) es (Value.slice none 0 0)
      have hatL := entOf_at (evKey x) L ([] : List Int)
      have hidx := (entOf_keys (evKey x) es L (Value.slice none 0 0) ([] : List Int) hG.keys).2
      have hl1 : (entOf (evKey x) L []).2.2.length ≤ 1024 := by
        unfold entOf
        cases hf : fnd (evKey x) L 0 with
        | none => simp
        | some p => exact HLN.out _ (List.mem_of_getElem? (fnd_some hf).2)
      have hgA : gAdd (evKey x) x.wi L = (entOf (evKey x) L []).1.set (entOf (evKey x) L []).2.1 (evKey x, (entOf (evKey x) L []).2.2 ++ [x.wi]) := rfl
      have HGA := Lib.hid hgA
      clear hgA
      generalize hes : entOf (evKey x) es (Value.slice none 0 0) = R at *
      generalize entOf (evKey x) L ([] : List Int) = R' at *
      obtain ⟨es1, i1, v1⟩ := R
      obtain ⟨L1, i1', l1⟩ := R'
      dsimp only at *
      subst hidx
      have HES := Lib.hid hes
      have hown := hG1.own _ _ _ _ _ hat hatL
      have HAT := Lib.hid hat
      have HATL := Lib.hid hatL
      clear hes hat hatL
      go_wp2_with (with_reducible refine stop_at 36 rfl ?_)
      unfold Stop
      refine wpList_mapEntry (k := evKey x) (es := es) rfl (.tmp 30) (.tmp 31) 62 rfl keyTryS Try.underlying62 (zeroInts _) ?_ rfl rfl ?_
      · repeat (first | exact hM | refine IsMap.alloc ?_ _)
      intro w1 hM1 hgM1
      rw [HES.out] at hM1 ⊢
      dsimp only
      have hGa := (hG1.below (by repeat (first | exact Below.refl _ _ | refine balloc ?_ _))).kept hgM1 (fun g e => by injection e with e; omega)
      have hs1 : wr.heap.size + 3 ≤ w1.heap.size := by have := hgM1.size; simp at this; omega
      have hown := hGa.own _ _ _ _ _ HAT.out HATL.out
      have hB1 : Below w.heap.size w w1 := Below.grown (by repeat (first | exact hB | refine balloc ?_ _)) hgM1 (by simp; omega) (fun g e => by injection e with e; omega)
      go_wp2_with (with_reducible refine stop_at 37 rfl ?_)
      unfold Stop
      refine wpList_append_rd _ rfl (.tmp 32) (.tmp 35) 60 rfl (w.heap.size + 1) 3 _ 1 8 (by kernel_rfl) infoInt rfl (by omega) v1 l1.length (ints .i64 l1) rfl hown _ 1 1 (ints .i64 [x.wi]) rfl ?_ (ints_one _ _) (by omega) (by omega) (by omega) ?_
      · exact (rd_at _ _ _ 1 1 _ (by simp) rfl (by omega)).grown hgM1 (fun b' o' e => by simp at e; intro h; injection h with h; omega)
      intro v2 w2 hown2 hg2 hat2
      have hM2 := hM1.grown hg2 (by intro e; have := hown.lt _ e; omega)
      have hw2 := hg2.size
      go_wp2_with (with_reducible refine wpList_entryStore rfl (.tmp 30) (.tmp 38) (.tmp 37) 62 rfl hM2 ?_ i1 ?_ (evKey x) v1 v2 HAT.out ?_ ?_)
      · rfl
      · rfl
      · rfl
      intro w3 hM3 hg3
      go_wp2
      go_roundg (n - (k + 1))
      case measure => omega
      case rel =>
        have hown2' : w2.ownsRow (w.heap.size + 1) 3 1 v2 (l1 ++ [x.wi]).length (ints .i64 (l1 ++ [x.wi])) := by rw [List.length_append, ← ints_append]; exact hown2
        have hG3 := (hGa.set_ (by omega) HAT.out HATL.out hg2 hown2' (by
          rcases hat2 with e | e
          · exact .inl e
          · exact .inr (fun g h => by rw [e] at h; injection h with h; omega))).kept hg3 (fun g e => by injection e with e; omega)
        have hw3 := hg3.size
        exact ⟨k + 1, _, by omega, by go_num, (hB1.grown hg2 (by omega) (fun g e => by have := hown.lt g e; omega)).grown hg3 (by omega) (fun g e => by injection e with e; omega), by omega, hM3, by rw [HS.out, HGA.out]; exact hG3⟩
    · obtain rfl : k = n := by omega
      rw [List.take_of_length_le (by rw [HL.out]; exact Nat.le_refl _)] at hG
      have HLN : Hid (∀ y ∈ evGroups l, y.2.length ≤ 1024) := by
        intro y hy
        rw [(groups_inv evKey Ev.wi l).is y.1 y.2 hy]
        unfold sel
        rw [List.length_map]
        have h1 := List.length_filter_le (fun z => decide (evKey z = y.1)) l
        have h2 := HL.out
        omega
      have HSP : Hid (sparseB l = (evGroups l).all fun g => apartB g.2) := rfl
      generalize evGroups l = L at *
      go_wp2_with (with_reducible refine wpList_rangeE rfl (.tmp 40) 62 rfl Try.underlying62 hM ?_ ?_)
      · rfl
      intro hI
      go_wp2
      have hrow : ∀ (i : Nat) kk v, es[i]? = some (kk, v) → ∀ g, v.ownBlock = some g → w.heap.size + 1 ≤ g ∧ g < wr.heap.size := fun i kk v hi g hg => by
        obtain ⟨l0, hl0⟩ := hG.at_ hi
        exact (hG.own i kk v kk l0 hi hl0).lt g hg
      have HROW := Lib.hid hrow
      have HAP := Lib.hid hG.apart
      have hlen := hG.len
      have HLEN := Lib.hid hlen
      have hrun : ∀ (i : Nat) kk v ll, i ∉ ([] : List Nat) → es[i]? = some (kk, v) → L[i]? = some (kk, ll) → (wr.alloc (.mapIter (some w.heap.size) es.length #[] es.length)).ownsRow (w.heap.size + 1) 3 1 v ll.length (ints .i64 ll) :=
        fun i kk v ll _ h1 h2 => (hG.own i kk v kk ll h1 h2).alloc _
      have HKEYS := Lib.hid (fun i kk v hi => hG.at_ (i := i) (k := kk) (v := v) hi)
      clear hrow hlen hG
      generalize hr0 : wr.heap.size = r0 at *
      have hr1 : r0 < (wr.alloc (.mapIter (some w.heap.size) es.length #[] es.length)).heap.size := by simp; omega
      have hB' := Below.alloc hB (show w.heap.size ≤ wr.heap.size by omega) (.mapIter (some w.heap.size) es.length #[] es.length)
      have hM' := hM.alloc (.mapIter (some w.heap.size) es.length #[] es.length)
      clear hB hM hr0
      go_loopg [9] es.length (fun g v wx => ∃ (seen : List Nat) (ok : Bool), v = .bool ok ∧ seen.length + g = es.length ∧ Below w.heap.size w wx ∧ r0 < wx.heap.size ∧ IsMap encTry wx w.heap.size es ∧ IsIter wx r0 w.heap.size es.length seen ∧
        Hid (seen.Nodup ∧ (∀ i ∈ seen, i < es.length) ∧ ok = seen.all (fun i => apartB (L.getD i ((0, 0), [])).2) ∧ ∀ (i : Nat) kk v ll, i ∉ seen → es[i]? = some (kk, v) → L[i]? = some (kk, ll) → wx.ownsRow (w.heap.size + 1) 3 1 v ll.length (ints .i64 ll)))
      case atStart => exact ⟨[], true, rfl, by simp, hB', hr1, hM', hI, List.nodup_nil, by simp, rfl, hrun⟩
      case round =>
        obtain ⟨seen, ok, rfl, hsl, hB2, hr2, hM2, hI2, HS2⟩ := hrel
        clear hI hB' hM' hrun
        go_wp2_with (with_reducible refine stop_at 42 rfl ?_)
        unfold Stop
        refine wpList_next rfl (.tmp 41) rfl hM2 hI2 rfl ?_ ?_
        · intro hall
          have hfin : ok = sparseB_of L := by
            obtain ⟨hnd, hlt2, hok, _⟩ := HS2.out
            exact seen_all L seen ok (fun g : (Int × Int) × List Int => apartB g.2) (fun i hi => hall i (by rw [HLEN.out]; exact hi)) (fun i hi => by rw [← HLEN.out]; exact hlt2 i hi) ((0, 0), []) hok
          go_wp2
          go_ret2
          exact ⟨by rw [HSP.out]; rfl, hB2⟩
        · intro i kk v w1 hi hns hI3 hg1
          have hM3 := hM2.grown hg1 (by intro e; injection e with e; omega)
          obtain ⟨ll, hll⟩ := HKEYS.out i kk v hi
          have hw1 := hg1.size
          have hrow := HROW.out i kk v hi
          have hown := (HS2.out.2.2.2 i kk v ll hns hi hll).kept hg1 (by
            cases hv : v.ownBlock with
            | none => exact .inl rfl
            | some g => exact .inr (fun e => by injection e with e; have := (hrow g hv).2; omega))
          have hll2 : ll.length ≤ 1024 := HLN.out _ (List.mem_of_getElem? hll)
          have HLL := Lib.hid hll
          have HI := Lib.hid hi
          clear hll
          go_wp2_with (with_reducible refine wpList_entryE rfl (.tmp 41) rfl hM3 i kk v hI3 ?_ hi ?_)
          · rfl
          clear hi
          refine (sort_any w1 (w.heap.size + 1) v ll hown (by omega)).mono ?_
          rintro e w2 ⟨rfl, hg2, hown2⟩
          have hrow' : ∀ g, v.ownBlock = some g → g ≠ w.heap.size ∧ g ≠ r0 ∧ w.heap.size ≤ g := fun g hg => by have := hrow g hg; omega
          have hM4 := hM3.grown hg2 (by intro e; have := hrow' _ e; omega)
          have hI4 : IsIter w2 r0 w.heap.size es.length (seen ++ [i]) := hI3.keep (hg2.block r0 (by omega) (fun e => by have := hrow' _ e.symm; omega))
          have hB4 : Below w.heap.size w w2 := (hB2.grown hg1 (by omega) (fun g e => by injection e with e; omega)).grown hg2 (by omega) (fun g e => (hrow' g e).2.2)
          have hw2 := hg2.size
          have hothers : ∀ (j : Nat) k2 v2 l2, j ∉ seen ++ [i] → es[j]? = some (k2, v2) → L[j]? = some (k2, l2) → w2.ownsRow (w.heap.size + 1) 3 1 v2 l2.length (ints .i64 l2) := fun j k2 v2 l2 hj h1 h2 => by
            simp only [List.mem_append, List.mem_singleton, not_or] at hj
            refine ((HS2.out.2.2.2 j k2 v2 l2 hj.1 h1 h2).kept hg1 ?_).kept hg2 (HAP.out j i _ _ hj.2 h1 HI.out)
            cases hv : v2.ownBlock with
            | none => exact .inl rfl
            | some g => exact .inr (fun e => by injection e with e; have := (HROW.out j k2 v2 h1 g hv).2; omega)
          have HOT := Lib.hid hothers
          clear hothers
          obtain ⟨A2, c2, hv2, hc2, hrd, _⟩ := Rd.of_own hown2 (by omega)
          rw [hv2]
          have HV := Lib.hid hv2
          clear hv2 hown2
          have hsl2 : (sorted ll).length = ll.length := by simp [sorted]
          have hcell : ∀ t, t < ll.length → ∃ b o, A2 = some ⟨b, o, none⟩ ∧ w2.cell? ⟨b, o + t, none⟩ = some (.int .i64 ((sorted ll).getD t 0)) := fun t ht => by
            obtain ⟨b, o, e, _, hc⟩ := hrd.at_ (by omega)
            refine ⟨b, o, e, hc t _ ?_⟩
            simp [ints, List.getD_eq_getElem?_getD, List.getElem?_eq_getElem (show t < (sorted ll).length by omega)]
          have HSL : Hid (apartB ll = apartTo (sorted ll) (ll.length - 1)) := rfl
          have HCELL := Lib.hid hcell
          clear hcell hsl2 hrd
          generalize sorted ll = sl at *
          generalize hln : ll.length = n2 at *
          have HLN2 := Lib.hid hln
          clear hln
          go_wp2
          go_loopg [9, 12] (n2 - 1) (fun g v9 v12 wx => ∃ (j d : Nat), j + g = n2 - 1 ∧ v12 = .int .i64 ((j : Int) + 1) ∧ v9 = .bool (ok && apartTo sl j) ∧ wx = w2.drewN d)
          case atStart => exact ⟨0, 0, by omega, rfl, by simp [apartTo], rfl⟩
          case round =>
            obtain ⟨j, d, hjg, rfl, rfl, rfl⟩ := hrel
            by_cases hlj : j + 1 < n2
            · obtain ⟨b1, o1, rfl, hc1⟩ := HCELL.out j (by omega)
              obtain ⟨b1', o1', e1, hc2⟩ := HCELL.out (j + 1) hlj
              injection e1 with e1; injection e1 with e1 e2; subst e1; subst e2
              have HST := Lib.hid (apartTo_succ sl j)
              generalize apartTo sl j = aj at *
              have hwr : IntKind.i64.wrap ((j : Int) + 1 - 1) = (j : Int) := by rw [Int.add_sub_cancel]; exact IntWalk.i64_in _ (by omega)
              cases hok : (ok && aj) with
              | false =>
                have HOK := Lib.hid hok
                clear hok
                go_wp2
                go_quiet (fail)
                go_wp2
                go_roundg (n2 - 1 - (j + 1))
                case measure => omega
                case rel => exact ⟨j + 1, d + nq, by omega, by go_num, by rw [HST.out, ← Bool.and_assoc, HOK.out]; rfl, rfl⟩
              | true =>
                have HOK := Lib.hid hok
                clear hok
                go_wp2
                go_quiet (fail)
                go_wp2
                go_roundg (n2 - 1 - (j + 1))
                case measure => omega
                case rel => exact ⟨j + 1, d + nq, by omega, by go_num, by rw [HST.out, ← Bool.and_assoc, HOK.out]; simp [above, List.getD_eq_getElem?_getD], rfl⟩
            · obtain rfl : j = n2 - 1 := by omega
              rw [← HSL.out]
              have hnd : (seen ++ [i]).Nodup := by
                rw [List.nodup_append]
                refine ⟨HS2.out.1, by simp, ?_⟩
                intro a ha b hb
                simp at hb
                rintro rfl
                exact hns (by rw [← hb]; exact ha)
              have hall : ∀ z ∈ seen ++ [i], z < es.length := by
                intro z hz
                rcases List.mem_append.1 hz with hz | hz
                · exact HS2.out.2.1 z hz
                · simp at hz; subst hz; exact (List.getElem?_eq_some_iff.1 HI.out).1
              have hlen := nodup_le _ _ hnd hall
              rw [List.length_append] at hlen
              simp at hlen
              have HND := Lib.hid hnd
              have HALL := Lib.hid hall
              clear hnd hall
              go_wp2
              go_roundg (es.length - (seen.length + 1))
              case measure => omega
              case rel => exact ⟨seen ++ [i], ok && apartB ll, rfl, by simp; omega, below_drewN' hB4 d, by show r0 < w2.heap.size; omega, hM4, hI4, HND.out, HALL.out, by rw [List.all_append, ← HS2.out.2.2.1]; simp [List.getD_eq_getElem?_getD, HLL.out], fun j k2 v2 l2 hj h1 h2 => HOT.out j k2 v2 l2 hj h1 h2⟩
end Go.Proofs.Ytcilfgedcnehfaa
