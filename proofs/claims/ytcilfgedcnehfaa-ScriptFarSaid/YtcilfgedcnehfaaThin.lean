import Derived.Test.YtcilfgedcnehfaaScr0
set_option linter.unusedVariables false
set_option linter.unusedSectionVars false
set_option linter.unusedSimpArgs false
namespace Go.Proofs.Ytcilfgedcnehfaa
open Go.RowKit

/-- two windows less than two apart, as words -/
def nearW (a b : Int) : Bool := decide (IntKind.u64.wrap (IntKind.u64.wrap (max a b) - IntKind.u64.wrap (min a b)) < 2)
theorem near_any (w : World) (a b : Int) : Calls Try.prog 33 #[.int .i64 a, .int .i64 b] w fun en w' => en = .returned (.bool (nearW a b)) ∧ w = w' := by
  go_enter Try.func33, Try.ntmps33
  go_wp2
  go_ret
  exact ⟨rfl, rfl⟩

theorem keyTryP : MapKey encTry Try.prog 59 := by
  refine MapKey.of_struct encTry Try.underlying59 (fun e k w => ?_) (fun a b w => ?_) (fun k => ?_)
  · kernel_rfl
  · obtain ⟨a1, a2⟩ := a
    obtain ⟨b1, b2⟩ := b
    unfold encTry Op.equal Op.maxDepth
    go_simp
    by_cases h1 : a1 = b1 <;> by_cases h2 : a2 = b2 <;> simp [h1, h2]
  · simp [encTry, Instr.sameBits]

/-- an event is near one that was taken -/
def nearAny (out : List Ev) (x : Ev) : Bool := (sel evKey Ev.wi (evKey x) out).any fun a => nearW a x.wi
def thin1 (out : List Ev) (x : Ev) : List Ev := if nearAny out x then out else out ++ [x]
def thin (l : List Ev) : List Ev := l.foldl thin1 []

set_option maxHeartbeats 2000000 in
set_option maxRecDepth 100000 in
theorem thin_walk (w : World) (A : Option Addr) (n c : Nat) (l : List Ev) (h : Rd w 6 A n (evs l)) (hn : n ≤ 1024) :
    Calls Try.prog 15 #[.slice A n c] w fun en w' => ∃ v, en = .returned (.tuple #[v, .int .i64 0]) ∧ w'.ownsRow w.heap.size 26 6 v (thin l).length (evs (thin l)) ∧ Below w.heap.size w w' := by
  have hbig := h.big
  have HL := Lib.hid h.ev_len
  have hmm := @run_makeMap Try.prog
  go_enter Try.func15, Try.ntmps15
  go_wp2_with (first | (go_at_call 27; refine (check_ok _ _ _ _ hn).mono ?_; rintro e w' ⟨rfl, rfl⟩))
  go_step3
  go_wp2
  go_step3
  go_wp2
  go_loopg [5, 20] n (fun g vo v wr => ∃ (k : Nat) (es : List ((Int × Int) × Value)) (out : List Ev), k + g = n ∧ v = .int .i64 k ∧ Below w.heap.size w wr ∧ w.heap.size < wr.heap.size ∧ IsMap encTry wr w.heap.size es ∧ Groups wr (w.heap.size + 1) 3 es (evGroups out) ∧
    wr.ownsRow (w.heap.size + 1) 26 6 vo out.length (evs out) ∧ out.length ≤ k ∧ Hid (thin (l.take k) = out))
  case atStart => exact ⟨0, [], [], by omega, rfl, (Below.refl _ _).alloc (Nat.le_refl _) _, by simp, heap_alloc_new w _, Groups.nil _ _ _, World.ownsRow_nil _ _ _ _, Nat.le_refl _, rfl⟩
  case round =>
    obtain ⟨k, es, out, hk, rfl, hB, hsz, hM, hG, hO, hol, HT⟩ := hrel
    by_cases hlt : k < n
    · obtain ⟨x, hx⟩ : ∃ x, l[k]? = some x := ⟨_, List.getElem?_eq_getElem (by rw [HL.out]; exact hlt)⟩
      obtain ⟨b, o, rfl, hbl, g0, g1, g2, g3, g4, g5⟩ := (h.below hB).ev k x hx
      have hs : thin (l.take (k + 1)) = thin1 out x := by rw [List.take_add_one, hx, ← HT.out]; unfold thin; rw [List.foldl_append]; rfl
      have HS := Lib.hid hs
      clear hx hs HT
      go_wp2_with (with_reducible refine stop_at 31 rfl ?_)
      unfold Stop
      refine wpList_lookupE (k := evKey x) rfl (.tmp 29) (.tmp 30) 57 rfl keyTryP Try.underlying57 (zeroInts _) ((hM.alloc _).alloc _) rfl rfl ?_
      have hlook := ((hG.look (evKey x)).alloc (.cells #[.int .i64 x.it, .int .i64 x.tr, .int .i64 x.wi, .int .i64 x.ti, .int .i64 x.ad, .int .u64 x.ma] 26)).alloc (.cells #[.int .i64 x.it, .int .i64 x.tr] 59)
      have hsl : (sel evKey Ev.wi (evKey x) out).length ≤ 1024 := by
        unfold sel
        rw [List.length_map]
        have := List.length_filter_le (fun z => decide (evKey z = evKey x)) out
        omega
      obtain ⟨A2, c2, hv2, hc2, hrd, _⟩ := Rd.of_own hlook (by omega)
      rw [hv2]
      have HSN : Hid (nearAny out x = (sel evKey Ev.wi (evKey x) out).any fun a => nearW a x.wi) := rfl
      clear hv2 hlook
      have hcell : ∀ t, t < (sel evKey Ev.wi (evKey x) out).length → ∃ b o, A2 = some ⟨b, o, none⟩ ∧ b < wr.heap.size + 2 ∧ ((wr.alloc (.cells #[.int .i64 x.it, .int .i64 x.tr, .int .i64 x.wi, .int .i64 x.ti, .int .i64 x.ad, .int .u64 x.ma] 26)).alloc (.cells #[.int .i64 x.it, .int .i64 x.tr] 59)).cell? ⟨b, o + t, none⟩ = some (.int .i64 ((sel evKey Ev.wi (evKey x) out).getD t 0)) := fun t ht => by
        obtain ⟨b, o, e, hb, hc⟩ := hrd.at_ (by omega)
        refine ⟨b, o, e, by simpa using hb, hc t _ ?_⟩
        simp [ints, List.getD_eq_getElem?_getD, List.getElem?_eq_getElem ht]
      have HCELL := Lib.hid hcell
      have HSE : Hid (sel evKey Ev.wi (evKey x) out = sel evKey Ev.wi (evKey x) out) := rfl
      clear hcell hrd
      generalize hse : sel evKey Ev.wi (evKey x) out = S at *
      have HSE2 := Lib.hid hse
      clear hse HSE
      go_wp2
      go_loopg [33] S.length (fun g v wx => ∃ t : Nat, t + g = S.length ∧ v = .int .i64 t ∧ wx = ((wr.alloc (.cells #[.int .i64 x.it, .int .i64 x.tr, .int .i64 x.wi, .int .i64 x.ti, .int .i64 x.ad, .int .u64 x.ma] 26)).alloc (.cells #[.int .i64 x.it, .int .i64 x.tr] 59)) ∧ Hid ((S.take t).any (fun a => nearW a x.wi) = false))
      case atStart => exact ⟨0, by omega, rfl, rfl, rfl⟩
      case round =>
        obtain ⟨t, htg, rfl, rfl, HN⟩ := hrel
        by_cases htl : t < S.length
        · obtain ⟨b1, o1, rfl, hb1, hc1⟩ := HCELL.out t htl
          have hnx : Hid ((S.take (t + 1)).any (fun a => nearW a x.wi) = (nearW (S.getD t 0) x.wi)) := by
            show _ = _
            rw [List.take_add_one, List.getElem?_eq_getElem htl, List.any_append, HN.out]
            simp [List.getD_eq_getElem?_getD, List.getElem?_eq_getElem htl]
          have hany : Hid (nearW (S.getD t 0) x.wi = true → S.any (fun a => nearW a x.wi) = true) := by
            intro hq
            rw [List.any_eq_true]
            exact ⟨S.getD t 0, by rw [List.getD_eq_getElem?_getD, List.getElem?_eq_getElem htl]; exact List.getElem_mem htl, hq⟩
          generalize S.getD t 0 = st at *
          go_wp2_with (first | (go_at_call 33; refine (near_any _ _ _).mono ?_; rintro e w' ⟨rfl, rfl⟩))
          · have hq : nearW st x.wi = true := by assumption
            go_roundg (n - (k + 1))
            case measure => omega
            case rel =>
              exact ⟨k + 1, es, out, by omega, by go_num, (hB.alloc (by omega) _).alloc (by simp; omega) _, by simp; omega, (hM.alloc _).alloc _, hG.below (balloc (balloc (Below.refl _ _) _) _), (hO.alloc _).alloc _, by omega, by show _ = _; rw [HS.out, thin1, if_pos (by rw [HSN.out]; exact hany.out hq)]⟩
          · have hq : nearW st x.wi = false := by assumption
            go_roundg (S.length - (t + 1))
            case measure => omega
            case rel => exact ⟨t + 1, by omega, by go_num, rfl, by show _ = _; rw [hnx.out]; exact hq⟩
        · obtain rfl : t = S.length := by omega
          rw [List.take_length] at HN
          have hs2 : thin1 out x = out ++ [x] := by unfold thin1; rw [HSN.out, HN.out]; rfl
          have HS2 := Lib.hid hs2
          clear hs2
          have hgs : evGroups (out ++ [x]) = gAdd (evKey x) x.wi (evGroups out) := groups_snoc _ _ _ _
          have HGS := Lib.hid hgs
          have hG1 := hG.entOf (evKey x)
          have hat := entOf_at (evKey x) es (Value.slice none 0 0)
          have hatL := entOf_at (evKey x) (evGroups out) ([] : List Int)
          have hidx := (entOf_keys (evKey x) es (evGroups out) (Value.slice none 0 0) ([] : List Int) hG.keys).2
          have hl1 : (entOf (evKey x) (evGroups out) []).2.2 = S := (ent_sel (groups_inv evKey Ev.wi out) (evKey x)).trans HSE2.out
          have hgA : gAdd (evKey x) x.wi (evGroups out) = (entOf (evKey x) (evGroups out) []).1.set (entOf (evKey x) (evGroups out) []).2.1 (evKey x, (entOf (evKey x) (evGroups out) []).2.2 ++ [x.wi]) := rfl
          have HGA := Lib.hid hgA
          clear hgA hgs
          generalize hes : entOf (evKey x) es (Value.slice none 0 0) = R at *
          generalize entOf (evKey x) (evGroups out) ([] : List Int) = R' at *
          obtain ⟨es1, i1, v1⟩ := R
          obtain ⟨L1, i1', l1⟩ := R'
          dsimp only at *
          subst hidx
          subst hl1
          have HES := Lib.hid hes
          have HAT := Lib.hid hat
          have HATL := Lib.hid hatL
          clear hes hat hatL
          have hM0 := (hM.alloc (.cells #[.int .i64 x.it, .int .i64 x.tr, .int .i64 x.wi, .int .i64 x.ti, .int .i64 x.ad, .int .u64 x.ma] 26)).alloc (.cells #[.int .i64 x.it, .int .i64 x.tr] 59)
          go_wp2_with (with_reducible refine stop_at 48 rfl ?_)
          unfold Stop
          refine wpList_mapEntry (k := evKey x) (es := es) rfl (.tmp 42) (.tmp 43) 57 rfl keyTryP Try.underlying57 (zeroInts _) (hM0.alloc _) rfl rfl ?_
          intro w1 hM1 hgM1
          rw [HES.out] at hM1 ⊢
          dsimp only
          have hGa := (hG1.below (balloc (balloc (balloc (Below.refl _ _) _) _) _)).kept hgM1 (fun g e => by injection e with e; omega)
          have hOa := (((hO.alloc _).alloc _).alloc _).kept hgM1 (.inr (own_ne_map hO hM))
          have hs1 : wr.heap.size + 3 ≤ w1.heap.size := by have := hgM1.size; simp at this; omega
          have hown := hGa.own _ _ _ _ _ HAT.out HATL.out
          have hB1 : Below w.heap.size w w1 := Below.grown (by repeat (first | exact hB | refine balloc ?_ _)) hgM1 (by simp; omega) (fun g e => by injection e with e; omega)
          have hk : ∀ j, w1.cell? ⟨wr.heap.size, j, none⟩ = (#[Value.int .i64 x.it, .int .i64 x.tr, .int .i64 x.wi, .int .i64 x.ti, .int .i64 x.ad, .int .u64 x.ma])[j]? := fun j => by
            rw [World.cell?_of_block (hgM1.block wr.heap.size (by simp; omega) (by intro e; injection e with e; omega))]
            exact new_cell (W := ((_ : World).alloc _).alloc _) (balloc (balloc (Below.refl _ _) _) _) j
          have HK := Lib.hid hk
          clear hk
          have k2 := HK.out 2
          go_wp2_with (with_reducible refine stop_at 49 rfl ?_)
          unfold Stop
          refine wpList_append_rd _ rfl (.tmp 44) (.tmp 47) 60 rfl (w.heap.size + 1) 3 _ 1 8 (by kernel_rfl) infoInt rfl (by omega) v1 l1.length (ints .i64 l1) rfl hown _ 1 1 (ints .i64 [x.wi]) rfl ?_ (ints_one _ _) (by omega) (by omega) (by omega) ?_
          · exact (rd_at _ _ _ 1 1 _ (by simp) rfl (by omega)).grown hgM1 (fun b' o' e => by simp at e; intro h; injection h with h; omega)
          intro v2 w2 hown2 hg2 hat2
          have hv1 : ∀ g, v1.ownBlock = some g → w.heap.size + 1 ≤ g ∧ g < wr.heap.size := fun g hg => (hG1.own _ _ _ _ _ HAT.out HATL.out).lt g hg
          have hM2 := hM1.grown hg2 (by intro e; have := hv1 _ e; omega)
          have hw2 := hg2.size
          have hown2' : w2.ownsRow (w.heap.size + 1) 3 1 v2 (l1 ++ [x.wi]).length (ints .i64 (l1 ++ [x.wi])) := by rw [List.length_append, ← ints_append]; exact hown2
          have hG2 := hGa.set_ (by omega) HAT.out HATL.out hg2 hown2' (by
            rcases hat2 with e | e
            · exact .inl e
            · exact .inr (fun g h => by rw [e] at h; injection h with h; omega))
          have hO2 := hOa.kept hg2 (own_ne hOa hown (by decide))
          have hB2 := hB1.grown hg2 (by omega) (fun g e => by have := hv1 g e; omega)
          go_wp2_with (with_reducible refine wpList_entryStore rfl (.tmp 42) (.tmp 50) (.tmp 49) 57 rfl hM2 ?_ i1 ?_ (evKey x) v1 v2 HAT.out ?_ ?_)
          · rfl
          · rfl
          · rfl
          intro w3 hM3 hg3
          have hw3 := hg3.size
          have hG3 := hG2.kept hg3 (fun g e => by injection e with e; omega)
          have hO3 := hO2.kept hg3 (.inr (own_ne_map hO2 hM2))
          have hB3 := hB2.grown hg3 (by omega) (fun g e => by injection e with e; omega)
          have hk3 : ∀ j, w3.cell? ⟨wr.heap.size, j, none⟩ = (#[Value.int .i64 x.it, .int .i64 x.tr, .int .i64 x.wi, .int .i64 x.ti, .int .i64 x.ad, .int .u64 x.ma])[j]? := fun j => by
            rw [World.cell?_of_block (hg3.block wr.heap.size (by omega) (by intro e; injection e with e; omega)), World.cell?_of_block (hg2.block wr.heap.size (by omega) (by intro e; have := hv1 _ e.symm; omega))]
            exact HK.out j
          have k0 := hk3 0
          have k1 := hk3 1
          have k2 := hk3 2
          have k3 := hk3 3
          have k4 := hk3 4
          have k5 := hk3 5
          clear hk3
          go_wp2_with (with_reducible refine stop_at 54 rfl ?_)
          unfold Stop
          refine wpList_append_rd _ rfl (.tmp 51) (.tmp 53) 22 rfl (w.heap.size + 1) 26 _ 6 48 (by kernel_rfl) infoEv rfl (by omega) u5 out.length (evs out) rfl (hO3.alloc _) _ 1 1 (evs [x]) rfl (rd_at _ _ _ 6 1 _ rfl rfl (by omega)) (evs_one _) (by omega) (by omega) (by simp; omega) ?_
          intro v3 w4 hO4 hg4 hat4
          have hw4 := hg4.size
          have hO4' : w4.ownsRow (w.heap.size + 1) 26 6 v3 (out ++ [x]).length (evs (out ++ [x])) := by rw [List.length_append, ← evs_append]; exact hO4
          have hG4 := (hG3.below (balloc (Below.refl _ _) _)).kept_own (hO3.alloc _) (by decide) hg4
          have hM4 := (hM3.alloc _).grown hg4 (own_ne_map hO3 hM3)
          have hB4 := (hB3.alloc (by omega) _).grown hg4 (by simp; omega) (fun g e => by have := hO3.lt g e; omega)
          go_wp2
          go_roundg (n - (k + 1))
          case measure => omega
          case rel =>
            exact ⟨k + 1, _, out ++ [x], by omega, by go_num, hB4, by simp at hw4; omega, hM4, by rw [HGS.out, HGA.out]; exact hG4, hO4', by simp; omega, by show _ = _; rw [HS.out, HS2.out]⟩
    · obtain rfl : k = n := by omega
      rw [List.take_of_length_le (by rw [HL.out]; exact Nat.le_refl _)] at HT
      go_wp2
      try rw [Exit.noGoto_ret]
      go_ret2
      refine ⟨u5, rfl, ?_, hB⟩
      rw [HT.out]
      obtain ⟨h1, h2⟩ := hO
      exact ⟨h1, h2.imp id fun ⟨g, cap, cur, e, hb, r⟩ => ⟨g, cap, cur, e, by omega, r⟩⟩
end Go.Proofs.Ytcilfgedcnehfaa
