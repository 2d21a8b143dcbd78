import Derived.Test.YtcilfgedcnehfaaProg
import Derived.Test.YtcilfgedcnehfaaPAud
set_option linter.unusedVariables false
set_option linter.unusedSectionVars false
set_option linter.unusedSimpArgs false
namespace Go.Proofs.Ytcilfgedcnehfaa
open Go.RowKit

theorem infoEv : (Try.prog.info? 26).map (fun i => (i.zero, i.size, i.bytes)) = some (some (.agg #[.int .i64 0, .int .i64 0, .int .i64 0, .int .i64 0, .int .i64 0, .int .u64 0]), 6, 48) := by kernel_rfl
theorem infoRc : (Try.prog.info? 34).map (fun i => (i.zero, i.size, i.bytes)) = some (some (.agg #[.int .i64 0, .int .i64 0, .int .i64 0, .int .i64 0, .int .u64 0, .int .u64 0]), 6, 48) := by kernel_rfl

theorem check_any (w : World) (A : Option Addr) (n c : Nat) (hn : n ≤ 140737488355328) :
    Calls Try.prog 27 #[.slice A n c] w fun en w' => en = .returned (.int .i64 (if 1024 < n then 1 else 0)) ∧ w = w' := by
  go_enter Try.func27, Try.ntmps27
  go_wp2
  all_goals (go_ret; simp; try omega)

theorem check_ok (w : World) (A : Option Addr) (n c : Nat) (hn : n ≤ 1024) : Calls Try.prog 27 #[.slice A n c] w fun en w' => en = .returned (.int .i64 0) ∧ w = w' := by
  refine (check_any w A n c (by omega)).mono ?_
  rintro e w' ⟨rfl, rfl⟩
  rw [if_neg (by omega)]
  exact ⟨rfl, rfl⟩

theorem did_any (w : World) (x : Ev) (r : Rc) (b : Nat) (hb : b < w.heap.size) (h0 : w.cell? ⟨b, 0, none⟩ = some (.int .i64 r.it)) (h1 : w.cell? ⟨b, 1, none⟩ = some (.int .i64 r.tr)) (h2 : w.cell? ⟨b, 2, none⟩ = some (.int .i64 r.wi))
    (h3 : w.cell? ⟨b, 3, none⟩ = some (.int .i64 r.ad)) (h4 : w.cell? ⟨b, 4, none⟩ = some (.int .u64 r.ba)) (h5 : w.cell? ⟨b, 5, none⟩ = some (.int .u64 r.go)) :
    Calls Try.prog 32 #[x.val, .pointer (some ⟨b, 0, none⟩)] w fun en w' => en = .returned (.bool (did x r)) ∧ Below w.heap.size w w' := by
  obtain ⟨x0, x1, x2, x3, x4, x5⟩ := x
  obtain ⟨r0, r1, r2, r3, r4, r5⟩ := r
  dsimp only [Ev.val] at *
  go_enter Try.func32, Try.ntmps32
  go_wp2
  all_goals (go_ret; refine ⟨?_, (Below.refl _ _).alloc (Nat.le_refl _) _⟩; (try simp [did, *]) <;> omega)

/-- where the first is, of those from 'k' on -/
def idx {α : Type} (p : Nat → α → Bool) : Nat → List α → Int
  | _, [] => -1
  | k, x :: l => if p k x then (k : Int) else idx p (k + 1) l

theorem drop_at {α : Type} {l : List α} {k : Nat} {x : α} (h : l[k]? = some x) : l.drop k = x :: l.drop (k + 1) := by
  obtain ⟨hk, rfl⟩ := List.getElem?_eq_some_iff.1 h
  exact List.drop_eq_getElem_cons hk

theorem indexEv_any (w : World) (A : Option Addr) (n c : Nat) (l : List Ev) (I : Nat → World → Prop) (p : Nat → Ev → Bool) (K : Nat) (cap : Array Value) (hK : ∀ args W, (callFunc K args).run Try.prog W = .ok (.enter K args) W)
    (hI : ∀ k W, I k W → Rd W 6 A n (evs l)) (h0 : I 0 w) (hp : ∀ k x, l[k]? = some x → ∀ W, I k W → Calls Try.prog K (#[x.val] ++ cap) W fun en w' => en = .returned (.bool (p k x)) ∧ I (k + 1) w') :
    Calls Try.prog 44 #[.slice A n c, .func (.func K) #[] cap] w fun en w' => en = .returned (.int .i64 (idx p 0 l)) ∧ ∃ k, I k w' := by
  have hb := (hI 0 w h0).big
  have hln := Lib.hid (hI 0 w h0).ev_len
  go_enter Try.func44, Try.ntmps44
  go_wp2
  go_loopw [8] (fun v wr => ∃ k : Nat, k ≤ n ∧ v = .int .i64 k ∧ I k wr ∧ Hid (idx p 0 l = idx p k (l.drop k))) (fun v _ => n - (intOf v).toNat)
  case atStart => exact ⟨0, Nat.zero_le _, rfl, h0, rfl⟩
  case round =>
    obtain ⟨k, hk, rfl, hB, hE⟩ := hrel
    by_cases hlt : k < n
    · obtain ⟨x, hx⟩ : ∃ x, l[k]? = some x := ⟨_, List.getElem?_eq_getElem (by rw [hln.out]; exact hlt)⟩
      obtain ⟨b, o, rfl, hbl, g0, g1, g2, g3, g4, g5⟩ := (hI k wr hB).ev k x hx
      have hc := hp k x hx wr hB
      have hd := drop_at hx
      have HX := Lib.hid hx
      have HD := Lib.hid hd
      have HC := Lib.hid hc
      clear hx hd hc
      go_wp2
      go_simp
      refine HC.out.mono ?_
      rintro e w' ⟨rfl, hB'⟩
      cases hpx : p k x with
      | true =>
        have HP := Lib.hid hpx
        clear hpx
        go_wp2
        go_ret
        refine ⟨?_, k + 1, hB'⟩
        rw [hE.out, HD.out, idx, HP.out]; rfl
      | false =>
        have HP := Lib.hid hpx
        clear hpx
        go_wp2
        go_roundw
        case rel => exact ⟨k + 1, by omega, by go_num, hB', by show _ = _; rw [hE.out, HD.out, idx, HP.out]; rfl⟩
        case measure => simp [intOf]; omega
    · obtain rfl : k = n := by omega
      go_wp2
      go_ret
      refine ⟨?_, k, hB⟩
      rw [hE.out, List.drop_eq_nil_of_le (by rw [hln.out]; exact Nat.le_refl _)]; rfl
theorem indexRc_any (w : World) (A : Option Addr) (n c : Nat) (l : List Rc) (I : Nat → World → Prop) (p : Nat → Rc → Bool) (K : Nat) (cap : Array Value) (hK : ∀ args W, (callFunc K args).run Try.prog W = .ok (.enter K args) W)
    (hI : ∀ k W, I k W → Rd W 6 A n (rcs l)) (h0 : I 0 w) (hp : ∀ k x, l[k]? = some x → ∀ W, I k W → Calls Try.prog K (#[x.val] ++ cap) W fun en w' => en = .returned (.bool (p k x)) ∧ I (k + 1) w') :
    Calls Try.prog 49 #[.slice A n c, .func (.func K) #[] cap] w fun en w' => en = .returned (.int .i64 (idx p 0 l)) ∧ ∃ k, I k w' := by
  have hb := (hI 0 w h0).big
  have hln := Lib.hid (hI 0 w h0).rc_len
  go_enter Try.func49, Try.ntmps49
  go_wp2
  go_loopw [8] (fun v wr => ∃ k : Nat, k ≤ n ∧ v = .int .i64 k ∧ I k wr ∧ Hid (idx p 0 l = idx p k (l.drop k))) (fun v _ => n - (intOf v).toNat)
  case atStart => exact ⟨0, Nat.zero_le _, rfl, h0, rfl⟩
  case round =>
    obtain ⟨k, hk, rfl, hB, hE⟩ := hrel
    by_cases hlt : k < n
    · obtain ⟨x, hx⟩ : ∃ x, l[k]? = some x := ⟨_, List.getElem?_eq_getElem (by rw [hln.out]; exact hlt)⟩
      obtain ⟨b, o, rfl, hbl, g0, g1, g2, g3, g4, g5⟩ := (hI k wr hB).rc k x hx
      have hc := hp k x hx wr hB
      have hd := drop_at hx
      have HX := Lib.hid hx
      have HD := Lib.hid hd
      have HC := Lib.hid hc
      clear hx hd hc
      go_wp2
      go_simp
      refine HC.out.mono ?_
      rintro e w' ⟨rfl, hB'⟩
      cases hpx : p k x with
      | true =>
        have HP := Lib.hid hpx
        clear hpx
        go_wp2
        go_ret
        refine ⟨?_, k + 1, hB'⟩
        rw [hE.out, HD.out, idx, HP.out]; rfl
      | false =>
        have HP := Lib.hid hpx
        clear hpx
        go_wp2
        go_roundw
        case rel => exact ⟨k + 1, by omega, by go_num, hB', by show _ = _; rw [hE.out, HD.out, idx, HP.out]; rfl⟩
        case measure => simp [intOf]; omega
    · obtain rfl : k = n := by omega
      go_wp2
      go_ret
      refine ⟨?_, k, hB⟩
      rw [hE.out, List.drop_eq_nil_of_le (by rw [hln.out]; exact Nat.le_refl _)]; rfl

theorem idx_any {α : Type} (q : α → Bool) : ∀ (l : List α) (k : Nat), decide (0 ≤ idx (fun _ => q) k l) = l.any q
  | [], k => by simp [idx]
  | x :: l, k => by
    unfold idx
    cases h : q x with
    | true => simp [h]
    | false => simpa [h] using idx_any q l (k + 1)

theorem containsEv_any (w : World) (A : Option Addr) (n c : Nat) (l : List Ev) (I : Nat → World → Prop) (p : Nat → Ev → Bool) (K : Nat) (cap : Array Value) (hK : ∀ args W, (callFunc K args).run Try.prog W = .ok (.enter K args) W)
    (hI : ∀ k W, I k W → Rd W 6 A n (evs l)) (h0 : I 0 w) (hp : ∀ k x, l[k]? = some x → ∀ W, I k W → Calls Try.prog K (#[x.val] ++ cap) W fun en w' => en = .returned (.bool (p k x)) ∧ I (k + 1) w') :
    Calls Try.prog 31 #[.slice A n c, .func (.func K) #[] cap] w fun en w' => en = .returned (.bool (decide (0 ≤ idx p 0 l))) ∧ ∃ k, I k w' := by
  have HC := Lib.hid (indexEv_any w A n c l I p K cap hK hI h0 hp)
  clear hI h0 hp hK
  go_enter Try.func31, Try.ntmps31
  go_wp2_with fail
  refine HC.out.mono ?_
  rintro e w' ⟨rfl, hB⟩
  go_wp2
  go_ret
  exact ⟨rfl, hB⟩
theorem containsRc_any (w : World) (A : Option Addr) (n c : Nat) (l : List Rc) (I : Nat → World → Prop) (p : Nat → Rc → Bool) (K : Nat) (cap : Array Value) (hK : ∀ args W, (callFunc K args).run Try.prog W = .ok (.enter K args) W)
    (hI : ∀ k W, I k W → Rd W 6 A n (rcs l)) (h0 : I 0 w) (hp : ∀ k x, l[k]? = some x → ∀ W, I k W → Calls Try.prog K (#[x.val] ++ cap) W fun en w' => en = .returned (.bool (p k x)) ∧ I (k + 1) w') :
    Calls Try.prog 42 #[.slice A n c, .func (.func K) #[] cap] w fun en w' => en = .returned (.bool (decide (0 ≤ idx p 0 l))) ∧ ∃ k, I k w' := by
  have HC := Lib.hid (indexRc_any w A n c l I p K cap hK hI h0 hp)
  clear hI h0 hp hK
  go_enter Try.func42, Try.ntmps42
  go_wp2_with fail
  refine HC.out.mono ?_
  rintro e w' ⟨rfl, hB⟩
  go_wp2
  go_ret
  exact ⟨rfl, hB⟩

theorem callK30 : ∀ args W, (callFunc 30 args).run Try.prog W = .ok (.enter 30 args) W := fun _ _ => by kernel_rfl
theorem callK32 : ∀ args W, (callFunc 32 args).run Try.prog W = .ok (.enter 32 args) W := fun _ _ => by kernel_rfl

theorem match1_any (w : World) (r : Rc) (A : Option Addr) (n c : Nat) (l : List Ev) (h : Rd w 6 A n (evs l)) (b : Nat) (hb : b < w.heap.size) (hc : w.cell? ⟨b, 0, none⟩ = some (.slice A n c)) :
    Calls Try.prog 30 #[r.val, .pointer (some ⟨b, 0, none⟩)] w fun en w' => en = .returned (.bool (l.any fun x => did x r)) ∧ Below w.heap.size w w' := by
  have HA := Lib.hid (idx_any (fun x => did x r) l 0)
  obtain ⟨r0, r1, r2, r3, r4, r5⟩ := r
  dsimp only [Rc.val] at *
  go_enter Try.func30, Try.ntmps30
  go_wp2_with fail
  refine (containsEv_any _ A n c l (fun _ W => Below (w.alloc _).heap.size (w.alloc _) W) (fun _ x => did x ⟨r0, r1, r2, r3, r4, r5⟩) _ _ callK32 (fun k W hB => (h.alloc _).below hB) (Below.refl _ _) (fun k x hx W hB => ?_)).mono ?_
  · exact (did_any W x ⟨r0, r1, r2, r3, r4, r5⟩ w.heap.size (new_lt hB) (new_cell hB 0) (new_cell hB 1) (new_cell hB 2) (new_cell hB 3) (new_cell hB 4) (new_cell hB 5)).mono fun e w' ⟨he, hw⟩ => ⟨he, bthen hB hw⟩
  · rintro e w' ⟨rfl, k, hB⟩
    go_wp2
    go_ret
    exact ⟨by rw [HA.out]; rfl, bafter hB⟩

theorem callK43 : ∀ args W, (callFunc 43 args).run Try.prog W = .ok (.enter 43 args) W := fun _ _ => by kernel_rfl

theorem all1_any (w : World) (r : Rc) (b : Nat) (hb : b < w.heap.size) (K : Nat) (cap : Array Value) (hK : ∀ args W, (callFunc K args).run Try.prog W = .ok (.enter K args) W) (hc : w.cell? ⟨b, 0, none⟩ = some (.func (.func K) #[] cap))
    (v : Bool) (J : World → Prop) (hp : ∀ W, Below w.heap.size w W → Calls Try.prog K (#[r.val] ++ cap) W fun en w' => en = .returned (.bool v) ∧ J w') :
    Calls Try.prog 43 #[r.val, .pointer (some ⟨b, 0, none⟩)] w fun en w' => en = .returned (.bool (!v)) ∧ J w' := by
  obtain ⟨r0, r1, r2, r3, r4, r5⟩ := r
  dsimp only [Rc.val] at *
  have HP := Lib.hid hp
  clear hp
  go_enter Try.func43, Try.ntmps43
  go_wp2_with fail
  go_simp
  refine (HP.out _ ((Below.refl _ _).alloc (Nat.le_refl _) _)).mono ?_
  rintro e w' ⟨rfl, hB⟩
  go_wp2
  go_ret
  exact ⟨rfl, hB⟩

theorem allRc_any (w : World) (A : Option Addr) (n c : Nat) (l : List Rc) (I : Nat → World → Prop) (T : Nat → Prop) (hT : ∀ k, T k → k < w.heap.size) (p : Nat → Rc → Bool) (K : Nat) (cap : Array Value) (hK : ∀ args W, (callFunc K args).run Try.prog W = .ok (.enter K args) W)
    (hI : ∀ k W, I k W → Rd W 6 A n (rcs l)) (h0 : I 0 w) (hst : ∀ k W W', I k W → Below W.heap.size W W' → I k W')
    (hp : ∀ k x, l[k]? = some x → ∀ W, I k W → w.heap.size ≤ W.heap.size → Calls Try.prog K (#[x.val] ++ cap) W fun en w' => en = .returned (.bool (p k x)) ∧ I (k + 1) w' ∧ Kp T W w') :
    Calls Try.prog 29 #[.slice A n c, .func (.func K) #[] cap] w fun en w' => en = .returned (.bool (!decide (0 ≤ idx (fun k x => !p k x) 0 l))) ∧ (∃ k, I k w') ∧ Kp T w w' := by
  have HC := fun (o : Obj) (ho : o = .cells #[.func (.func K) #[] cap] 56) => containsRc_any (w.alloc o) A n c l (fun k W => I k W ∧ Kp T (w.alloc o) W) (fun k x => !p k x) 43 #[.pointer (some ⟨w.heap.size, 0, none⟩)] callK43
    (fun k W h => hI k W h.1) ⟨hst _ _ _ h0 ((Below.refl _ _).alloc (Nat.le_refl _) _), Kp.refl _ _⟩ (fun k x hx W hW => by
      subst ho
      have hsz := hW.2.size
      rw [alloc_size] at hsz
      have hc : W.cell? ⟨w.heap.size, 0, none⟩ = some (.func (.func K) #[] cap) := by
        rw [hW.2.cell (by simp) (fun h => Nat.lt_irrefl _ (hT _ h)), cell_of_row _ _ 0 _ _ (0, 0) (heap_alloc_new w _)]; rfl
      refine (all1_any W x w.heap.size (by omega) K cap hK hc (p k x) (fun w' => I (k + 1) w' ∧ Kp T (w.alloc (.cells #[.func (.func K) #[] cap] 56)) w') fun W' hb => ?_)
      exact (hp k x hx W' (hst _ _ _ hW.1 hb) (by have := hb.size; omega)).mono fun e w' ⟨he, h1, h2⟩ => ⟨he, h1, (hW.2.then_below hb).trans h2⟩)
  have HD := Lib.hid HC
  clear HC hp hst hI h0 hK
  go_enter Try.func29, Try.ntmps29
  go_wp2_with fail
  refine (HD.out _ rfl).mono ?_
  rintro e w' ⟨rfl, k, hB, hk⟩
  go_wp2
  go_ret
  exact ⟨rfl, ⟨k, hB⟩, ((Kp.refl _ _).alloc _).trans hk⟩

theorem not_idx {α : Type} (q : α → Bool) (l : List α) : (!decide (0 ≤ idx (fun _ x => !q x) 0 l)) = l.all q := by
  rw [idx_any (fun x => !q x) l 0]; induction l with
  | nil => rfl
  | cons x l ih => simp only [List.any_cons, List.all_cons, ← ih]; cases q x <;> simp

theorem match_any (w : World) (A B : Option Addr) (n m c d : Nat) (l : List Ev) (r : List Rc) (h : Rd w 6 A n (evs l)) (g : Rd w 6 B m (rcs r)) (hn : n ≤ 1024) (hm : m ≤ 65536) :
    Calls Try.prog 13 #[.slice A n c, .slice B m d] w fun en w' => en = .returned (.tuple #[.bool (matches_ l r), .int .i64 0]) ∧ Below w.heap.size w w' := by
  have HL := Lib.hid h.ev_len
  have HR := Lib.hid g.rc_len
  have HA := Lib.hid (not_idx (fun y => l.any fun x => did x y) r)
  have HM : Hid ((r.all (fun y => l.any fun x => did x y) && decide (m ≤ n)) = matches_ l r) := by unfold matches_; rw [HL.out, HR.out]; rfl
  have HC := Lib.hid (allRc_any (w.alloc (.cells #[.slice A n c] 22)) B m d r (fun k W => Below (w.alloc (.cells #[.slice A n c] 22)).heap.size (w.alloc (.cells #[.slice A n c] 22)) W) (fun _ => False) (fun _ h => h.elim)
    (fun k y => l.any fun x => did x y) 30 #[.pointer (some ⟨w.heap.size, 0, none⟩)] callK30 (fun k W hB => (g.alloc _).below hB) (Below.refl _ _) (fun k W W' hB hb => bthen hB hb)
    (fun k x hx W hB _ => (match1_any W x A n c l ((h.alloc _).below hB) w.heap.size (new_lt hB) (new_cell hB 0)).mono fun e w' ⟨he, hw⟩ => ⟨he, bthen hB hw, Kp.of_below hw⟩))
  go_enter Try.func13, Try.ntmps13
  go_wp2_with (first | (go_at_call 27; refine (check_any _ _ _ _ h.big).mono ?_; rintro e w' ⟨rfl, rfl⟩))
  refine HC.out.mono ?_
  rintro e w' ⟨rfl, ⟨k, hB⟩, hk⟩
  rw [HA.out]
  have h0 := new_cell hB 0
  go_wp2
  all_goals (go_ret2; exact ⟨by rw [← HM.out]; simp [*], bafter hB⟩)

theorem match_v (w : World) (u v : Value) (n m : Nat) (l : List Ev) (r : List Rc) (h : RdV w 6 u n (evs l)) (g : RdV w 6 v m (rcs r)) (hn : n ≤ 1024) (hm : m ≤ 65536) :
    Calls Try.prog 13 #[u, v] w fun en w' => en = .returned (.tuple #[.bool (matches_ l r), .int .i64 0]) ∧ Below w.heap.size w w' := by
  obtain ⟨A, c, rfl, _, h⟩ := h
  obtain ⟨B, d, rfl, _, g⟩ := g
  exact match_any w A B n m c d l r h g hn hm
end Go.Proofs.Ytcilfgedcnehfaa
