-- Written by a program (wip/pr.py) over the kit's printer and contracts of my own
import Derived.Test.YtcilfgedcnehfaaDoorPCPx0
import Derived.Test.YtcilfgedcnehfaaDoorPCPx2
import Derived.Test.YtcilfgedcnehfaaDoorPCPx4
namespace Go.Proofs.YtcilfgedcnehfaaDoor.PCP
open Go.RowKit Go.Proofs.YtcilfgedcnehfaaDoorW.PrintWords Go.Proofs.YtcilfgedcnehfaaDoorW.PrintLast Go.Proofs.YtcilfgedcnehfaaDoorW.PrintMore
attribute [local go_sem] max2_int min2_int max_two min_two max_three min_three max_four min_four   -- for this text's walks alone
set_option linter.unusedVariables false
set_option linter.unusedSimpArgs false

/-! ### power_Powers: function 33 -/
def power_Powers.l0 : Nat → Int → Int → List Int → Int → Int → Int → Option (List Int × Int)
  | 0, _, _, _, _, _, _ => none
  | k + 1, x0, x1, x8, x9, x25, x26 => if x26 < x25 then ((field_Mul.f x0 x9 x1).bind fun t169 => (if 0 ≤ x26 then (if x26 < (x8.length : Int) then (power_Powers.l0 k x0 x1 (x8.set (x26 : Int).toNat x9) t169 x25 (wrap64 (x26 + 1))) else (none)) else (none))) else (some (x8, 0))
def power_Powers.f (k : Nat) (a0 : Int) (a1 : Int) (a2 : Int) : Option (List Int × Int) := (field_Known.f a0).bind fun t165 => (if t165 = true then (if a2 < 0 then (some (([] : List Int), 1)) else (if a2 > 65536 then (some (([] : List Int), 1)) else (if 0 ≤ a2 then (if (a2 : Int).toNat ≤ 35184372088832 then ((some (List.replicate (a2 : Int).toNat 0 : List Int)).bind fun y166 => (power_Powers.l0 k a0 a1 y166 1 (y166.length : Int) 0)) else (none)) else (none)))) else (some (([] : List Int), 2)))
theorem power_Powers.mono_l : ∀ k, (∀ y0 y1 y2 y3 y4 y5, LeO (power_Powers.l0 k y0 y1 y2 y3 y4 y5) (power_Powers.l0 (k + 1) y0 y1 y2 y3 y4 y5))
  | 0 => fun _ _ _ _ _ _ r h => by simp [power_Powers.l0] at h
  | k + 1 => by
    have ih0 := power_Powers.mono_l k
    · intro y0 y1 y2 y3 y4 y5
      unfold power_Powers.l0
      repeat' first
      | (with_reducible exact ih0 _ _ _ _ _ _)
      | (with_reducible exact LeO.refl _)
      | (with_reducible exact LeO.none _)
      | (with_reducible refine LeO.ite ?_ ?_)
      | (with_reducible refine LeO.bind ?_ (fun _ => ?_))
      | exact ih0 _ _ _ _ _ _
      | exact LeO.none _
      | refine LeO.ite ?_ ?_
      | refine LeO.bind ?_ (fun _ => ?_)
theorem power_Powers.mono : ∀ a0 a1 a2 k, LeO (power_Powers.f k a0 a1 a2) (power_Powers.f (k + 1) a0 a1 a2) := by
  intro a0 a1 a2 k
  have ih0 := power_Powers.mono_l k
  unfold power_Powers.f
  repeat' first
      | (with_reducible exact ih0 _ _ _ _ _ _)
      | (with_reducible exact LeO.refl _)
      | (with_reducible exact LeO.none _)
      | (with_reducible refine LeO.ite ?_ ?_)
      | (with_reducible refine LeO.bind ?_ (fun _ => ?_))
      | exact ih0 _ _ _ _ _ _
      | exact LeO.none _
      | refine LeO.ite ?_ ?_
      | refine LeO.bind ?_ (fun _ => ?_)
set_option maxHeartbeats 8000000 in
set_option maxRecDepth 100000 in
theorem power_Powers.calls (k : Nat) (a0 : Int) (a1 : Int) (a2 : Int) (r1 : List Int) (r2 : Int) (w : World) (h : power_Powers.f k a0 a1 a2 = some (r1, r2)) :
    Calls Tryd.prog 33 #[.int .u64 a0, .int .u64 a1, .int .i64 a2] w fun e w' => ∃ v0_ : Value, e = .returned (.tuple #[v0_, .int .i64 r2]) ∧ Kd.R (Kd.int .u64) 22 w' w.heap.size (fun _ => True) v0_ r1 ∧ Below w.heap.size w w' := by
  have HB := Aside0.mk (Below.refl w.heap.size w)
  have H : ((field_Known.f a0).bind fun t165 => (if t165 = true then (if a2 < 0 then (some (([] : List Int), 1)) else (if a2 > 65536 then (some (([] : List Int), 1)) else (if 0 ≤ a2 then (if (a2 : Int).toNat ≤ 35184372088832 then ((some (List.replicate (a2 : Int).toNat 0 : List Int)).bind fun y166 => (power_Powers.l0 k a0 a1 y166 1 (y166.length : Int) 0)) else (none)) else (none)))) else (some (([] : List Int), 2)))) = some (r1, r2) := h
  clear h
  replace H := Option.bind_eq_some_iff.mp H
  obtain ⟨t165, A40, H⟩ := H
  replace H : (if t165 = true then (if a2 < 0 then (some (([] : List Int), 1)) else (if a2 > 65536 then (some (([] : List Int), 1)) else (if 0 ≤ a2 then (if (a2 : Int).toNat ≤ 35184372088832 then ((some (List.replicate (a2 : Int).toNat 0 : List Int)).bind fun y166 => (power_Powers.l0 k a0 a1 y166 1 (y166.length : Int) 0)) else (none)) else (none)))) else (some (([] : List Int), 2))) = some (r1, r2) := H
  have A4 := Aside0.mk A40
  clear A40
  by_cases c5 : t165 = true
  · subst c5
    have H1 : (if a2 < 0 then (some (([] : List Int), 1)) else (if a2 > 65536 then (some (([] : List Int), 1)) else (if 0 ≤ a2 then (if (a2 : Int).toNat ≤ 35184372088832 then ((some (List.replicate (a2 : Int).toNat 0 : List Int)).bind fun y166 => (power_Powers.l0 k a0 a1 y166 1 (y166.length : Int) 0)) else (none)) else (none)))) = some (r1, r2) := by rw [if_pos rfl] at H; exact H
    clear H
    have H := H1
    clear H1
    by_cases c6 : a2 < 0
    · rw [if_pos c6] at H
      have c6b0 : decide (a2 < 0) = true := decide_eq_true c6
      clear c6
      simp only [Option.some.injEq, Prod.mk.injEq] at H
      obtain ⟨rfl, rfl⟩ := H
      go_enter Tryd.func33, Tryd.ntmps33
      go_wp2_with (first | ((with_reducible refine gate_callee (f := 45) rfl ?_); refine goesL_ (some 13) rfl rfl Tryd.func45 (by kernel_rfl) rfl #[.int .u64 a0] rfl (by (try simp only [List.map_toArray, List.map_cons, List.map_nil]); first | done | rfl | (simp only [List.length_drop, List.length_take]; rfl)) ?_; (with_reducible refine (field_Known.calls a0 true _ A4.out).mono ?_); rintro e w' ⟨rfl, ⟨nd, rfl⟩⟩; refine ⟨_, rfl, ?_⟩))
      go_ret2
      exact ⟨_, by first | rfl | (simp [errW_none, errW_some] <;> rfl) | (simp [*, errW_none, errW_some] <;> rfl), by first | exact Kd.R_nil _ _ _ _ _ | exact Kd.N_nil _ _ _ _ _ | exact Kd.V_nil _ _ _ _ _ | exact Kd.Q_nil _ _ _ _ _ | exact Kd.S_nil _ _ _ _ _, by repeat (first | (with_reducible first | exact HB.out | apply below_alloc | apply pw_below_drewN | apply below_drew1) | exact HB.out)⟩
    · rw [if_neg c6] at H
      have c6b0 : decide (a2 < 0) = false := decide_eq_false c6
      clear c6
      by_cases c7 : a2 > 65536
      · rw [if_pos c7] at H
        have c7b0 : decide (65536 < a2) = true := decide_eq_true c7
        clear c7
        simp only [Option.some.injEq, Prod.mk.injEq] at H
        obtain ⟨rfl, rfl⟩ := H
        go_enter Tryd.func33, Tryd.ntmps33
        go_wp2_with (first | ((with_reducible refine gate_callee (f := 45) rfl ?_); refine goesL_ (some 13) rfl rfl Tryd.func45 (by kernel_rfl) rfl #[.int .u64 a0] rfl (by (try simp only [List.map_toArray, List.map_cons, List.map_nil]); first | done | rfl | (simp only [List.length_drop, List.length_take]; rfl)) ?_; (with_reducible refine (field_Known.calls a0 true _ A4.out).mono ?_); rintro e w' ⟨rfl, ⟨nd, rfl⟩⟩; refine ⟨_, rfl, ?_⟩))
        go_ret2
        exact ⟨_, by first | rfl | (simp [errW_none, errW_some] <;> rfl) | (simp [*, errW_none, errW_some] <;> rfl), by first | exact Kd.R_nil _ _ _ _ _ | exact Kd.N_nil _ _ _ _ _ | exact Kd.V_nil _ _ _ _ _ | exact Kd.Q_nil _ _ _ _ _ | exact Kd.S_nil _ _ _ _ _, by repeat (first | (with_reducible first | exact HB.out | apply below_alloc | apply pw_below_drewN | apply below_drew1) | exact HB.out)⟩
      · rw [if_neg c7] at H
        have c7b0 : decide (65536 < a2) = false := decide_eq_false c7
        clear c7
        by_cases c8 : 0 ≤ a2
        · rw [if_pos c8] at H
          have c8b0 := eq_true c8
          have c8b1 : decide (0 ≤ a2) = true := decide_eq_true c8
          clear c8
          by_cases c9 : (a2 : Int).toNat ≤ 35184372088832
          · rw [if_pos c9] at H
            have c9b0 := eq_true c9
            have c9b1 : decide ((a2 : Int).toNat ≤ 35184372088832) = true := decide_eq_true c9
            clear c9
            obtain ⟨y166, hy166⟩ : ∃ y_ : List Int, y_ = (List.replicate (a2 : Int).toNat 0) := ⟨_, rfl⟩
            replace H : (power_Powers.l0 k a0 a1 y166 1 (y166.length : Int) 0) = some (r1, r2) := by first | (rw [hy166]; with_reducible exact H) | (have H2_ := (Option.bind_some _ _).symm.trans H; rw [hy166]; with_reducible exact H2_) | (have H2_ := (Option.bind_some _ _).symm.trans H; with_reducible exact H2_) | with_reducible exact H | (rw [hy166]; exact H) | exact H
            have Ny166 := Aside0.mk hy166
            clear hy166
            have H' := Aside0.mk H
            clear H
            go_enter Tryd.func33, Tryd.ntmps33
            go_wp2_with (first | ((with_reducible refine gate_callee (f := 45) rfl ?_); refine goesL_ (some 13) rfl rfl Tryd.func45 (by kernel_rfl) rfl #[.int .u64 a0] rfl (by (try simp only [List.map_toArray, List.map_cons, List.map_nil]); first | done | rfl | (simp only [List.length_drop, List.length_take]; rfl)) ?_; (with_reducible refine (field_Known.calls a0 true _ A4.out).mono ?_); rintro e w' ⟨rfl, ⟨nd, rfl⟩⟩; refine ⟨_, rfl, ?_⟩) | ((with_reducible refine gate_dst (N := 23) rfl ?_); refine Kd.R_make (Kd.int .u64) _ 22 rfl (N := 23) rfl 38 _ _ rfl a2 rfl rfl Tryd.underlying38 (.int .u64 0) 8 info22 rfl (by decide) (by omega) 0 (ok := fun _ => True) (okp := fun _ => True) rfl (fun _ hk => hk) trivial (of_decide_eq_true (by first | (with_reducible assumption) | assumption)) (Nat.le_trans (Nat.mul_le_mul_right _ (of_decide_eq_true (by first | (with_reducible assumption) | assumption) : a2.toNat ≤ 35184372088832)) (by omega)) (Below.refl _ _) (Nat.le_refl _) ?_; intro v167 w10 ho11 hb hg_ hnew_; clear hg_ hnew_; (first | rw [← Ny166.out] at ho11 | (simp only [Int.reduceToNat] at ho11; rw [← Ny166.out] at ho11)); have n0_ := Aside0.mk (Kd.R_lower ho11 (below_size (by repeat (first | (with_reducible first | exact HB.out | apply below_alloc | apply pw_below_drewN | apply below_drew1) | exact HB.out)))); have n1_ := Aside0.mk (below_step (by repeat (first | (with_reducible first | exact HB.out | apply below_alloc | apply pw_below_drewN | apply below_drew1) | exact HB.out)) hb); clear HB; have HO168 := n0_; have HB := n1_; clear n0_ n1_; clear hb ho11; obtain ⟨Ao12, co12, eo12⟩ := Kd.R_slice HO168.out; subst eo12))
            go_loopg [9, 26] k (fun kq v9 v26 w' => ∃ (x8_1 : List Int) (x9_1 : Int) (x26_1 : Int), v9 = .int .u64 x9_1 ∧ v26 = .int .i64 x26_1 ∧ Aside0 (power_Powers.l0 kq a0 a1 x8_1 x9_1 (y166.length : Int) x26_1 = some (r1, r2)) ∧ Aside0 (kq ≤ k) ∧ Aside0 (Kd.R (Kd.int .u64) 22 w' w.heap.size (fun _ => True) (.slice Ao12 y166.length co12) x8_1) ∧ Aside0 (Below w.heap.size w w'))
            case atStart => exact ⟨(y166), (1), (0), (by first | rfl | (simp; done) | (simp [*]; done)), (by first | rfl | (simp; done) | (simp [*]; done)), H', ⟨Nat.le_refl _⟩, ⟨by (with_reducible repeat (first | apply Kd.R_alloc | apply Kd.R_drewN | apply Kd.R_drew)); exact HO168.out⟩, ⟨by repeat (first | (with_reducible first | exact HB.out | apply below_alloc | apply pw_below_drewN | apply below_drew1) | exact HB.out)⟩⟩
            case round =>
              clear H'
              try clear p2
              try clear c3
              try clear c4
              try clear c5
              try clear c6
              try clear c6b0
              try clear c7
              try clear c7b0
              try clear c8
              try clear c8b0
              try clear c8b1
              try clear c9
              try clear c9b0
              try clear c9b1
              obtain ⟨x8_1, x9_1, x26_1, rfl, rfl, HA, HK1, HO_8, HB⟩ := hrel
              have hl8_1 := (Kd.R_reads' HO_8.out).1
              rw [hl8_1] at HO_8
              (try simp only [hl8_1])
              cases gk with
              | zero => exact absurd HA.out (by simp [power_Powers.l0])
              | succ k1 =>
                have H := HA.out
                clear HA
                simp only [power_Powers.l0] at H
                by_cases c13 : x26_1 < (y166.length : Int)
                · rw [if_pos c13] at H
                  have c13b0 : decide (x26_1 < (y166.length : Int)) = true := decide_eq_true c13
                  (try rw [hl8_1] at c13b0)
                  clear c13
                  replace H := Option.bind_eq_some_iff.mp H
                  obtain ⟨t169, A140, H⟩ := H
                  replace H : (if 0 ≤ x26_1 then (if x26_1 < (x8_1.length : Int) then (power_Powers.l0 k1 a0 a1 (x8_1.set (x26_1 : Int).toNat x9_1) t169 (y166.length : Int) (wrap64 (x26_1 + 1))) else (none)) else (none)) = some (r1, r2) := H
                  have A14 := Aside0.mk A140
                  clear A140
                  by_cases c15 : 0 ≤ x26_1
                  · rw [if_pos c15] at H
                    have c15b0 : decide (0 ≤ x26_1) = true := decide_eq_true c15
                    clear c15
                    by_cases c16 : x26_1 < (x8_1.length : Int)
                    · rw [if_pos c16] at H
                      have c16b0 : decide (x26_1 < (x8_1.length : Int)) = true := decide_eq_true c16
                      (try rw [hl8_1] at c16b0)
                      clear c16
                      obtain ⟨y170, hy170⟩ : ∃ y_ : List Int, y_ = (x8_1.set (x26_1 : Int).toNat x9_1) := ⟨_, rfl⟩
                      replace H : (power_Powers.l0 k1 a0 a1 y170 t169 (y166.length : Int) (wrap64 (x26_1 + 1))) = some (r1, r2) := by first | (rw [hy170]; with_reducible exact H) | (have H2_ := (Option.bind_some _ _).symm.trans H; rw [hy170]; with_reducible exact H2_) | (have H2_ := (Option.bind_some _ _).symm.trans H; with_reducible exact H2_) | with_reducible exact H | (rw [hy170]; exact H) | exact H
                      have Ny170 := Aside0.mk hy170
                      clear hy170
                      have H' := Aside0.mk H
                      clear H
                      go_wp2_with (first | ((with_reducible refine gate_callee (f := 32) rfl ?_); refine goesL_ (some 35) rfl rfl Tryd.func32 (by kernel_rfl) rfl #[.int .u64 a0, .int .u64 x9_1, .int .u64 a1] rfl (by (try simp only [List.map_toArray, List.map_cons, List.map_nil]); first | done | rfl | (simp only [List.length_drop, List.length_take]; rfl)) ?_; (with_reducible refine (field_Mul.calls a0 x9_1 a1 t169 _ A14.out).mono ?_); rintro e w' ⟨rfl, ⟨nd, rfl⟩⟩; refine ⟨_, rfl, ?_⟩; (try (rw [drewN_self wr]; generalize hq_ : World.drewN wr _ = wr; have n0_ : Aside0 (Kd.R (Kd.int .u64) 22 wr w.heap.size (fun _ => True) (.slice Ao12 x8_1.length co12) x8_1) := ⟨by rw [← hq_]; exact (by (with_reducible repeat (first | apply Kd.R_alloc | apply Kd.R_drewN | apply Kd.R_drew)); exact HO_8.out)⟩; have n1_ : Aside0 (Below w.heap.size w wr) := ⟨by rw [← hq_]; exact (by repeat (first | (with_reducible first | exact HB.out | apply below_alloc | apply pw_below_drewN | apply below_drew1) | exact HB.out))⟩; clear HO_8 HB hq_; have HO_8 := n0_; have HB := n1_; clear n0_ n1_)); have p17 : 0 ≤ (x26_1 : Int) := of_decide_eq_true (by first | (with_reducible assumption) | assumption); have q17 : (x26_1 : Int) < ((x8_1.length : Int) : Int) := of_decide_eq_true (by first | (with_reducible assumption) | assumption); obtain ⟨go17, co17, eo17, gb17, gl17, cl17, HG17⟩ := Kd.R_form HO_8.out (by omega); (first | cases eo17 | (injection eo17 with ea_ en_ ec_; (first | subst ea_ | (injection ea_ with ea_; subst ea_)); subst ec_; clear en_)); have GB17 := Aside0.mk gb17; have GG17 := Aside0.mk HG17; clear gb17 gl17 HG17; obtain ⟨hx17_0, hf17_0⟩ := Kd.R_celln 0 HO_8.out (x26_1 : Int) p17 q17; replace p17 := eq_true p17; replace q17 := eq_true q17; obtain ⟨hy18_, hz18_⟩ := Kd.R_celln 0 HO_8.out (x26_1 : Int) (of_decide_eq_true (by first | (with_reducible assumption) | assumption)) (of_decide_eq_true (by first | (with_reducible assumption) | assumption)); have HP18 := Kd.R_putg HO_8.out (x26_1 : Int) x9_1) | ((with_reducible refine gate_store (t := 22) (p := 36) rfl ?_); refine store_event (t := 22) (p := 36) (v := ?vo_w19) (w1 := (wr.setCell ⟨go17, (x26_1 : Int).toNat, none⟩ (.int .u64 x9_1))) ?hg ?ho ?hn ?hr ?_; (case ho => rfl); (case hg => rfl); (case hn => rfl); (case hr => first | (go_simp; done) | (go_simp; rfl)); intro w19 hw; have hg : wr.grownBy w19 (some go17) := (by rw [hw]; exact HP18.2); have hp_ : Kd.R (Kd.int .u64) 22 w19 w.heap.size (fun _ => True) (.slice (some ⟨go17, 0, none⟩) x8_1.length co12) y170 := (by rw [hw, Ny170.out]; exact HP18.1); clear HP18; have n0_ := Aside0.mk (hp_); have n1_ := Aside0.mk ((by rw [hw]; exact below_set (HB.out) GB17.out : Below w.heap.size w w19)); clear HO_8; clear HB; have HO_8 := n0_; have HB := n1_; clear n0_ n1_; clear hg hw hp_))
                      (try simp only [← hl8_1])
                      go_roundg k1
                      case measure => have := HK1.out; omega
                      case rel => exact ⟨(y170), (t169), (wrap64 (x26_1 + 1)), (by first | rfl | (simp; done) | (simp [*]; done)), (by first | rfl | (simp; done) | (simp [*]; done)), H', ⟨by have := HK1.out; omega⟩, ⟨by (try simp only [hl8_1]); (with_reducible repeat (first | apply Kd.R_alloc | apply Kd.R_drewN | apply Kd.R_drew)); exact HO_8.out⟩, ⟨by repeat (first | (with_reducible first | exact HB.out | apply below_alloc | apply pw_below_drewN | apply below_drew1) | exact HB.out)⟩⟩
                    · rw [if_neg c16] at H
                      exact absurd H (by simp)
                  · rw [if_neg c15] at H
                    exact absurd H (by simp)
                · rw [if_neg c13] at H
                  have c13b0 : decide (x26_1 < (y166.length : Int)) = false := decide_eq_false c13
                  (try rw [hl8_1] at c13b0)
                  clear c13
                  simp only [Option.some.injEq, Prod.mk.injEq] at H
                  obtain ⟨rfl, rfl⟩ := H
                  go_wp2
                  go_ret2
                  exact ⟨_, by first | rfl | (simp [errW_none, errW_some] <;> rfl) | (simp [*, errW_none, errW_some] <;> rfl), by (with_reducible repeat (first | apply Kd.R_alloc | apply Kd.R_drewN | apply Kd.R_drew)); exact HO_8.out, by repeat (first | (with_reducible first | exact HB.out | apply below_alloc | apply pw_below_drewN | apply below_drew1) | exact HB.out)⟩
          · rw [if_neg c9] at H
            exact absurd H (by simp)
        · rw [if_neg c8] at H
          exact absurd H (by simp)
  · replace c5 := Bool.eq_false_iff.mpr c5
    subst c5
    have H1 : (some (([] : List Int), 2)) = some (r1, r2) := by rw [if_neg (show ¬ (false = true) by decide)] at H; exact H
    clear H
    have H := H1
    clear H1
    simp only [Option.some.injEq, Prod.mk.injEq] at H
    obtain ⟨rfl, rfl⟩ := H
    go_enter Tryd.func33, Tryd.ntmps33
    go_wp2_with (first | ((with_reducible refine gate_callee (f := 45) rfl ?_); refine goesL_ (some 13) rfl rfl Tryd.func45 (by kernel_rfl) rfl #[.int .u64 a0] rfl (by (try simp only [List.map_toArray, List.map_cons, List.map_nil]); first | done | rfl | (simp only [List.length_drop, List.length_take]; rfl)) ?_; (with_reducible refine (field_Known.calls a0 false _ A4.out).mono ?_); rintro e w' ⟨rfl, ⟨nd, rfl⟩⟩; refine ⟨_, rfl, ?_⟩))
    go_ret2
    exact ⟨_, by first | rfl | (simp [errW_none, errW_some] <;> rfl) | (simp [*, errW_none, errW_some] <;> rfl), by first | exact Kd.R_nil _ _ _ _ _ | exact Kd.N_nil _ _ _ _ _ | exact Kd.V_nil _ _ _ _ _ | exact Kd.Q_nil _ _ _ _ _ | exact Kd.S_nil _ _ _ _ _, by repeat (first | (with_reducible first | exact HB.out | apply below_alloc | apply pw_below_drewN | apply below_drew1) | exact HB.out)⟩

/-! ### step_Table: function 11 -/
theorem R_ints {k : IntKind} {e : Nat} {w : World} {base : Nat} {ok : Nat → Prop} {v : Value} {xs : List Int} (h : (Kd.int k).R e w base ok v xs) : w.ownsRow base e 1 v xs.length (nums k xs) := by
  obtain ⟨_, inner, ho, hr⟩ := h
  have ho' : w.ownsRow base e 1 v xs.length inner := ho
  have : inner = nums k xs := by
    apply List.ext_getElem?
    intro j
    have hl : inner.length = xs.length := by have := hr.1; show _ = _; rw [this]; show xs.length * 1 = _; omega
    by_cases hj : j < xs.length
    · have h2 := hr.2 j xs[j] (List.getElem?_eq_getElem hj)
      have h3 : (inner.drop (j * 1)).take 1 = [.int k xs[j]] := h2
      rw [Nat.mul_one, List.drop_eq_getElem_cons (by omega)] at h3
      simp only [List.take_succ_cons, List.take_zero, List.cons.injEq, and_true] at h3
      rw [List.getElem?_eq_getElem (by omega), h3]
      simp [nums, hj]
    · rw [List.getElem?_eq_none (by omega), List.getElem?_eq_none (by simp [nums]; omega)]
  rw [← this]; exact ho'
/-- the rows of factors, one behind the other -/
def step_Table.l0 : Nat → Int → Int → Int → Int → List Int → Int → Option (List Int × Int)
  | 0, _, _, _, _, _, _ => none
  | k + 1, p, w, R, M, out, st => if (out.length : Int) < M * R then (power_Powers.f k p st R).bind fun o => if o.2 = 0 then (if o.1.length ≤ 65536 then (field_Mul.f p st w).bind fun s2 => step_Table.l0 k p w R M (out ++ o.1) s2 else none) else some ([], o.2) else some (out, 0)
def step_Table.sc (p f : Int) : List Int → Option (List Int)
  | [] => some []
  | x :: l => (field_Mul.f p x f).bind fun y => (step_Table.sc p f l).bind fun z => some (y :: z)
def step_Table.f (k : Nat) (a0 : Int) (l1 : List S33) (a2 : Bool) (a3_0 : Int) (a3_1 : Bool) (a3_2 : Int) (a3_3 : Int) (a3_4 : Int) : Option (List Int × Int) :=
  (step_Check.f k a0 l1 a3_0 a3_1 a3_2 a3_3 a3_4).bind fun e => if e = 0 then
    (if 0 ≤ a3_0 ∧ a3_0 < (l1.length : Int) then (step_base.f k a0 (rd_T33 l1 a3_0).f0 (rd_T33 l1 a3_0).f1 a2 a3_0 a3_1 a3_2 a3_3 a3_4).bind fun b => if b.2 = 0 then
      (if a3_1 = false then (if 0 ≤ a3_2 ∧ a3_2 ≤ 4096 ∧ 0 ≤ a3_4 ∧ a3_4 ≤ 4096 then step_Table.l0 k a0 b.1 a3_2 a3_4 [] 1 else none)
      else (power_Powers.f k a0 b.1 (rd_T33 l1 a3_0).f0).bind fun o => if o.2 = 0 then
        (if a2 = true then (if 0 ≤ (rd_T33 l1 a3_0).f0 ∧ (rd_T33 l1 a3_0).f0 ≤ 4096 then (power_Inv.f k a0 (rd_T33 l1 a3_0).f0).bind fun i => if i.2 = 0 then (if o.1.length ≤ 65536 then (step_Table.sc a0 i.1 o.1).bind fun z => some (z, 0) else none) else some ([], i.2) else none) else some (o.1, 0)) else some (o.1, o.2))
      else some ([], b.2) else none) else some ([], e)
theorem step_Table.mono_l : ∀ k p w R M out st, LeO (step_Table.l0 k p w R M out st) (step_Table.l0 (k + 1) p w R M out st)
  | 0, _, _, _, _, _, _ => by intro r h; simp [step_Table.l0] at h
  | k + 1, p, w, R, M, out, st => by
    unfold step_Table.l0
    exact LeO.ite (LeO.bind (power_Powers.mono _ _ _ _) fun o => LeO.ite (LeO.ite (LeO.bind (LeO.refl _) fun s2 => step_Table.mono_l k p w R M _ s2) (LeO.refl _)) (LeO.refl _)) (LeO.refl _)
theorem step_Table.mono : ∀ a0 l1 a2 a3_0 a3_1 a3_2 a3_3 a3_4 k, LeO (step_Table.f k a0 l1 a2 a3_0 a3_1 a3_2 a3_3 a3_4) (step_Table.f (k + 1) a0 l1 a2 a3_0 a3_1 a3_2 a3_3 a3_4) := by
  intro a0 l1 a2 a3_0 a3_1 a3_2 a3_3 a3_4 k
  unfold step_Table.f
  refine LeO.bind (step_Check.mono _ _ _ _ _ _ _ _) fun e => LeO.ite (LeO.ite (LeO.bind (step_base.mono _ _ _ _ _ _ _ _ _ _) fun b => LeO.ite (LeO.ite (LeO.ite (step_Table.mono_l _ _ _ _ _ _ _) (LeO.refl _)) (LeO.bind (power_Powers.mono _ _ _ _) fun o => LeO.ite (LeO.ite (LeO.ite (LeO.bind (power_Inv.mono _ _ _) fun i => LeO.refl _) (LeO.refl _)) (LeO.refl _)) (LeO.refl _))) (LeO.refl _)) (LeO.refl _)) (LeO.refl _)
set_option maxRecDepth 100000 in
set_option maxHeartbeats 4000000 in
theorem step_Table.calls (k : Nat) (a0 : Int) (A1 : Option Addr) (c1 : Nat) (l1 : List (S33)) (a2 : Bool) (a3_0 : Int) (a3_1 : Bool) (a3_2 : Int) (a3_3 : Int) (a3_4 : Int) (r1 : List Int) (r2 : Int) (w : World) (hG : Tab w) (hr1 : Kd.C k33 w A1 l1.length l1) (hc1 : l1.length ≤ c1) (h : step_Table.f k a0 l1 a2 a3_0 a3_1 a3_2 a3_3 a3_4 = some (r1, r2)) :
    Calls Tryd.prog 11 #[.int .u64 a0, .slice A1 l1.length c1, .bool a2, .agg #[.int .i64 a3_0, .bool a3_1, .int .i64 a3_2, .int .i64 a3_3, .int .i64 a3_4]] w fun e w' => ∃ v0_ : Value, e = .returned (.tuple #[v0_, .int .i64 r2]) ∧ Kd.R (Kd.int .u64) 22 w' w.heap.size (fun _ => True) v0_ r1 ∧ Below w.heap.size w w' := by
  have hu37 := Tryd.underlying37
  have hu35 := Tryd.underlying35
  have hu33 := Tryd.underlying33
  unfold step_Table.f at h
  obtain ⟨e, he, h⟩ := Option.bind_eq_some_iff.1 h
  have HE := Aside0.mk he
  have HR := Aside0.mk hr1
  have HC := Aside0.mk hc1
  have HG := Aside0.mk hG
  clear he hr1 hc1 hG
  by_cases c1 : e = 0
  · rw [if_pos c1] at h
    subst c1
    have H := Aside0.mk h
    clear h
    go_enter Tryd.func11, Tryd.ntmps11
    go_wp2_with fail
    refine (step_Check.calls k a0 _ _ l1 a3_0 a3_1 a3_2 a3_3 a3_4 0 _ ?s1 ?s2 ?s3 HE.out).mono ?_
    case s1 => exact tab_below HG.out ((Below.refl _ _).alloc (Nat.le_refl _) _)
    case s2 => exact Kd.C_alloc HR.out _
    case s3 => exact HC.out
    rintro e w1 ⟨rfl, hb⟩
    have hB : Below w.heap.size w w1 := ((Below.refl _ _).alloc (Nat.le_refl _) _).trans (hb.mono (by simp))
    have BK0 : (w.alloc (.cells #[.int .i64 a3_0, .bool a3_1, .int .i64 a3_2, .int .i64 a3_3, .int .i64 a3_4] 37)).heap[w.heap.size]? = some (.cells #[.int .i64 a3_0, .bool a3_1, .int .i64 a3_2, .int .i64 a3_3, .int .i64 a3_4] 37 (0, 0)) := World.alloc_heap_new w _
    have BK1 := blk_below BK0 hb
    have hx0 : w1.cell? ⟨w.heap.size, 0, none⟩ = some (.int .i64 a3_0) := (blk_cell BK1 0).trans rfl
    have hx1 : w1.cell? ⟨w.heap.size, 1, none⟩ = some (.bool a3_1) := (blk_cell BK1 1).trans rfl
    have hx2 : w1.cell? ⟨w.heap.size, 2, none⟩ = some (.int .i64 a3_2) := (blk_cell BK1 2).trans rfl
    have hx3 : w1.cell? ⟨w.heap.size, 3, none⟩ = some (.int .i64 a3_3) := (blk_cell BK1 3).trans rfl
    have hx4 : w1.cell? ⟨w.heap.size, 4, none⟩ = some (.int .i64 a3_4) := (blk_cell BK1 4).trans rfl
    by_cases c2 : 0 ≤ a3_0 ∧ a3_0 < (l1.length : Int)
    · have h := H.out
      clear H
      rw [if_pos c2] at h
      obtain ⟨⟨bw, be⟩, hbase, h⟩ := Option.bind_eq_some_iff.1 h
      have HBASE := Aside0.mk hbase
      have H := Aside0.mk h
      clear hbase h
      obtain ⟨ad, ead, ha0, ha1⟩ := at_T33 (Kd.C_below (Kd.C_alloc HR.out _) hb) a3_0 c2.1 c2.2
      cases ead
      generalize (rd_T33 l1 a3_0).f0 = N at *
      generalize (rd_T33 l1 a3_0).f1 = Ng at *
      have p0 := c2.1
      have p1 := c2.2
      have HB1 := Aside0.mk hB
      have BK1' := Aside0.mk BK1
      have hsz1 : w.heap.size < w1.heap.size := by have := hb.size; simp at this; omega
      clear hB BK1 BK0 c2 hb
      go_wp2_with fail
      refine (step_base.calls k a0 N Ng a2 a3_0 a3_1 a3_2 a3_3 a3_4 bw be _ HBASE.out).mono ?_
      rintro e w2 ⟨rfl, hb⟩
      have BA := Aside0.mk (blk_below (World.alloc_heap_new w1 (.cells #[.int .i64 N, .bool Ng] 33)) hb)
      have BX := Aside0.mk (blk_below (blk_alloc BK1'.out (.cells #[.int .i64 N, .bool Ng] 33)) hb)
      have HB2 := Aside0.mk (below_step (below_alloc HB1.out _) hb)
      have hsz2 : w1.heap.size < w2.heap.size := by have := hb.size; simp at this; omega
      have hx0 : w2.cell? ⟨w.heap.size, 0, none⟩ = some (.int .i64 a3_0) := (blk_cell BX.out 0).trans rfl
      have hx1 : w2.cell? ⟨w.heap.size, 1, none⟩ = some (.bool a3_1) := (blk_cell BX.out 1).trans rfl
      have hx2 : w2.cell? ⟨w.heap.size, 2, none⟩ = some (.int .i64 a3_2) := (blk_cell BX.out 2).trans rfl
      have hx3 : w2.cell? ⟨w.heap.size, 3, none⟩ = some (.int .i64 a3_3) := (blk_cell BX.out 3).trans rfl
      have hx4 : w2.cell? ⟨w.heap.size, 4, none⟩ = some (.int .i64 a3_4) := (blk_cell BX.out 4).trans rfl
      have ha0 : w2.cell? ⟨w1.heap.size, 0, none⟩ = some (.int .i64 N) := (blk_cell BA.out 0).trans rfl
      have ha1 : w2.cell? ⟨w1.heap.size, 1, none⟩ = some (.bool Ng) := (blk_cell BA.out 1).trans rfl
      clear hb HBASE HB1 BK1'
      by_cases c3 : be = 0
      · subst c3
        have h := H.out
        clear H
        simp only [if_true] at h
        cases a3_1 with
        | false =>
          simp only [if_true] at h
          by_cases c4 : 0 ≤ a3_2 ∧ a3_2 ≤ 4096 ∧ 0 ≤ a3_4 ∧ a3_4 ≤ 4096
          · rw [if_pos c4] at h
            have H := Aside0.mk h
            clear h
            obtain ⟨q0, q1, q2, q3⟩ := c4
            obtain ⟨C, hC⟩ : ∃ C, C = a3_4 * a3_2 := ⟨_, rfl⟩
            have hC0 : 0 ≤ C := by rw [hC]; exact Int.mul_nonneg q2 q0
            have hC1 : C ≤ 16777216 := by
              rw [hC]; have := Int.mul_le_mul q3 q1 q0 (by omega); omega
            have hw1 : IntKind.i64.wrap (a3_4 * a3_2) = C := by rw [← hC]; exact IntWalk.i64_in _ (by omega)
            have hw2 : wrap64 (a3_4 * a3_2) = C := by rw [← hC]; unfold wrap64; omega
            have HCC := Aside0.mk hC
            clear hC
            go_wp2_with ((with_reducible refine gate_dst (N := 55) rfl ?_); refine Kd.R_make2 (w0 := w2) (Kd.int .u64) w2.heap.size 22 rfl (N := 55) rfl 38 _ _ rfl 0 C rfl rfl Tryd.underlying38 (.int .u64 0) 8 info22 rfl (by decide) (by omega) 0 (ok := fun _ => True) (okp := fun _ => True) rfl (fun _ hk => hk) trivial (by omega) hC0 (by omega) (Below.refl _ _) (Nat.le_refl _) ?_; intro v w3 ho hb3 hg3_ hn3_; clear hg3_ hn3_; have HO := Aside0.mk ho; have HB := Aside0.mk hb3; clear ho hb3)
            go_loopg [14, 15] k (fun kq v14 v15 wr => ∃ (out : List Int) (st : Int), v15 = .int .u64 st ∧ Aside0 (step_Table.l0 kq a0 bw a3_2 a3_4 out st = some (r1, r2)) ∧ Aside0 (Kd.R (Kd.int .u64) 22 wr w2.heap.size (fun _ => True) v14 out) ∧ Aside0 (Below w2.heap.size w2 wr))
            case atStart => exact ⟨[], 1, rfl, H, HO, HB⟩
            case round =>
              clear H HO HB hx0 hx1 hx2 hx3 hx4 ha0 ha1 BA
              obtain ⟨out, st, rfl, HL, HO, HB⟩ := hrel
              have BX1 := blk_below BX.out HB.out
              have hx2 : wr.cell? ⟨w.heap.size, 2, none⟩ = some (.int .i64 a3_2) := (blk_cell BX1 2).trans rfl
              have hx4 : wr.cell? ⟨w.heap.size, 4, none⟩ = some (.int .i64 a3_4) := (blk_cell BX1 4).trans rfl
              clear BX1
              obtain ⟨A, c, hsl⟩ : ∃ A c, u14 = .slice A out.length c := by
                rcases (R_ints HO.out).2 with ⟨h0, h1⟩ | ⟨g, cap, cu, h0, _⟩
                · exact ⟨none, 0, by rw [h0, h1]⟩
                · exact ⟨_, _, h0⟩
              subst hsl
              cases gk with
              | zero => exact absurd HL.out (by simp [step_Table.l0])
              | succ k1 =>
                have h := HL.out
                clear HL
                unfold step_Table.l0 at h
                rw [← HCC.out] at h
                by_cases d1 : (out.length : Int) < C
                · rw [if_pos d1] at h
                  obtain ⟨⟨o1, oe⟩, hp, h⟩ := Option.bind_eq_some_iff.1 h
                  have HP := Aside0.mk hp
                  have H := Aside0.mk h
                  have hd : decide ((out.length : Int) < C) = true := decide_eq_true d1
                  clear hp h
                  go_wp2_with fail
                  refine (power_Powers.calls k1 a0 st a3_2 o1 oe _ HP.out).mono ?_
                  rintro e w4 ⟨v, rfl, hv, hb⟩
                  have HO4 := Aside0.mk (Kd.R_below HO.out hb)
                  have HB4 := Aside0.mk (below_step HB.out hb)
                  obtain ⟨A2, c2, hvs, hle, hC2⟩ := Kd.R_reads hv
                  subst hvs
                  have HV := Aside0.mk hC2
                  have hx2 : w4.cell? ⟨w.heap.size, 2, none⟩ = some (.int .i64 a3_2) := (hb.cell (World.block_lt_of_cell? wr _ hx2)).trans hx2
                  have hx4 : w4.cell? ⟨w.heap.size, 4, none⟩ = some (.int .i64 a3_4) := (hb.cell (World.block_lt_of_cell? wr _ hx4)).trans hx4
                  clear hC2 hv hb HO HB HP hle
                  by_cases d2 : oe = 0
                  · subst d2
                    have h := H.out
                    clear H
                    simp only [if_true] at h
                    by_cases d3 : o1.length ≤ 65536
                    · rw [if_pos d3] at h
                      obtain ⟨s2, hm, h⟩ := Option.bind_eq_some_iff.1 h
                      have HM := Aside0.mk hm
                      have HL := Aside0.mk h
                      clear hm h hd
                      have hlen : (out.length + o1.length) * 8 ≤ 140737488355328 := by omega
                      go_wp2_with (at_builtin; refine Kd.R_append_rows (Kd.int .u64) (w0 := w2) w2.heap.size rfl (.tmp 82) (.tmp 83) 38 22 (.int .u64 0) 8 rfl Tryd.underlying38 info22 rfl (by decide) (by omega) _ out o1 _ _ _ (fun _ => True) (fun _ => False) rfl rfl HO4.out HV.out (fun _ _ h => h) (fun _ h => h.elim) (fun _ _ => trivial) HB4.out HB4.out.size hlen ?_; intro v5 w5 ho5 hb5 hg5_ hn5_; clear hg5_ hn5_; have HO := Aside0.mk ho5; have HB := Aside0.mk hb5; clear ho5 hb5 HO4 HB4)
                      refine (field_Mul.calls a0 st bw s2 _ HM.out).mono ?_
                      rintro e w6 ⟨rfl, ⟨nq, rfl⟩⟩
                      go_wp2
                      go_roundg k1
                      case measure => omega
                      case rel => exact ⟨out ++ o1, s2, rfl, HL, ⟨Kd.R_drewN HO.out nq⟩, ⟨pw_below_drewN HB.out nq⟩⟩
                    · rw [if_neg d3] at h
                      cases h
                  · have h := H.out
                    simp only [d2, if_false] at h
                    injection h with h
                    injection h with h1 h2
                    subst h1 h2
                    have hne : (oe == 0) = false := beq_eq_false_iff_ne.2 d2
                    clear H d2
                    go_wp2
                    go_ret2
                    exact ⟨_, rfl, Kd.R_nil _ _ _ _ _, below_step HB2.out HB4.out⟩
                · rw [if_neg d1] at h
                  injection h with h
                  injection h with h1 h2
                  subst h1 h2
                  have hd : decide ((out.length : Int) < C) = false := decide_eq_false d1
                  go_wp2
                  go_ret2
                  exact ⟨_, rfl, Kd.R_lower HO.out HB2.out.size, below_step HB2.out HB.out⟩
          · rw [if_neg c4] at h
            cases h
        | true =>
          simp only [Bool.true_eq_false, if_false] at h
          obtain ⟨⟨l, oe⟩, hp, h⟩ := Option.bind_eq_some_iff.1 h
          have HP := Aside0.mk hp
          have H := Aside0.mk h
          clear hp h
          go_wp2_with fail
          refine (power_Powers.calls k a0 bw N l oe _ HP.out).mono ?_
          rintro e w3 ⟨v, rfl, hv, hb⟩
          have HV := Aside0.mk (Kd.R_lower hv HB2.out.size)
          have HB3 := Aside0.mk (below_step HB2.out hb)
          have ha0 : w3.cell? ⟨w1.heap.size, 0, none⟩ = some (.int .i64 N) := (hb.cell (World.block_lt_of_cell? w2 _ ha0)).trans ha0
          have ha0' := ha0
          clear hv hb hx0 hx1 hx2 hx3 hx4 ha1 BA BX HB2 hsz1 HP
          by_cases c4 : oe = 0
          · subst c4
            cases a2 with
            | false =>
              have h := H.out
              simp only [if_true, Bool.false_eq_true, if_false] at h
              injection h with h
              injection h with h1 h2
              subst h1 h2
              clear H
              go_wp2
              go_ret2
              exact ⟨_, rfl, HV.out, HB3.out⟩
            | true =>
              have h := H.out
              clear H
              simp only [if_true] at h
              by_cases c5 : 0 ≤ N ∧ N ≤ 4096
              · rw [if_pos c5] at h
                obtain ⟨⟨iw, ie⟩, hi, h⟩ := Option.bind_eq_some_iff.1 h
                have HI := Aside0.mk hi
                have H := Aside0.mk h
                obtain ⟨c50, c51⟩ := c5
                clear hi h
                have hwr : IntKind.u64.wrap N = N := by rw [u64_wrap]; omega
                go_wp2_with fail
                refine (power_Inv.calls k a0 N iw ie _ HI.out).mono ?_
                rintro e w4 ⟨rfl, ⟨nd, rfl⟩⟩
                by_cases c6 : ie = 0
                · subst c6
                  have h := H.out
                  clear H
                  simp only [if_true] at h
                  by_cases c7 : l.length ≤ 65536
                  · rw [if_pos c7] at h
                    obtain ⟨z, hz, h⟩ := Option.bind_eq_some_iff.1 h
                    injection h with h
                    injection h with h1 h2
                    subst h1 h2
                    have HZ := Aside0.mk hz
                    have hown := R_ints HV.out
                    obtain ⟨A, c, rfl⟩ : ∃ A c, v = .slice A l.length c := by
                      rcases hown.2 with ⟨rfl, h0⟩ | ⟨g, cap, cur, rfl, _⟩
                      · exact ⟨none, 0, by rw [h0]⟩
                      · exact ⟨_, _, rfl⟩
                    have HO := Aside0.mk hown
                    obtain ⟨n, hn⟩ : ∃ n, n = l.length := ⟨_, rfl⟩
                    have HN := Aside0.mk hn
                    rw [← hn] at c7 HO ⊢
                    clear hown HV hz hn ha0 ha0'
                    go_wp2
                    go_loopg [115] n (fun g vj wr => ∃ (j : Nat) (cur : List Int), j + g = n ∧ vj = .int .i64 (j : Int) ∧ Aside0 (wr.ownsRow w.heap.size 22 1 (.slice A n c) n (nums .u64 cur)) ∧ Aside0 (Below w.heap.size w wr) ∧
                      Aside0 (∃ ys zs, ys.length = j ∧ cur = ys ++ l.drop j ∧ step_Table.sc a0 iw (l.drop j) = some zs ∧ ys ++ zs = z))
                    case atStart => exact ⟨0, l, by omega, rfl, ⟨HO.out⟩, ⟨by repeat (first | exact HB3.out | apply pw_below_drewN)⟩, ⟨[], z, rfl, rfl, HZ.out, rfl⟩⟩
                    case round =>
                      clear HO HB3 HZ
                      obtain ⟨j, cur, hj, rfl, HO, HB, HS⟩ := hrel
                      by_cases hlt : j < n
                      · obtain ⟨ys, zs, hys, hcur, hsc, hyz⟩ := HS.out
                        clear HS
                        have hjl : j < l.length := by rw [← HN.out]; exact hlt
                        rw [List.drop_eq_getElem_cons hjl] at hsc hcur
                        obtain ⟨x, hx⟩ : ∃ x, x = l[j] := ⟨_, rfl⟩
                        rw [← hx] at hsc hcur
                        unfold step_Table.sc at hsc
                        obtain ⟨y, hm, hsc⟩ := Option.bind_eq_some_iff.1 hsc
                        obtain ⟨zs2, hs2, hsc⟩ := Option.bind_eq_some_iff.1 hsc
                        injection hsc with hsc
                        have HM := Aside0.mk hm
                        have HT := Aside0.mk (show ∃ ys zs, ys.length = j ∧ cur = ys ++ x :: l.drop (j + 1) ∧ step_Table.sc a0 iw (l.drop (j + 1)) = some zs ∧ ys ++ y :: zs = z from ⟨ys, zs2, hys, hcur, hs2, by rw [hsc]; exact hyz⟩)
                        have hcx : (nums .u64 cur)[j]? = some (.int .u64 x) := by
                          rw [hcur]; simp [nums, ← hys]
                        obtain ⟨g1, rfl⟩ : ∃ g1, A = some ⟨g1, 0, none⟩ := by
                          rcases HO.out.2 with ⟨hv, h0⟩ | ⟨g1, cap, cu, hv, _⟩
                          · omega
                          · injection hv with hv; exact ⟨g1, hv⟩
                        have hce : wr.cell? ⟨g1, j, none⟩ = some (.int .u64 x) := (HO.out.cellAt j (by omega)).trans hcx
                        have hfr : wr.frozen? ⟨g1, j, none⟩ = false := HO.out.frozenAt j
                        have hd : decide ((j : Int) < (n : Int)) = true := decide_eq_true (by omega)
                        have hj0 : (0 : Int) ≤ (j : Int) := by omega
                        have hj1 : (j : Int) < (n : Int) := by omega
                        have hg1 : w.heap.size ≤ g1 := by
                          rcases HO.out.2 with ⟨hv, h0⟩ | ⟨g2, cap, cu, hv, hg, _⟩
                          · omega
                          · injection hv with hv; injection hv with hv; injection hv with hv; subst hv; exact hg
                        clear hm hs2 hsc hyz hys hcur hx hcx
                        go_wp2_with fail
                        refine (field_Mul.calls a0 x iw y _ HM.out).mono ?_
                        rintro e w5 ⟨rfl, ⟨nq, rfl⟩⟩
                        go_wp2
                        go_roundg (n - (j + 1))
                        case measure => omega
                        case rel =>
                          obtain ⟨ys, zs, hys, hcur, hsc, hyz⟩ := HT.out
                          have hst := ((pw_own_drewN HO.out nq).stored j (.int .u64 y)).1
                          refine ⟨j + 1, cur.set j y, by omega, by go_num, ⟨?_⟩, ⟨(pw_below_drewN HB.out nq).setCell (p := ⟨g1, j, none⟩) hg1 _⟩, ⟨ys ++ [y], zs, by simp [hys], ?_, hsc, by simpa using hyz⟩⟩
                          · rw [show nums .u64 (cur.set j y) = (nums .u64 cur).set j (.int .u64 y) from by simp [nums, List.map_set]]; exact hst
                          · rw [hcur, ← hys]; simp
                      · obtain rfl : j = n := by omega
                        have hd : decide ((j : Int) < (j : Int)) = false := decide_eq_false (by omega)
                        go_wp2
                        go_ret2
                        obtain ⟨ys, zs, hys, hcur, hsc, hyz⟩ := HS.out
                        have hdr : l.drop j = [] := List.drop_eq_nil_of_le (by rw [HN.out]; exact Nat.le_refl _)
                        rw [hdr] at hsc hcur
                        unfold step_Table.sc at hsc
                        injection hsc with hsc
                        subst hsc
                        rw [List.append_nil] at hyz hcur
                        subst hyz hcur
                        exact ⟨_, rfl, Kd.R_of_ints _ _ (by rw [hys]; exact HO.out), HB.out⟩
                  · rw [if_neg c7] at h
                    cases h
                · have h := H.out
                  simp only [c6, if_false] at h
                  injection h with h
                  injection h with h1 h2
                  subst h1 h2
                  have hne : (ie == 0) = false := beq_eq_false_iff_ne.2 c6
                  clear H c6
                  go_wp2
                  go_ret2
                  exact ⟨_, rfl, Kd.R_nil _ _ _ _ _, by repeat (first | exact HB3.out | apply pw_below_drewN)⟩
              · rw [if_neg c5] at h
                cases h
          · have h := H.out
            simp only [c4, if_false] at h
            injection h with h
            injection h with h1 h2
            subst h1 h2
            have hne : (oe == 0) = false := beq_eq_false_iff_ne.2 c4
            have hne2 : (oe != 0) = true := by simp [bne, hne]
            clear H c4
            go_wp2
            go_ret2
            exact ⟨_, rfl, HV.out, HB3.out⟩
      · have h := H.out
        simp only [c3, if_false] at h
        injection h with h
        injection h with h1 h2
        subst h1 h2
        have hne : (be == 0) = false := beq_eq_false_iff_ne.2 c3
        clear H c3
        go_wp2
        go_ret2
        exact ⟨_, rfl, Kd.R_nil _ _ _ _ _, HB2.out⟩
    · have h := H.out
      rw [if_neg c2] at h
      cases h
  · rw [if_neg c1] at h
    injection h with h
    injection h with h1 h2
    subst h1 h2
    have hne : (e == 0) = false := beq_eq_false_iff_ne.2 c1
    go_enter Tryd.func11, Tryd.ntmps11
    go_wp2_with fail
    refine (step_Check.calls k a0 _ _ l1 a3_0 a3_1 a3_2 a3_3 a3_4 e _ ?s1 ?s2 ?s3 HE.out).mono ?_
    case s1 => exact tab_below HG.out ((Below.refl _ _).alloc (Nat.le_refl _) _)
    case s2 => exact Kd.C_alloc HR.out _
    case s3 => exact HC.out
    rintro e w1 ⟨rfl, hb⟩
    have hB : Below w.heap.size w w1 := ((Below.refl _ _).alloc (Nat.le_refl _) _).trans (hb.mono (by simp))
    go_wp2
    go_ret2
    exact ⟨_, rfl, Kd.R_nil _ _ _ _ _, hB⟩

/-! ### cost_sum: function 27 -/
def cost_sum.l0 : Nat → Int → List Int → Int → Int → Option (Int)
  | 0, _, _, _, _ => none
  | k + 1, x3, x6, x7, x8 => if x8 < x7 then (if 0 ≤ x8 then (if x8 < (x6.length : Int) then (cost_sum.l0 k (wrap64 (x3 + (rd x6 x8))) x6 x7 (wrap64 (x8 + 1))) else (none)) else (none)) else (some x3)
def cost_sum.f (k : Nat) (l0 : List Int) : Option (Int) := cost_sum.l0 k 0 l0 (l0.length : Int) 0
theorem cost_sum.mono_l : ∀ k, (∀ y0 y1 y2 y3, LeO (cost_sum.l0 k y0 y1 y2 y3) (cost_sum.l0 (k + 1) y0 y1 y2 y3))
  | 0 => fun _ _ _ _ r h => by simp [cost_sum.l0] at h
  | k + 1 => by
    have ih0 := cost_sum.mono_l k
    · intro y0 y1 y2 y3
      unfold cost_sum.l0
      repeat' first
      | (with_reducible exact ih0 _ _ _ _)
      | (with_reducible exact LeO.refl _)
      | (with_reducible exact LeO.none _)
      | (with_reducible refine LeO.ite ?_ ?_)
      | (with_reducible refine LeO.bind ?_ (fun _ => ?_))
      | exact ih0 _ _ _ _
      | exact LeO.none _
      | refine LeO.ite ?_ ?_
      | refine LeO.bind ?_ (fun _ => ?_)
theorem cost_sum.mono : ∀ a0 k, LeO (cost_sum.f k a0) (cost_sum.f (k + 1) a0) := by
  intro a0 k
  have ih0 := cost_sum.mono_l k
  unfold cost_sum.f
  repeat' first
      | (with_reducible exact ih0 _ _ _ _)
      | (with_reducible exact LeO.refl _)
      | (with_reducible exact LeO.none _)
      | (with_reducible refine LeO.ite ?_ ?_)
      | (with_reducible refine LeO.bind ?_ (fun _ => ?_))
      | exact ih0 _ _ _ _
      | exact LeO.none _
      | refine LeO.ite ?_ ?_
      | refine LeO.bind ?_ (fun _ => ?_)
set_option maxHeartbeats 8000000 in
set_option maxRecDepth 100000 in
theorem cost_sum.calls (k : Nat) (A0 : Option Addr) (c0 : Nat) (l0 : List Int) (r : Int) (w : World) (hr0 : Kd.C (Kd.int .i64) w A0 l0.length l0) (hc0 : l0.length ≤ c0) (h : cost_sum.f k l0 = some r) :
    Calls Tryd.prog 27 #[.slice A0 l0.length c0] w fun e w' => e = .returned (.int .i64 r) ∧ Drawn0 w w' := by
  have HR0 := Aside0.mk hr0
  have HC0 := Aside0.mk hc0
  clear hr0 hc0
  have H : (cost_sum.l0 k 0 l0 (l0.length : Int) 0) = some r := h
  clear h
  have H' := Aside0.mk H
  clear H
  go_enter Tryd.func27, Tryd.ntmps27
  go_wp2
  go_loopg [3, 8] k (fun kq v3 v8 w' => ∃ (x3_1 : Int) (x8_1 : Int), v3 = .int .i64 x3_1 ∧ v8 = .int .i64 x8_1 ∧ Aside0 (cost_sum.l0 kq x3_1 l0 (l0.length : Int) x8_1 = some r) ∧ Aside0 (kq ≤ k) ∧ Drawn0 w w')
  case atStart => exact ⟨(0), (0), (by first | rfl | (simp; done) | (simp [*]; done)), (by first | rfl | (simp; done) | (simp [*]; done)), H', ⟨Nat.le_refl _⟩, by repeat (first | exact Drawn0.refl _ | apply Drawn0.step)⟩
  case round =>
    clear H'
    obtain ⟨x3_1, x8_1, rfl, rfl, HA, HK1, ⟨m1, rfl⟩⟩ := hrel
    cases gk with
    | zero => exact absurd HA.out (by simp [cost_sum.l0])
    | succ k1 =>
      have H := HA.out
      clear HA
      simp only [cost_sum.l0] at H
      by_cases c2 : x8_1 < (l0.length : Int)
      · rw [if_pos c2] at H
        have c2b0 : decide (x8_1 < (l0.length : Int)) = true := decide_eq_true c2
        clear c2
        by_cases c3 : 0 ≤ x8_1
        · rw [if_pos c3] at H
          have c3b0 : decide (0 ≤ x8_1) = true := decide_eq_true c3
          clear c3
          by_cases c4 : x8_1 < (l0.length : Int)
          · rw [if_pos c4] at H
            have c4b0 : decide (x8_1 < (l0.length : Int)) = true := decide_eq_true c4
            clear c4
            have H' := Aside0.mk H
            clear H
            have p171 : 0 ≤ (x8_1 : Int) := of_decide_eq_true (by first | (with_reducible assumption) | assumption)
            have q171 : x8_1 < (l0.length : Int) := of_decide_eq_true (by first | (with_reducible assumption) | assumption)
            obtain ⟨ad171, e171, hx171_0⟩ := Kd.at_int HR0.out x8_1 p171 q171
            cases e171
            replace p171 := eq_true p171
            replace q171 := eq_true q171
            go_wp2
            go_roundg k1
            case measure => have := HK1.out; omega
            case rel => exact ⟨(wrap64 (x3_1 + (rd l0 x8_1))), (wrap64 (x8_1 + 1)), (by first | rfl | (simp; done) | (simp [*]; done)), (by first | rfl | (simp; done) | (simp [*]; done)), H', ⟨by have := HK1.out; omega⟩, by repeat (first | exact Drawn0.refl _ | apply Drawn0.step)⟩
          · rw [if_neg c4] at H
            exact absurd H (by simp)
        · rw [if_neg c3] at H
          exact absurd H (by simp)
      · rw [if_neg c2] at H
        have c2b0 : decide (x8_1 < (l0.length : Int)) = false := decide_eq_false c2
        clear c2
        obtain rfl := Option.some.inj H
        go_wp2
        go_ret
        exact ⟨by first | rfl | (simp; done) | (simp [*]; done), by repeat (first | exact Drawn0.refl _ | apply Drawn0.step)⟩

/-! ### cost_Step: function 12 -/
def cost_Step.f (k : Nat) (a0 : Int) (a1 : Int) : Option (Int × Int) := if a0 < 1 then (some (0, 1)) else (if a0 > 4096 then (some (0, 1)) else (if a1 < 0 then (some (0, 1)) else (if a1 > 4096 then (some (0, 1)) else ((cost_sum.f k (([wrap64 (a0 + 6), a1, wrap64 ((wrap64 (3 * a0)) + 6), a0, a1, a0] : List Int))).bind fun t175 => (some (t175, 0))))))
theorem cost_Step.mono : ∀ a0 a1 k, LeO (cost_Step.f k a0 a1) (cost_Step.f (k + 1) a0 a1) := by
  intro a0 a1 k
  unfold cost_Step.f
  repeat' first
      | (with_reducible exact cost_sum.mono _ _)
      | (with_reducible exact LeO.refl _)
      | (with_reducible exact LeO.none _)
      | (with_reducible refine LeO.ite ?_ ?_)
      | (with_reducible refine LeO.bind ?_ (fun _ => ?_))
      | exact cost_sum.mono _ _
      | exact LeO.none _
      | refine LeO.ite ?_ ?_
      | refine LeO.bind ?_ (fun _ => ?_)
set_option maxHeartbeats 8000000 in
set_option maxRecDepth 100000 in
theorem cost_Step.calls (k : Nat) (a0 : Int) (a1 : Int) (r1 : Int) (r2 : Int) (w : World) (h : cost_Step.f k a0 a1 = some (r1, r2)) :
    Calls Tryd.prog 12 #[.int .i64 a0, .int .i64 a1] w fun e w' => e = .returned (.tuple #[.int .i64 r1, .int .i64 r2]) ∧ Below w.heap.size w w' := by
  have HB := Aside0.mk (Below.refl w.heap.size w)
  have H : (if a0 < 1 then (some (0, 1)) else (if a0 > 4096 then (some (0, 1)) else (if a1 < 0 then (some (0, 1)) else (if a1 > 4096 then (some (0, 1)) else ((cost_sum.f k (([wrap64 (a0 + 6), a1, wrap64 ((wrap64 (3 * a0)) + 6), a0, a1, a0] : List Int))).bind fun t175 => (some (t175, 0))))))) = some (r1, r2) := h
  clear h
  by_cases c3 : a0 < 1
  · rw [if_pos c3] at H
    have c3b0 : decide (a0 < 1) = true := decide_eq_true c3
    clear c3
    simp only [Option.some.injEq, Prod.mk.injEq] at H
    obtain ⟨rfl, rfl⟩ := H
    go_enter Tryd.func12, Tryd.ntmps12
    go_wp2
    go_ret2
    exact ⟨by first | rfl | (simp [errW_none, errW_some] <;> rfl) | (simp [*, errW_none, errW_some] <;> rfl), by repeat (first | (with_reducible first | exact HB.out | apply below_alloc | apply pw_below_drewN | apply below_drew1) | exact HB.out)⟩
  · rw [if_neg c3] at H
    have c3b0 : decide (a0 < 1) = false := decide_eq_false c3
    clear c3
    by_cases c4 : a0 > 4096
    · rw [if_pos c4] at H
      have c4b0 : decide (4096 < a0) = true := decide_eq_true c4
      clear c4
      simp only [Option.some.injEq, Prod.mk.injEq] at H
      obtain ⟨rfl, rfl⟩ := H
      go_enter Tryd.func12, Tryd.ntmps12
      go_wp2
      go_ret2
      exact ⟨by first | rfl | (simp [errW_none, errW_some] <;> rfl) | (simp [*, errW_none, errW_some] <;> rfl), by repeat (first | (with_reducible first | exact HB.out | apply below_alloc | apply pw_below_drewN | apply below_drew1) | exact HB.out)⟩
    · rw [if_neg c4] at H
      have c4b0 : decide (4096 < a0) = false := decide_eq_false c4
      clear c4
      by_cases c5 : a1 < 0
      · rw [if_pos c5] at H
        have c5b0 : decide (a1 < 0) = true := decide_eq_true c5
        clear c5
        simp only [Option.some.injEq, Prod.mk.injEq] at H
        obtain ⟨rfl, rfl⟩ := H
        go_enter Tryd.func12, Tryd.ntmps12
        go_wp2
        go_ret2
        exact ⟨by first | rfl | (simp [errW_none, errW_some] <;> rfl) | (simp [*, errW_none, errW_some] <;> rfl), by repeat (first | (with_reducible first | exact HB.out | apply below_alloc | apply pw_below_drewN | apply below_drew1) | exact HB.out)⟩
      · rw [if_neg c5] at H
        have c5b0 : decide (a1 < 0) = false := decide_eq_false c5
        clear c5
        by_cases c6 : a1 > 4096
        · rw [if_pos c6] at H
          have c6b0 : decide (4096 < a1) = true := decide_eq_true c6
          clear c6
          simp only [Option.some.injEq, Prod.mk.injEq] at H
          obtain ⟨rfl, rfl⟩ := H
          go_enter Tryd.func12, Tryd.ntmps12
          go_wp2
          go_ret2
          exact ⟨by first | rfl | (simp [errW_none, errW_some] <;> rfl) | (simp [*, errW_none, errW_some] <;> rfl), by repeat (first | (with_reducible first | exact HB.out | apply below_alloc | apply pw_below_drewN | apply below_drew1) | exact HB.out)⟩
        · rw [if_neg c6] at H
          have c6b0 : decide (4096 < a1) = false := decide_eq_false c6
          clear c6
          obtain ⟨y172, hy172⟩ : ∃ y_ : List Int, y_ = (([wrap64 (a0 + 6), a1, wrap64 ((wrap64 (3 * a0)) + 6), a0, a1, a0] : List Int)) := ⟨_, rfl⟩
          replace H : ((cost_sum.f k y172).bind fun t175 => (some (t175, 0))) = some (r1, r2) := by first | (rw [hy172]; with_reducible exact H) | (have H2_ := (Option.bind_some _ _).symm.trans H; rw [hy172]; with_reducible exact H2_) | (have H2_ := (Option.bind_some _ _).symm.trans H; with_reducible exact H2_) | with_reducible exact H | (rw [hy172]; exact H) | exact H
          have Ny172 := Aside0.mk hy172
          clear hy172
          replace H := Option.bind_eq_some_iff.mp H
          obtain ⟨t175, A70, H⟩ := H
          replace H : (some (t175, 0)) = some (r1, r2) := H
          have A7 := Aside0.mk A70
          clear A70
          simp only [Option.some.injEq, Prod.mk.injEq] at H
          obtain ⟨rfl, rfl⟩ := H
          go_enter Tryd.func12, Tryd.ntmps12
          go_wp2_with (first | ((with_reducible refine gate_dst (N := 29) rfl ?_); refine Kd.R_lit (Kd.int .i64) _ 3 ?hg (N := 29) ?hd (xs := ([wrap64 (a0 + 6), a1, wrap64 ((wrap64 (3 * a0)) + 6), a0, a1, a0] : List Int)) (inner := [.int .i64 (wrap64 (a0 + 6)), .int .i64 a1, .int .i64 (wrap64 ((wrap64 (3 * a0)) + 6)), .int .i64 a0, .int .i64 a1, .int .i64 a0]) (ok := fun _ => True) (okp := fun _ => True) ?hr ?hp (fun _ hk => hk) trivial (Below.refl _ _) (Nat.le_refl _) (by simp) ?_; (case hd => rfl); (case hg => rfl); (case hr => first | (go_simp; done) | (go_simp; rfl)); (case hp => exact (Reps.one (show Kd.M (Kd.int .i64) _ _ _ (wrap64 (a0 + 6)) [.int .i64 (wrap64 (a0 + 6))] from rfl) (Reps.one (show Kd.M (Kd.int .i64) _ _ _ a1 [.int .i64 a1] from rfl) (Reps.one (show Kd.M (Kd.int .i64) _ _ _ (wrap64 ((wrap64 (3 * a0)) + 6)) [.int .i64 (wrap64 ((wrap64 (3 * a0)) + 6))] from rfl) (Reps.one (show Kd.M (Kd.int .i64) _ _ _ a0 [.int .i64 a0] from rfl) (Reps.one (show Kd.M (Kd.int .i64) _ _ _ a1 [.int .i64 a1] from rfl) (Reps.one (show Kd.M (Kd.int .i64) _ _ _ a0 [.int .i64 a0] from rfl) (Reps.none _ _)))))))); intro v173 w8 ho9 hb hg_ hnew_; clear hg_ hnew_; (first | rw [← Ny172.out] at ho9 | (simp only [Int.reduceToNat] at ho9; rw [← Ny172.out] at ho9)); have n0_ := Aside0.mk (Kd.R_lower ho9 (below_size (by repeat (first | (with_reducible first | exact HB.out | apply below_alloc | apply pw_below_drewN | apply below_drew1) | exact HB.out)))); have n1_ := Aside0.mk (below_step (by repeat (first | (with_reducible first | exact HB.out | apply below_alloc | apply pw_below_drewN | apply below_drew1) | exact HB.out)) hb); clear HB; have HO174 := n0_; have HB := n1_; clear n0_ n1_; clear hb ho9; obtain ⟨Ao10, co10, eo10⟩ := Kd.R_slice HO174.out; subst eo10) | ((with_reducible refine gate_callee (f := 27) rfl ?_); refine goesL_ (some 30) rfl rfl Tryd.func27 (by kernel_rfl) rfl #[.slice Ao10 y172.length co10] rfl (by (try simp only [List.map_toArray, List.map_cons, List.map_nil]); first | done | rfl | (simp only [List.length_drop, List.length_take]; rfl)) ?_; (with_reducible refine (cost_sum.calls k _ _ y172 t175 _ ?side1 ?side2 A7.out).mono ?_); (case side1 => repeat (first | exact (Kd.R_reads' HO174.out).2.2 | (with_reducible refine Kd.C_alloc ?_ _) | (with_reducible refine Kd.C_drewN ?_ _) | (with_reducible refine Kd.C_drew ?_))); (case side2 => exact (Kd.R_reads' HO174.out).2.1); rintro e w' ⟨rfl, ⟨nd, rfl⟩⟩; refine ⟨_, rfl, ?_⟩))
          go_ret2
          exact ⟨by first | rfl | (simp [errW_none, errW_some] <;> rfl) | (simp [*, errW_none, errW_some] <;> rfl), by repeat (first | (with_reducible first | exact HB.out | apply below_alloc | apply pw_below_drewN | apply below_drew1) | exact HB.out)⟩

end Go.Proofs.YtcilfgedcnehfaaDoor.PCP
