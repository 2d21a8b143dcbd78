import Derived.Test.YtcilfgedcnehfaaDoorRng
set_option linter.unusedVariables false
set_option linter.unusedSectionVars false
set_option linter.unusedSimpArgs false
namespace Go.Proofs.YtcilfgedcnehfaaDoor
open Go.RowKit Go.Shelf
attribute [local go_sem] Oper.semAt_some

/-! ### radices, plainly -/
def pull (r : Nat) : Nat → Nat → List Nat × Nat
  | 0, m => ([], m)
  | k + 1, m => if m % r = 0 then (r :: (pull r k (m / r)).1, (pull r k (m / r)).2) else ([], m)
theorem pull_more (r : Nat) (hr : 2 ≤ r) : ∀ (b m k k' : Nat), m ≤ b → 0 < m → m ≤ k → m ≤ k' → pull r k m = pull r k' m
  | 0, m, _, _, h, h0, _, _ => by omega
  | b + 1, m, k, k', h, h0, hk, hk' => by
    obtain ⟨k, rfl⟩ : ∃ x, k = x + 1 := ⟨k - 1, by omega⟩
    obtain ⟨k', rfl⟩ : ∃ x, k' = x + 1 := ⟨k' - 1, by omega⟩
    unfold pull
    by_cases hm : m % r = 0
    · have hd : m / r < m := Nat.div_lt_self h0 hr
      have hp : 0 < m / r := Nat.div_pos (Nat.le_of_dvd h0 (Nat.dvd_of_mod_eq_zero hm)) (by omega)
      rw [if_pos hm, if_pos hm, pull_more r hr b (m / r) k k' (by omega) hp (by omega) (by omega)]
    · rw [if_neg hm, if_neg hm]
def pullN (r m : Nat) : List Nat × Nat := pull r m m
theorem pullN_step (r m : Nat) (hr : 2 ≤ r) (h0 : 0 < m) (hm : m % r = 0) : pullN r m = (r :: (pullN r (m / r)).1, (pullN r (m / r)).2) := by
  have hd : m / r < m := Nat.div_lt_self h0 hr
  have hp : 0 < m / r := Nat.div_pos (Nat.le_of_dvd h0 (Nat.dvd_of_mod_eq_zero hm)) (by omega)
  unfold pullN
  rw [pull_more r hr m m m (m - 1 + 1) (Nat.le_refl _) h0 (Nat.le_refl _) (by omega), pull, if_pos hm, pull_more r hr m (m / r) (m - 1) (m / r) (by omega) hp (by omega) (Nat.le_refl _)]
theorem pullN_stop (r m : Nat) (h0 : 0 < m) (hm : ¬ m % r = 0) : pullN r m = ([], m) := by
  unfold pullN
  obtain ⟨k, hk⟩ : ∃ x, m = x + 1 := ⟨m - 1, by omega⟩
  rw [show pull r m m = pull r (k + 1) m from by rw [← hk], pull, if_neg hm]
theorem pull_pos (r : Nat) (hr : 2 ≤ r) : ∀ (k m : Nat), 0 < m → 0 < (pull r k m).2 ∧ (pull r k m).2 ≤ m ∧ (pull r k m).1.length + (pull r k m).2 ≤ m
  | 0, m, h => by simp [pull]; exact h
  | k + 1, m, h => by
    unfold pull
    by_cases hm : m % r = 0
    · have hp : 0 < m / r := Nat.div_pos (Nat.le_of_dvd h (Nat.dvd_of_mod_eq_zero hm)) (by omega)
      have hd : m / r < m := Nat.div_lt_self h hr
      obtain ⟨a, b, c⟩ := pull_pos r hr k (m / r) hp
      rw [if_pos hm]
      simp only [List.length_cons]
      omega
    · rw [if_neg hm]; simp; exact h
def lastL (m : Nat) : List Nat := if 1 < m then [m] else []
def restJ : Nat → Nat → List Nat
  | 0, m => (pullN 3 m).1 ++ ((pullN 5 (pullN 3 m).2).1 ++ lastL (pullN 5 (pullN 3 m).2).2)
  | 1, m => (pullN 5 m).1 ++ lastL (pullN 5 m).2
  | _, m => lastL m
def arJ : Nat → Nat
  | 0 => 3
  | _ => 5
theorem restJ_step (j m : Nat) (hj : j < 2) (h0 : 0 < m) (hm : m % arJ j = 0) : restJ j m = arJ j :: restJ j (m / arJ j) := by
  match j, hj with
  | 0, _ => have hm' : m % 3 = 0 := hm; show (pullN 3 m).1 ++ _ = 3 :: ((pullN 3 (m / 3)).1 ++ _); rw [pullN_step 3 m (by omega) h0 hm']; rfl
  | 1, _ => have hm' : m % 5 = 0 := hm; show (pullN 5 m).1 ++ _ = 5 :: ((pullN 5 (m / 5)).1 ++ _); rw [pullN_step 5 m (by omega) h0 hm']; rfl
theorem restJ_stop (j m : Nat) (hj : j < 2) (h0 : 0 < m) (hm : ¬ m % arJ j = 0) : restJ j m = restJ (j + 1) m := by
  match j, hj with
  | 0, _ => have hm' : ¬ m % 3 = 0 := hm; show (pullN 3 m).1 ++ ((pullN 5 (pullN 3 m).2).1 ++ _) = _; rw [pullN_stop 3 m h0 hm']; rfl
  | 1, _ => have hm' : ¬ m % 5 = 0 := hm; show (pullN 5 m).1 ++ lastL (pullN 5 m).2 = _; rw [pullN_stop 5 m h0 hm']; rfl
/-- the radices of a size, as the code tells them -/
def radT (t n : Nat) : List Nat := List.replicate (t / 2) 4 ++ ((if t % 2 = 1 then [2] else []) ++ restJ 0 (n / 2 ^ t))
def radL (n : Nat) : List Nat := radT (Lib.ctz 64 n) n

/-! ### the walks -/
set_option maxHeartbeats 1000000 in
theorem tz64_core_ (x k idx : Nat) (w : World) (hx0 : ((x : Int) == 0) = false)
    (key : IntKind.u64.wrap (bits BinOp.and IntKind.u64 (x : Int) (IntKind.u64.wrap (-(x : Int))) * 285870213051353865) / 288230376151711744 = (idx : Int))
    (hi : idx < 64) (hk : k < 64) (hcell : w.cell? ⟨3, idx, none⟩ = some (.int .u8 k)) :
    Calls Tryd.prog 110 #[.int .u64 x] w fun e w' => e = .returned (.int .i64 k) ∧ w' = w := by
  go_enter Tryd.func110, Tryd.ntmps110
  go_wp2_with (simp only [key])
  go_ret
  exact ⟨rfl, rfl⟩
theorem tz64_any_ (x : Nat) (hx : x < 18446744073709551616) (hx0 : x ≠ 0) (w : World) (hT : TabAt 3 Lib.deBruijn64tab w) :
    Calls Tryd.prog 110 #[.int .u64 x] w fun e w' => e = .returned (.int .i64 (Lib.ctz 64 x)) ∧ w' = w := by
  obtain ⟨hlow, hk⟩ := Lib.lowest_bit 64 x hx0 hx
  obtain ⟨hi, htab⟩ := Lib.deBruijn64_at _ hk
  have hcell := hT _ hi
  rw [htab] at hcell
  exact tz64_core_ x _ _ w (by simp; omega) (tz64_key x _ hx hx0 hlow) hi hk hcell
theorem tz_any (x : Nat) (hx : x < 18446744073709551616) (hx0 : x ≠ 0) (w : World) (hT : TabAt 3 Lib.deBruijn64tab w) :
    Calls Tryd.prog 91 #[.int .u64 x] w fun e w' => e = .returned (.int .i64 (Lib.ctz 64 x)) ∧ w' = w := by
  have hw : IntKind.u64.wrap (x : Int) = (x : Int) := by rw [IntKind.wrap_u64]; omega
  have HT := Lib.hid hT
  clear hT
  go_enter Tryd.func91, Tryd.ntmps91
  go_wp2_with fail
  refine (tz64_any_ x hx hx0 _ HT.out).mono ?_
  rintro e w' ⟨rfl, rfl⟩
  go_wp2
  go_ret
  exact ⟨rfl, rfl⟩

theorem radices_mk (n : Int) (w : World) :
    Calls Tryd.prog 74 #[.int .i64 n] w fun e w' => e = .returned (.func (.func 90) #[] #[.pointer (some ⟨w.heap.size, 0, none⟩)]) ∧ w' = w.alloc (.cells #[.int .i64 n] 3) := by
  go_enter Tryd.func74, Tryd.ntmps74
  go_wp2
  go_ret
  exact ⟨rfl, rfl⟩

def encR (x : Nat) : Array Value := #[.int .i64 (x : Int)]
def cellN (w : World) (b : Nat) : Nat := match w.cell? ⟨b, 0, none⟩ with | some v => (intOf v).toNat | none => 0
theorem cellN_of {w : World} {b t : Nat} {m : Nat} (h : Boxed w b t (.int .i64 (m : Int))) : cellN w b = m := by unfold cellN; rw [h.cell]; simp [intOf]
theorem boxed_same {W W' : World} {b t : Nat} {v : Value} (h : Boxed W b t v) (e : W'.heap[b]? = W.heap[b]?) : Boxed W' b t v := e.trans h
theorem radT_pre1 (t n i : Nat) (h : i < t / 2) : ∃ s, radT t n = List.replicate i 4 ++ (4 :: s) := by
  obtain ⟨d, hd⟩ : ∃ d, t / 2 = i + (d + 1) := ⟨t / 2 - i - 1, by omega⟩
  refine ⟨List.replicate d 4 ++ ((if t % 2 = 1 then [2] else []) ++ restJ 0 (n / 2 ^ t)), ?_⟩
  unfold radT
  rw [hd, show i + (d + 1) = i + (d + 1) from rfl, ← List.replicate_append_replicate, List.replicate_succ]
  simp
theorem pre_of {l p s : List Nat} {x : Nat} (h : l = p ++ (x :: s)) : p ++ [x] <+: l ∧ p.length < l.length := ⟨⟨s, by rw [h]; simp⟩, by rw [h]; simp⟩
set_option maxRecDepth 100000 in
set_option maxHeartbeats 4000000 in
theorem radices_stops (F : Fence) (hF : ∀ k, F.fn k) (hro : F.round = none) (hde : F.depth = none) (m n0 bx t : Nat) (hm : 3 ≤ m) (h1 : 1 ≤ n0) (h2 : n0 ≤ 4096) (ht : Lib.ctz 64 n0 = t) (ht12 : t ≤ 12) (hp : 0 < n0 / 2 ^ t) (w : World) (hbx : Boxed w bx 3 (.int .i64 (n0 : Int))) (hT : TabAt 3 Lib.deBruijn64tab w)
    (hout : ∀ W : World, TabAt 3 Lib.deBruijn64tab W → CallsIn F (m - 1) Tryd.prog 91 #[.int .u64 (n0 : Int)] W fun e w' => e = .returned (.int .i64 (t : Int)) ∧ w' = W) :
    SeqBox F m Tryd.prog 90 #[.pointer (some ⟨bx, 0, none⟩)] encR (fun W W' => W'.heap[bx]? = W.heap[bx]?) (fun xs => xs = radT t n0) (fun pre => pre <+: radT t n0) (radT t n0).length w bx := by
  intro l J Jx W hW hJ hJx hJs hJxs hY h0
  have hbW : Boxed W bx 3 (.int .i64 (n0 : Int)) := (hW.block bx hbx.lt).trans hbx
  have hTW : TabAt 3 Lib.deBruijn64tab W := fun j hj => by
    have h := hT j hj
    exact (hW.cell (World.block_lt_of_cell? w _ h)).trans h
  have HY := Lib.hid hY
  have HJS := Lib.hid hJs
  have HTW := Lib.hid hTW
  have HO := Lib.hid hout
  clear hY hJs hTW hout ht hT hJ hJx hJxs hW hbx
  refine callsIn_of_wp Tryd.func90 rfl (hF _) ?_ hro
  simp only [Tryd.ntmps90, List.size_toArray, List.length_cons, List.length_nil, Nat.reduceAdd, Nat.reduceSub, Array.replicate_succ, Array.replicate_zero, List.push_toArray, List.append_toArray, List.nil_append, List.cons_append]
  have hc := hbW.cell
  have hu : IntKind.u64.wrap (n0 : Int) = (n0 : Int) := by rw [IntKind.wrap_u64]; omega
  obtain ⟨M, hM⟩ : ∃ M, n0 / 2 ^ t = M := ⟨_, rfl⟩
  have hM0 : 0 < M := by rw [← hM]; exact hp
  have hM1 : M ≤ 4096 := by rw [← hM]; exact Nat.le_trans (Nat.div_le_self _ _) h2
  have HM := Lib.hid hM
  clear hM hp
  obtain ⟨h, hh⟩ : ∃ h, h = t / 2 := ⟨_, rfl⟩
  have hq : (t : Int) / 2 = (h : Int) := by omega
  have hh6 : h ≤ 6 := by omega
  have HH := Lib.hid hh
  clear hh
  gi_wp2_with (gi_at_call 91; refine (HO.out _ HTW.out).mono ?_; rintro e w' ⟨rfl, rfl⟩)
  gi_loopw [11] (fun v wr => ∃ i : Nat, v = .int .i64 (i : Int) ∧ i ≤ h ∧ J (List.replicate i 4) wr ∧ Boxed wr bx 3 (.int .i64 (n0 : Int))) (fun v _ => h - (intOf v).toNat)
  case atStart => exact ⟨0, rfl, Nat.zero_le _, h0, hbW⟩
  case round =>
    obtain ⟨i, rfl, hi, hJ1, hb1⟩ := hrel
    clear h0 hbW hc
    by_cases hlt : i < h
    · have hltz : (i : Int) < (h : Int) := by omega
      obtain ⟨s, hs⟩ := radT_pre1 t n0 i (by rw [← HH.out]; exact hlt)
      obtain ⟨hpre, hlen⟩ := pre_of hs
      have hlen' : (List.replicate i 4).length < (radT t n0).length := hlen
      obtain ⟨fn, tmps, assign, body, hy, hR⟩ := HY.out (List.replicate i 4) 4 wr hJ1 hlen'
      have HP := Lib.hid hpre
      clear hs hpre hlen hlen'
      dsimp only [encR] at hy
      have hy' : (Instr.yield l #[Value.int IntKind.i64 4]).run Tryd.prog wr = .ok (.round l fn tmps assign body) wr := hy
      clear hy
      gi_wp2
      refine hR.mono ?_
      rintro e W' (⟨rfl, hJ2, hk⟩ | ⟨rfl, hJx2⟩)
      · gi_wp2
        go_roundw
        case rel => exact ⟨i + 1, by go_num, by omega, by rw [List.replicate_succ']; exact hJ2, boxed_same hb1 hk⟩
        case measure => simp [intOf]; omega
      · gi_wp2
        refine bodyPost_ret (results_none rfl _ _ _) rfl ?_
        exact ⟨⟨_, rfl⟩, .inr ⟨_, HP.out, hJx2⟩⟩
    · obtain rfl : i = h := by omega
      have hltz : ¬ (i : Int) < (i : Int) := by omega
      have hc2 := hb1.cell
      have hf2 := hb1.frozen
      have hMi : (n0 : Int) / 2 ^ t = (M : Int) := by rw [← HM.out]; simp
      have HR1 : Hid (radT t n0 = List.replicate i 4 ++ ((if t % 2 = 1 then [2] else []) ++ restJ 0 M)) := by show _ = _; unfold radT; rw [HH.out, HM.out]
      by_cases hodd : t % 2 = 1
      case' pos =>
        have hm0 : ((t : Int) % 2 == 1) = true := beq_iff_eq.2 (by omega)
        have hr1 : radT t n0 = List.replicate i 4 ++ (2 :: restJ 0 M) := by rw [HR1.out, if_pos hodd]; rfl
        obtain ⟨hpre, hlen⟩ := pre_of hr1
        obtain ⟨fn, tmps, assign, body, hy, hR⟩ := HY.out (List.replicate i 4) 2 wr hJ1 hlen
        have HP := Lib.hid hpre
        have HR2 := Lib.hid hr1
        clear hpre hlen hr1 hodd
        have hy' : (Instr.yield l #[Value.int IntKind.i64 2]).run Tryd.prog wr = .ok (.round l fn tmps assign body) wr := hy
        clear hy
        gi_wp2
        refine hR.mono ?_
        rintro e W' (⟨rfl, hJ2, hk⟩ | ⟨rfl, hJx2⟩)
        rotate_left
        · gi_wp2
          refine bodyPost_ret (results_none rfl _ _ _) rfl ?_
          exact ⟨⟨_, rfl⟩, .inr ⟨_, HP.out, hJx2⟩⟩
        have hb2 := boxed_same hb1 hk
        have hc3 := hb2.cell
        have hf3 := hb2.frozen
        clear hc2 hf2 hm0 hk
        gi_wp2
        have HR3 : Hid (radT t n0 = (List.replicate i 4 ++ [2]) ++ restJ 0 M) := by show _ = _; rw [HR2.out]; simp
        generalize (List.replicate i 4 ++ [2]) = pre0 at *
        clear HR1 HR2 hJ1 hb1 hc3 hf3
        have hJ4 := HJS.out _ _ (.int .i64 (M : Int)) hJ2
        have hb4 := Boxed.set (.int .i64 (M : Int)) hb2
        clear hJ2 hb2
      case' neg =>
        have hm0 : ((t : Int) % 2 == 1) = false := beq_eq_false_iff_ne.2 (by omega)
        gi_wp2
        have HR3 : Hid (radT t n0 = List.replicate i 4 ++ restJ 0 M) := by show _ = _; rw [HR1.out, if_neg hodd]; rfl
        generalize List.replicate i 4 = pre0 at *
        have hJ4 := HJS.out _ _ (.int .i64 (M : Int)) hJ1
        have hb4 := Boxed.set (.int .i64 (M : Int)) hb1
        clear hJ1 hb1 hc2 hf2 hm0 hodd HR1
      all_goals
        gi_loopw [29] (fun v wr => ∃ (j m : Nat) (pre : List Nat), v = .int .i64 (j : Int) ∧ j ≤ 2 ∧ 0 < m ∧ m ≤ 4096 ∧ J pre wr ∧ Boxed wr bx 3 (.int .i64 (m : Int)) ∧ Hid (radT t n0 = pre ++ restJ j m)) (fun v _ => 2 - (intOf v).toNat)
        case atStart => exact ⟨0, M, pre0, rfl, by omega, hM0, hM1, hJ4, hb4, HR3⟩
        case round =>
          clear hJ4 hb4 HR3
          obtain ⟨j, m', pre, rfl, hj, hm0, hm1, hJ5, hb5, HR5⟩ := hrel
          by_cases hlt : j < 2
          · have hltz : (j : Int) < 2 := by omega
            have hj2 : j = 0 ∨ j = 1 := by omega
            rcases hj2 with rfl | rfl
            · have i0 : ∀ w, (Instr.index 122 (.agg #[.int .i64 3, .int .i64 5]) (.int .i64 0)).run Tryd.prog w = .ok (.int .i64 3) w := fun _ => by kernel_rfl
              gi_wp2
              gi_loopw [35] (fun _ wr => ∃ (m : Nat) (pre : List Nat), 0 < m ∧ m ≤ 4096 ∧ J pre wr ∧ Boxed wr bx 3 (.int .i64 (m : Int)) ∧ Hid (radT t n0 = pre ++ restJ 0 m)) (fun _ wr => cellN wr bx)
              case atStart => exact ⟨m', pre, hm0, hm1, hJ5, hb5, HR5⟩
              case round =>
                clear hJ5 hb5 HR5 hm0 hm1
                obtain ⟨m1, pre1, hm0, hm1, hJ6, hb6, HR6⟩ := hrel
                have hc6 := hb6.cell
                have hf6 := hb6.frozen
                by_cases hmod : m1 % 3 = 0
                · have hme : ((m1 : Int) % 3 == 0) = true := beq_iff_eq.2 (by omega)
                  have hr7 : radT t n0 = pre1 ++ (3 :: restJ 0 (m1 / 3)) := by rw [HR6.out, restJ_step 0 m1 (by omega) hm0 hmod]; rfl
                  have hm2 : 0 < m1 / 3 ∧ m1 / 3 ≤ 4096 ∧ m1 / 3 < m1 := by omega
                  obtain ⟨m2, hm2e⟩ : ∃ m2, m1 / 3 = m2 := ⟨_, rfl⟩
                  rw [hm2e] at hr7 hm2
                  have hmi : (m1 : Int) / 3 = (m2 : Int) := by omega
                  obtain ⟨hpre, hlen⟩ := pre_of hr7
                  obtain ⟨fn, tmps, assign, body, hy, hR⟩ := HY.out pre1 3 _ hJ6 hlen
                  have HP := Lib.hid hpre
                  have HR7 := Lib.hid hr7
                  clear hpre hlen hr7 HR6 hJ6 hm2e hmod
                  have hy' : (Instr.yield l #[Value.int IntKind.i64 3]).run Tryd.prog wr = .ok (.round l fn tmps assign body) wr := hy
                  clear hy
                  gi_wp2
                  refine hR.mono ?_
                  rintro e W' (⟨rfl, hJ7, hk⟩ | ⟨rfl, hJx2⟩)
                  · have hb7 := boxed_same hb6 hk
                    have hc7 := hb7.cell
                    have hf7 := hb7.frozen
                    have HC := Lib.hid (cellN_of hb6)
                    clear hk hc6 hf6 hb6 hme
                    gi_wp2
                    go_roundw
                    case rel => exact ⟨_, _, _, _, _, _, _, _, _, _, _, ⟨m2, pre1 ++ [3], hm2.1, hm2.2.1, HJS.out _ _ _ hJ7, Boxed.set _ hb7, by show _ = _; rw [HR7.out]; simp⟩, rfl⟩
                    case measure => rw [HC.out, cellN_of (Boxed.set _ hb7)]; exact hm2.2.2
                  · gi_wp2
                    refine bodyPost_ret (results_none rfl _ _ _) rfl ?_
                    exact ⟨⟨_, rfl⟩, .inr ⟨_, HP.out, hJx2⟩⟩
                · have hme : ((m1 : Int) % 3 == 0) = false := beq_eq_false_iff_ne.2 (by omega)
                  have HR7 : Hid (radT t n0 = pre1 ++ restJ (0 + 1) m1) := by show _ = _; rw [HR6.out, restJ_stop 0 m1 (by omega) hm0 hmod]
                  clear HR6 hmod
                  gi_wp2
                  go_roundw
                  case rel => exact ⟨0 + 1, m1, pre1, by go_num, by omega, hm0, hm1, hJ6, hb6, HR7⟩
                  case measure => simp [intOf]
            · have i0 : ∀ w, (Instr.index 122 (.agg #[.int .i64 3, .int .i64 5]) (.int .i64 1)).run Tryd.prog w = .ok (.int .i64 5) w := fun _ => by kernel_rfl
              gi_wp2
              gi_loopw [35] (fun _ wr => ∃ (m : Nat) (pre : List Nat), 0 < m ∧ m ≤ 4096 ∧ J pre wr ∧ Boxed wr bx 3 (.int .i64 (m : Int)) ∧ Hid (radT t n0 = pre ++ restJ 1 m)) (fun _ wr => cellN wr bx)
              case atStart => exact ⟨m', pre, hm0, hm1, hJ5, hb5, HR5⟩
              case round =>
                clear hJ5 hb5 HR5 hm0 hm1
                obtain ⟨m1, pre1, hm0, hm1, hJ6, hb6, HR6⟩ := hrel
                have hc6 := hb6.cell
                have hf6 := hb6.frozen
                by_cases hmod : m1 % 5 = 0
                · have hme : ((m1 : Int) % 5 == 0) = true := beq_iff_eq.2 (by omega)
                  have hr7 : radT t n0 = pre1 ++ (5 :: restJ 1 (m1 / 5)) := by rw [HR6.out, restJ_step 1 m1 (by omega) hm0 hmod]; rfl
                  have hm2 : 0 < m1 / 5 ∧ m1 / 5 ≤ 4096 ∧ m1 / 5 < m1 := by omega
                  obtain ⟨m2, hm2e⟩ : ∃ m2, m1 / 5 = m2 := ⟨_, rfl⟩
                  rw [hm2e] at hr7 hm2
                  have hmi : (m1 : Int) / 5 = (m2 : Int) := by omega
                  obtain ⟨hpre, hlen⟩ := pre_of hr7
                  obtain ⟨fn, tmps, assign, body, hy, hR⟩ := HY.out pre1 5 _ hJ6 hlen
                  have HP := Lib.hid hpre
                  have HR7 := Lib.hid hr7
                  clear hpre hlen hr7 HR6 hJ6 hm2e hmod
                  have hy' : (Instr.yield l #[Value.int IntKind.i64 5]).run Tryd.prog wr = .ok (.round l fn tmps assign body) wr := hy
                  clear hy
                  gi_wp2
                  refine hR.mono ?_
                  rintro e W' (⟨rfl, hJ7, hk⟩ | ⟨rfl, hJx2⟩)
                  · have hb7 := boxed_same hb6 hk
                    have hc7 := hb7.cell
                    have hf7 := hb7.frozen
                    have HC := Lib.hid (cellN_of hb6)
                    clear hk hc6 hf6 hb6 hme
                    gi_wp2
                    go_roundw
                    case rel => exact ⟨_, _, _, _, _, _, _, _, _, _, _, ⟨m2, pre1 ++ [5], hm2.1, hm2.2.1, HJS.out _ _ _ hJ7, Boxed.set _ hb7, by show _ = _; rw [HR7.out]; simp⟩, rfl⟩
                    case measure => rw [HC.out, cellN_of (Boxed.set _ hb7)]; exact hm2.2.2
                  · gi_wp2
                    refine bodyPost_ret (results_none rfl _ _ _) rfl ?_
                    exact ⟨⟨_, rfl⟩, .inr ⟨_, HP.out, hJx2⟩⟩
                · have hme : ((m1 : Int) % 5 == 0) = false := beq_eq_false_iff_ne.2 (by omega)
                  have HR7 : Hid (radT t n0 = pre1 ++ restJ (1 + 1) m1) := by show _ = _; rw [HR6.out, restJ_stop 1 m1 (by omega) hm0 hmod]
                  clear HR6 hmod
                  gi_wp2
                  go_roundw
                  case rel => exact ⟨1 + 1, m1, pre1, by go_num, by omega, hm0, hm1, hJ6, hb6, HR7⟩
                  case measure => simp [intOf]
          · obtain rfl : j = 2 := by omega
            have hb6 := hb5.cell
            by_cases hlast : 1 < m'
            · have hl1 : (1 : Int) < (m' : Int) := by omega
              have hr6 : radT t n0 = pre ++ (m' :: []) := by rw [HR5.out]; show pre ++ lastL m' = _; unfold lastL; rw [if_pos hlast]
              obtain ⟨hpre, hlen⟩ := pre_of hr6
              obtain ⟨fn, tmps, assign, body, hy, hR⟩ := HY.out pre m' _ hJ5 hlen
              have HP := Lib.hid hpre
              have HR6 := Lib.hid hr6
              clear hpre hlen hr6 HR5 hJ5
              dsimp only [encR] at hy
              gi_wp2
              refine hR.mono ?_
              rintro e W' (⟨rfl, hJ6, hk⟩ | ⟨rfl, hJx2⟩)
              · gi_wp2
                go_end0
                exact ⟨⟨_, rfl⟩, .inl ⟨_, by rw [HR6.out], hJ6⟩⟩
              · gi_wp2
                go_end0
                exact ⟨⟨_, rfl⟩, .inr ⟨_, HP.out, hJx2⟩⟩
            · have hl1 : ¬ (1 : Int) < (m' : Int) := by omega
              have hr6 : radT t n0 = pre := by rw [HR5.out]; show pre ++ lastL m' = _; unfold lastL; rw [if_neg hlast, List.append_nil]
              have HR6 := Lib.hid hr6
              clear hr6 HR5
              gi_wp2
              go_end0
              exact ⟨⟨_, rfl⟩, .inl (by rw [HR6.out]; exact hJ5)⟩
end Go.Proofs.YtcilfgedcnehfaaDoor
