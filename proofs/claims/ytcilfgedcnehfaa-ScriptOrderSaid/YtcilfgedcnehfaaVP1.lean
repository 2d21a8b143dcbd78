/-
  Part of the proof of a law: plain mathematics, and rules of reasoning. Conditions: none.
-/
import Derived.Test.YtcilfgedcnehfaaVA2
import Derived.Lib.TrailingZeros
import Derived.Lib.BitFns
import Derived.Lib.Zigzag
set_option linter.unusedVariables false
set_option linter.unusedSectionVars false
set_option linter.unusedSimpArgs false
set_option linter.deprecated false
namespace Go.AM
open Go
variable {α β ρ : Type}

def WP (m : M α) (S : St) (Q : α → St → Prop) : Prop := ∃ a S', m S = some (a, S') ∧ Q a S'

theorem WP.mono {m : M α} {S : St} {Q Q' : α → St → Prop} (h : WP m S Q) (hq : ∀ a S', Q a S' → Q' a S') : WP m S Q' := by
  obtain ⟨a, S', h1, h2⟩ := h
  exact ⟨a, S', h1, hq _ _ h2⟩
@[simp] theorem wp_ret {a : α} {S : St} {Q : α → St → Prop} : WP (M.ret a) S Q ↔ Q a S :=
  ⟨fun ⟨_, _, h, q⟩ => by cases h; exact q, fun q => ⟨_, _, rfl, q⟩⟩
@[simp] theorem wp_retQ {i : Nat} {l : List Value} {S : St} {Q : Nat × List Value → St → Prop} : WP (retQ i l) S Q ↔ Q (i, l) S := wp_ret
@[simp] theorem wp_bind {m : M α} {k : α → M β} {S : St} {Q : β → St → Prop} : WP (M.bind m k) S Q ↔ WP m S fun a S' => WP (k a) S' Q := by
  constructor
  · rintro ⟨b, S', h, q⟩
    obtain ⟨a, S1, h1, h2⟩ := M.bind_some h
    exact ⟨a, S1, h1, b, S', h2, q⟩
  · rintro ⟨a, S1, h1, b, S', h2, q⟩
    exact ⟨b, S', by simp [M.bind, h1, h2], q⟩
@[simp] theorem wp_guard {c : Prop} [Decidable c] {m : M α} {S : St} {Q : α → St → Prop} : WP (guardM c m) S Q ↔ c ∧ WP m S Q := by
  constructor
  · rintro ⟨a, S', h, q⟩
    obtain ⟨h1, h2⟩ := guardM_some h
    exact ⟨h1, a, S', h2, q⟩
  · rintro ⟨h1, a, S', h2, q⟩
    exact ⟨a, S', by simp [guardM, h1, h2], q⟩
@[simp] theorem wp_cond {b : Bool} {m n : M α} {S : St} {Q : α → St → Prop} : WP (cond b m n) S Q ↔ (b = true → WP m S Q) ∧ (b = false → WP n S Q) := by
  cases b <;> simp
@[simp] theorem wp_fail {S : St} {Q : α → St → Prop} : WP (M.fail : M α) S Q ↔ False := ⟨fun ⟨_, _, h, _⟩ => (by cases h), False.elim⟩
@[simp] theorem wp_failV {S : St} {Q : Value → St → Prop} : WP failV S Q ↔ False := wp_fail
@[simp] theorem wp_failQ {S : St} {Q : Nat × List Value → St → Prop} : WP failQ S Q ↔ False := wp_fail
@[simp] theorem wp_asI {k : IntKind} {n : Int} {S : St} {Q : Int → St → Prop} : WP (asI k (.int k n)) S Q ↔ Q n S := by
  have : asI k (.int k n) = M.ret n := by simp [asI]
  rw [this, wp_ret]
@[simp] theorem wp_asB {b : Bool} {S : St} {Q : Bool → St → Prop} : WP (asB (.bool b)) S Q ↔ Q b S := wp_ret
@[simp] theorem wp_asS {a : Option Addr} {n c : Nat} {S : St} {Q : Sl → St → Prop} : WP (asS (.slice a n c)) S Q ↔ Q ⟨a, n, c⟩ S := wp_ret
@[simp] theorem wp_asP {a : Option Addr} {S : St} {Q : Option Addr → St → Prop} : WP (asP (.pointer a)) S Q ↔ Q a S := wp_ret
@[simp] theorem wp_asM {a : Option Nat} {S : St} {Q : Option Nat → St → Prop} : WP (asM (.map a)) S Q ↔ Q a S := wp_ret
@[simp] theorem wp_asA {l : List Value} {S : St} {Q : List Value → St → Prop} : WP (asA (.agg ⟨l⟩)) S Q ↔ Q l S := wp_ret
@[simp] theorem wp_asT {l : List Value} {S : St} {Q : List Value → St → Prop} : WP (asT (.tuple ⟨l⟩)) S Q ↔ Q l S := wp_ret
@[simp] theorem wp_onOpt {a : α} {K : α → M ρ} {S : St} {Q : ρ → St → Prop} : WP (onOpt (some a) K) S Q ↔ WP (K a) S Q := Iff.rfl
@[simp] theorem wp_newB {o : AObj} {S : St} {Q : Nat → St → Prop} : WP (newB o) S Q ↔ Q S.length (S ++ [o]) :=
  ⟨fun ⟨_, _, h, q⟩ => by cases h; exact q, fun q => ⟨_, _, rfl, q⟩⟩
@[simp] theorem wp_ld {a : Addr} {S : St} {Q : Value → St → Prop} : WP (ld a) S Q ↔ ∃ v, S.cell a = some v ∧ Q v S := by
  constructor
  · rintro ⟨v, S', h, q⟩
    obtain ⟨h1, rfl⟩ := ld_some h
    exact ⟨v, h1, q⟩
  · rintro ⟨v, h, q⟩
    exact ⟨v, S, by simp [ld, h], q⟩
@[simp] theorem wp_stL {a : Addr} {vs : List Value} {S : St} {Q : Unit → St → Prop} : WP (stL a vs) S Q ↔
    ∃ c e g, S[a.block]? = some (.cells c e g) ∧ (a.spot = none ∧ a.off + vs.length ≤ c.length ∧ vs.all leafV = true) ∧ Q () (S.set a.block (.cells (splice c a.off vs) e g)) := by
  constructor
  · rintro ⟨u, S', h, q⟩
    unfold stL at h
    split at h
    · rename_i c e g hc
      split at h
      · cases h; exact ⟨c, e, g, hc, ‹_›, q⟩
      · cases h
    · cases h
  · rintro ⟨c, e, g, hc, h, q⟩
    refine ⟨(), _, ?_, q⟩
    unfold stL
    rw [hc]
    dsimp only
    rw [if_pos h]
@[simp] theorem wp_oneV {i : Nat} {v : Value} {S : St} {Q : Value → St → Prop} : WP (oneV (i, [v])) S Q ↔ Q v S := wp_ret
@[simp] theorem pickM_nil {i : Nat} : pickM ([] : List (M ρ)) i = M.fail := by unfold pickM; rfl
@[simp] theorem pickM_one {m : M ρ} {i : Nat} : pickM [m] i = m := by unfold pickM; rfl
@[simp] theorem pickM_zero {m : M ρ} {l : List (M ρ)} : pickM (m :: l) 0 = m := by cases l <;> (unfold pickM; rfl)
@[simp] theorem pickM_succ {m m' : M ρ} {l : List (M ρ)} {i : Nat} : pickM (m :: m' :: l) (i + 1) = pickM (m' :: l) i := by conv => lhs; unfold pickM
@[simp] theorem wp_rdN0 {a : Option Addr} {S : St} {Q : List Value → St → Prop} : WP (rdN a 0) S Q ↔ Q [] S :=
  ⟨fun ⟨_, _, h, q⟩ => by cases h; exact q, fun q => ⟨_, _, rfl, q⟩⟩
theorem wp_rdN {a : Addr} {k : Nat} {S : St} {Q : List Value → St → Prop} {c : List Value} {e : TypeId} {g : Option Nat} (hb : S[a.block]? = some (.cells c e g)) (hs : a.spot = none) (hl : a.off + k ≤ c.length)
    (q : Q ((c.drop a.off).take k) S) : WP (rdN (some a) k) S Q := by
  refine ⟨(c.drop a.off).take k, S, ?_, q⟩
  unfold rdN
  by_cases h0 : k = 0
  · subst h0; simp
  · rw [if_neg h0]; dsimp only; rw [hb]; dsimp only; rw [if_pos ⟨hs, hl⟩]

theorem wp_loop {body : List Value → M (Nat × List Value)} {Q : Nat × List Value → St → Prop} (I : List Value → St → Nat → Prop)
    (hstep : ∀ st S n, I st S n → WP (body st) S fun q S' => match q.1 with
      | 0 => ∃ n' < n, I q.2 S' n'
      | _ + 1 => Q q S') : ∀ n st S, I st S n → WP (loopM body st) S Q := by
  intro n
  induction n using Nat.strongRecOn with
  | _ n ih =>
    intro st S hi
    obtain ⟨q, S', h1, h2⟩ := hstep st S n hi
    obtain ⟨i, l⟩ := q
    cases i with
    | zero =>
      obtain ⟨n', hn, hi'⟩ := h2
      obtain ⟨a, S2, h3, h4⟩ := ih n' hn _ _ hi'
      exact ⟨a, S2, by rw [loopM_eq]; simp only [M.bind, h1]; exact h3, h4⟩
    | succ i => exact ⟨(i + 1, l), S', by rw [loopM_eq]; simp only [M.bind, h1]; rfl, h2⟩
theorem wp_round {body : List Value → M (Nat × List Value)} {st : List Value} {S : St} {Q : Nat × List Value → St → Prop}
    (h : WP (body st) S fun q S' => match q.1 with
      | 0 => WP (loopM body q.2) S' Q
      | _ + 1 => Q q S') : WP (loopM body st) S Q := by
  obtain ⟨⟨i, l⟩, S', h1, h2⟩ := h
  cases i with
  | zero => obtain ⟨a, S2, h3, h4⟩ := h2; exact ⟨a, S2, by rw [loopM_eq]; simp only [M.bind, h1]; exact h3, h4⟩
  | succ i => exact ⟨(i + 1, l), S', by rw [loopM_eq]; simp only [M.bind, h1]; rfl, h2⟩

def Sp (m : M α) (S : St) (R : α → St → Prop) : Prop := WP m S fun a S' => S <+: S' ∧ R a S'
theorem Sp.use {m : M α} {S : St} {R Q : α → St → Prop} (h : Sp m S R) (k : ∀ a S', S <+: S' → R a S' → Q a S') : WP m S Q :=
  WP.mono h fun a S' ⟨h1, h2⟩ => k a S' h1 h2
theorem pre_get {S S' : St} (h : S <+: S') {i : Nat} {o : AObj} (ho : S[i]? = some o) : S'[i]? = some o := by
  obtain ⟨t, rfl⟩ := h
  have hl : i < S.length := by
    rcases Nat.lt_or_ge i S.length with h | h
    · exact h
    · rw [List.getElem?_eq_none h] at ho; cases ho
  rw [List.getElem?_append_left hl]; exact ho
theorem pre_cell {S S' : St} (h : S <+: S') {a : Addr} {v : Value} (hv : S.cell a = some v) : S'.cell a = some v := by
  unfold St.cell at hv ⊢
  cases hb : S[a.block]? with
  | none => rw [hb] at hv; cases hv
  | some o => rw [hb] at hv; rw [pre_get h hb]; exact hv
theorem pre_set' {S S' : St} (h : S <+: S') {b : Nat} {o : AObj} (hb : S.length ≤ b) : S <+: S'.set b o := by
  obtain ⟨t, rfl⟩ := h
  rw [List.set_append_right _ _ hb]
  exact ⟨_, rfl⟩
theorem pre_add {S S' : St} (h : S <+: S') (t : St) : S <+: S' ++ t := h.trans (List.prefix_append _ _)
theorem get_new {S : St} {o : AObj} : (S ++ [o])[S.length]? = some o := by simp
theorem get_add {S t : St} {i : Nat} {o : AObj} (h : S[i]? = some o) : (S ++ t)[i]? = some o := pre_get (List.prefix_append _ _) h
theorem pre_lt {S : St} {i : Nat} {o : AObj} (h : S[i]? = some o) : i < S.length := by
  rcases Nat.lt_or_ge i S.length with h' | h'
  · exact h'
  · rw [List.getElem?_eq_none h'] at h; cases h
theorem cell_blk {S : St} {b : Nat} {c : List Value} {e : TypeId} {g : Option Nat} (h : S[b]? = some (.cells c e g)) (o : Nat) : S.cell ⟨b, o, none⟩ = c[o]? := by
  simp [St.cell, h]
@[simp] theorem cell_new {S : St} {c : List Value} {e : TypeId} {g : Option Nat} {o : Nat} : St.cell (S ++ [.cells c e g]) ⟨S.length, o, none⟩ = c[o]? := by
  simp [St.cell]
@[simp] theorem add_off {b o n : Nat} : (⟨b, o, none⟩ : Addr).add n = ⟨b, o + n, none⟩ := by
  unfold Addr.add; split
  · rename_i h; subst h; simp
  · rfl
theorem add_zero_ (a : Addr) : a.add 0 = a := by unfold Addr.add; simp

def Ar (S : St) (p : Option Addr) (n w : Nat) (e : α → List Value) (l : List α) : Prop :=
  n = l.length ∧ ∀ i (h : i < l.length), ∃ a, p = some a ∧ ∀ j v, (e l[i])[j]? = some v → S.cell ((a.add (i * w)).add j) = some v
theorem Ar.mono {S S' : St} {p : Option Addr} {n w : Nat} {e : α → List Value} {l : List α} (h : Ar S p n w e l) (hs : S <+: S') : Ar S' p n w e l :=
  ⟨h.1, fun i hi => by obtain ⟨a, h1, h2⟩ := h.2 i hi; exact ⟨a, h1, fun j v hv => pre_cell hs (h2 j v hv)⟩⟩
theorem Ar.nil {S : St} {p : Option Addr} {w : Nat} {e : α → List Value} : Ar S p 0 w e [] := ⟨rfl, fun i h => by simp at h⟩
theorem Ar.get {S : St} {p : Option Addr} {n w : Nat} {e : α → List Value} {l : List α} (h : Ar S p n w e l) {i : Nat} (hi : i < l.length) :
    ∃ a, p = some a ∧ ∀ j v, (e l[i])[j]? = some v → S.cell ((a.add (i * w)).add j) = some v := h.2 i hi

theorem Ar.set {S : St} {p : Option Addr} {n w b : Nat} {e : α → List Value} {l : List α} {o : AObj} (h : Ar S p n w e l) (hb : ∀ x, p = some x → x.block ≠ b) : Ar (S.set b o) p n w e l := by
  refine ⟨h.1, fun i hi => ?_⟩
  obtain ⟨x, h1, h2⟩ := h.2 i hi
  refine ⟨x, h1, fun j u hu => ?_⟩
  have h3 := h2 j u hu
  have hblk : ((x.add (i * w)).add j).block = x.block := by
    unfold Addr.add; split <;> split <;> rfl
  unfold St.cell at h3 ⊢
  rw [hblk] at h3 ⊢
  rw [List.getElem?_set_ne (fun e => hb x h1 e.symm)]; exact h3
def eU (n : Int) : List Value := [.int .u64 n]
theorem Ar.getU {S : St} {p : Option Addr} {n : Nat} {l : List Int} (h : Ar S p n 1 eU l) {i : Nat} (hi : i < l.length) :
    ∃ a, p = some a ∧ S.cell (a.add i) = some (.int .u64 l[i]) := by
  obtain ⟨a, h1, h2⟩ := h.2 i hi
  exact ⟨a, h1, by have := h2 0 _ rfl; rwa [add_zero_, Nat.mul_one] at this⟩
theorem Ar.blk {S : St} {b : Nat} {c : List Value} {t : TypeId} {g : Option Nat} (hb : S[b]? = some (.cells c t g)) {w : Nat} {e : α → List Value} {l : List α}
    (hw : ∀ x ∈ l, (e x).length = w) (hc : c = l.flatMap e) : Ar S (some ⟨b, 0, none⟩) l.length w e l := by
  refine ⟨rfl, fun i hi => ⟨_, rfl, fun j v hv => ?_⟩⟩
  simp only [add_off]
  rw [cell_blk hb, hc]
  have key : ∀ (l : List α) (i : Nat) (hi : i < l.length) (j : Nat) (v : Value), (∀ x ∈ l, (e x).length = w) → (e l[i])[j]? = some v → (l.flatMap e)[i * w + j]? = some v := by
    intro l
    induction l with
    | nil => intro i hi; simp at hi
    | cons x l ih =>
      intro i hi j v hw hv
      have hx := hw x (by simp)
      rw [List.flatMap_cons]
      cases i with
      | zero =>
        have : j < (e x).length := by
          rcases Nat.lt_or_ge j (e x).length with h | h
          · exact h
          · simp at hv; rw [List.getElem?_eq_none h] at hv; cases hv
        rw [Nat.zero_mul, Nat.zero_add, List.getElem?_append_left this]; exact hv
      | succ i =>
        rw [Nat.succ_mul, List.getElem?_append_right (by omega), show i * w + w + j - (e x).length = i * w + j by omega]
        exact ih i (by simpa using hi) j v (fun y hy => hw y (by simp [hy])) (by simpa using hv)
  simpa using key l i hi j v hw hv

theorem wrap_i64 (n : Int) (h : -9223372036854775808 ≤ n) (h2 : n < 9223372036854775808) : IntKind.i64.wrap n = n := by
  simp [IntKind.wrap, IntKind.bits, IntKind.signed]
  omega
theorem wrap_u64 (n : Int) : IntKind.u64.wrap n = n % 18446744073709551616 := by simp [IntKind.wrap, IntKind.bits, IntKind.signed]
theorem wrap_u64' (n : Int) (h : 0 ≤ n) (h2 : n < 18446744073709551616) : IntKind.u64.wrap n = n := by rw [wrap_u64]; omega

structure Ap (S0 : St) (a0 : Option Addr) (S : St) (a : Option Addr) (n : Nat) (e : TypeId) (w : Nat) (cs : List Value) : Prop where
  len : S0.length ≤ S.length
  keep : ∀ i, i < S0.length → a0 ≠ some ⟨i, 0, none⟩ → S[i]? = S0[i]?
  at_ : a = a0 ∨ ∃ b, a = some ⟨b, 0, none⟩ ∧ S0.length ≤ b
  size : cs.length = n * w
  own : (a = none ∧ n = 0) ∨ ∃ b, a = some ⟨b, 0, none⟩ ∧ S[b]? = some (.cells cs e (some w))
  was : a0 = none ∨ ∃ b d t u, a0 = some ⟨b, 0, none⟩ ∧ S0[b]? = some (.cells d t (some u))
section
variable {S0 S S' : St} {a0 a a' : Option Addr} {n n' : Nat} {e : TypeId} {w : Nat} {cs cs' : List Value}
theorem Ap.nil : Ap S none S none 0 e w [] := ⟨Nat.le_refl _, fun _ _ _ => rfl, .inl rfl, by simp, .inl ⟨rfl, rfl⟩, .inl rfl⟩
theorem Ap.pre (h : Ap S0 none S a n e w cs) : S0 <+: S := by
  have hk := h.keep
  refine ⟨S.drop S0.length, ?_⟩
  have : S.take S0.length = S0 := by
    apply List.ext_getElem?
    intro i
    rw [List.getElem?_take]
    split
    · rename_i hi; exact hk i hi (fun h => by cases h)
    · rename_i hi; rw [List.getElem?_eq_none (by omega)]
  conv => lhs; arg 1; rw [← this]
  exact List.take_append_drop _ _
theorem pre_at (hs : S <+: S') {i : Nat} (hi : i < S.length) : S'[i]? = S[i]? := by
  obtain ⟨t, rfl⟩ := hs; exact List.getElem?_append_left hi
theorem Ap.more (h : Ap S0 a0 S a n e w cs) (hs : S <+: S') : Ap S0 a0 S' a n e w cs where
  len := Nat.le_trans h.len hs.length_le
  keep := fun i hi hne => by rw [pre_at hs (Nat.lt_of_lt_of_le hi h.len), h.keep i hi hne]
  at_ := h.at_
  size := h.size
  own := h.own.imp id fun ⟨b, h1, h2⟩ => ⟨b, h1, pre_get hs h2⟩
  was := h.was
theorem Ap.trans (h : Ap S0 a0 S a n e w cs) (k : Ap S a S' a' n' e w cs') : Ap S0 a0 S' a' n' e w cs' where
  len := Nat.le_trans h.len k.len
  keep := fun i hi hne => by
    rw [k.keep i (Nat.lt_of_lt_of_le hi h.len) ?_, h.keep i hi hne]
    rcases h.at_ with h1 | ⟨b, h1, h2⟩
    · rw [h1]; exact hne
    · rw [h1]; intro q; cases q; omega
  at_ := by
    rcases k.at_ with h1 | ⟨b, h1, h2⟩
    · rw [h1]; exact h.at_
    · exact .inr ⟨b, h1, Nat.le_trans h.len h2⟩
  size := k.size
  own := k.own
  was := h.was
theorem flat_len {α : Type} {e : α → List Value} {w : Nat} (h : ∀ x, (e x).length = w) : ∀ l : List α, (l.flatMap e).length = l.length * w
  | [] => by simp
  | x :: l => by rw [List.flatMap_cons, List.length_append, flat_len h l, h, List.length_cons, Nat.succ_mul]; omega
theorem Ap.cnt {α : Type} {f : α → List Value} {l : List α} (h : Ap S0 a0 S a n e w (l.flatMap f)) (hw : ∀ x, (f x).length = w) (h0 : 0 < w) : n = l.length := by
  have := h.size
  rw [flat_len hw] at this
  exact (Nat.eq_of_mul_eq_mul_right h0 this).symm
theorem Ap.ar {α : Type} {f : α → List Value} {l : List α} (h : Ap S0 a0 S a n e w (l.flatMap f)) (hw : ∀ x, (f x).length = w) (h0 : 0 < w) : Ar S a n w f l := by
  have hn := h.cnt hw h0
  rcases h.own with ⟨h3, h4⟩ | ⟨b, h3, h5⟩
  · subst h4 h3
    have : l = [] := List.eq_nil_of_length_eq_zero hn.symm
    subst this; exact .nil
  · subst hn h3
    exact Ar.blk h5 (fun x _ => hw x) rfl
theorem Ap.get (h : Ap S0 a0 S a n e w cs) {i : Nat} {o : AObj} (hi : S0[i]? = some o) (hne : a0 ≠ some ⟨i, 0, none⟩) : S[i]? = some o := by
  rw [h.keep i (pre_lt hi) hne]; exact hi
theorem Ap.cells (h : Ap S0 a0 S a n e w cs) {i : Nat} {d : List Value} {t : TypeId} (hi : S0[i]? = some (.cells d t none)) : S[i]? = some (.cells d t none) := by
  refine h.get hi ?_
  rintro rfl
  rcases h.was with h1 | ⟨b, _, _, _, h1, h2⟩
  · cases h1
  · cases h1; rw [hi] at h2; cases h2
theorem Ap.new (h : Ap S0 none S a n e w cs) {x : Addr} (hx : a = some x) : S0.length ≤ x.block := by
  rcases h.at_ with h1 | ⟨b, h1, h2⟩
  · rw [h1] at hx; cases hx
  · rw [h1] at hx; cases hx; exact h2
theorem Ap.lt (h : Ap S0 a0 S a n e w cs) {i : Nat} (hi : a = some ⟨i, 0, none⟩) : i < S.length := by
  rcases h.own with ⟨h1, _⟩ | ⟨b, h1, h2⟩
  · rw [h1] at hi; cases hi
  · rw [h1] at hi; cases hi; exact pre_lt h2
theorem Ap.below (h : Ap S0 a0 S a n e w cs) {x : Addr} (hx : a = some x) : x.block < S.length := by
  rcases h.own with ⟨h1, _⟩ | ⟨b, h1, h2⟩
  · rw [h1] at hx; cases hx
  · rw [h1] at hx; cases hx; exact pre_lt h2
theorem wp_app (h : Ap S0 a0 S a n e w cs) {bt m : Nat} {xs : List Value} {Q : Sl → St → Prop}
    (hm : xs.length = m * w) (hm0 : 0 < m) (hsz : (n + m) * bt ≤ 140737488355328) (hbt : 1 ≤ bt) (hlf : xs.all leafV = true)
    (q : ∀ b S', Ap S0 a0 S' (some ⟨b, 0, none⟩) (n + m) e w (cs ++ xs) → Q ⟨some ⟨b, 0, none⟩, n + m, n + m⟩ S') :
    WP (appM e w bt a n n m xs) S Q := by
  have h2 := h.size
  have hsz2 : n + m ≤ 9223372036854775807 := by
    have := Nat.mul_le_mul_left (n + m) hbt
    omega
  unfold appM
  rw [if_neg (by omega), if_pos ⟨hsz, hsz2⟩]
  rcases h.own with ⟨rfl, h3⟩ | ⟨b, rfl, hb⟩
  · subst h3
    dsimp only
    rw [if_pos rfl]
    refine ⟨_, _, rfl, q _ _ ?_⟩
    have hc : cs = [] := List.eq_nil_of_length_eq_zero (by rw [h2]; simp)
    subst hc
    refine ⟨by simp; have := h.len; omega, fun i hi hne => ?_, .inr ⟨_, rfl, h.len⟩, by simp [hm], .inr ⟨_, rfl, by simp⟩, h.was⟩
    rw [List.getElem?_append_left (Nat.lt_of_lt_of_le hi h.len)]; exact h.keep i hi hne
  · dsimp only
    rw [wp_bind]
    refine wp_rdN hb rfl (by simp [h2]) ?_
    have e1 : ((cs.drop 0).take (n * w)) = cs := by rw [List.drop_zero, ← h2, List.take_length]
    dsimp only
    rw [e1]
    refine ⟨_, _, by dsimp only; rw [hb]; dsimp only; rw [if_pos ⟨rfl, rfl, rfl, hlf⟩], ?_⟩
    refine q _ _ ⟨by simp; have := h.len; omega, fun i hi hne => ?_, .inr ⟨_, rfl, h.len⟩, by rw [List.length_append, h2, hm, Nat.add_mul], .inr ⟨_, rfl, by simp⟩, h.was⟩
    rw [List.getElem?_append_left (by simp; exact Nat.lt_of_lt_of_le hi h.len), List.getElem?_set_ne ?_]
    · exact h.keep i hi hne
    · rintro rfl
      rcases h.at_ with h4 | ⟨c, h4, h5⟩
      · exact hne h4.symm
      · cases h4; omega
theorem wp_push (h : Ap S0 a0 S a n e w cs) {bt : Nat} {x : List Value} {t : TypeId} {Q : Sl → St → Prop}
    (hx : x.length = w) (hsz : (n + 1) * bt ≤ 140737488355328) (hbt : 1 ≤ bt) (hlf : x.all leafV = true)
    (q : ∀ b S', Ap S0 a0 S' (some ⟨b, 0, none⟩) (n + 1) e w (cs ++ x) → Q ⟨some ⟨b, 0, none⟩, n + 1, n + 1⟩ S') :
    WP (rdN (some ⟨S.length, 0, none⟩) w) (S ++ [.cells x t none]) fun xs S1 => WP (appM e w bt a n n 1 xs) S1 Q := by
  refine wp_rdN get_new rfl (by simp [hx]) ?_
  have e1 : (x.drop 0).take w = x := by rw [List.drop_zero, ← hx, List.take_length]
  rw [e1]
  exact wp_app (h.more (List.prefix_append _ _)) (by simp [hx]) (by omega) hsz hbt hlf q
end
end Go.AM
namespace Go.AM
open Go
variable {α β γ ρ : Type}

theorem lookD_cons {q : Nat} {g : List Value → M Value} {l : List (Nat × (List Value → M Value))} {C : FuncId → List Value → M Value} {p : FuncId} {args : List Value} :
    lookD ((q, g) :: l) C p args = bif (q == p : Bool) then g args else lookD l C p args := by
  simp only [lookD]
  cases h : Nat.beq q p with
  | true => have := Nat.eq_of_beq_eq_true h; subst this; simp
  | false =>
    have : (q == p) = false := by
      cases h2 : (q == p) with
      | false => rfl
      | true => have := eq_of_beq h2; subst this; rw [Nat.beq_refl] at h; cases h
    rw [this]; rfl
theorem wp_chk {m : M Value} {v : Value} {S : St} {Q : Unit → St → Prop} : WP (chk m v) S Q ↔ WP m S (fun a S' => a = v ∧ S' = S) ∧ Q () S := by
  constructor
  · rintro ⟨u, S', h, q⟩
    unfold chk at h
    split at h
    · rename_i h1; cases h; exact ⟨⟨_, _, h1, rfl, rfl⟩, q⟩
    · cases h
  · rintro ⟨⟨a, S', h1, rfl, rfl⟩, q⟩
    exact ⟨(), _, by unfold chk; rw [if_pos h1], q⟩
theorem wps :
    (∀ (α : Type) (a : α) (S : St) (Q : α → St → Prop), WP (M.ret a) S Q = Q a S) ∧
    (∀ (i : Nat) (l : List Value) (S : St) (Q : Nat × List Value → St → Prop), WP (retQ i l) S Q = Q (i, l) S) ∧
    (∀ (α β : Type) (m : M α) (k : α → M β) (S : St) (Q : β → St → Prop), WP (M.bind m k) S Q = WP m S fun a S' => WP (k a) S' Q) ∧
    (∀ (α : Type) (c : Prop) [Decidable c] (m : M α) (S : St) (Q : α → St → Prop), WP (guardM c m) S Q = (c ∧ WP m S Q)) ∧
    (∀ (α : Type) (b : Bool) (m n : M α) (S : St) (Q : α → St → Prop), WP (cond b m n) S Q = ((b = true → WP m S Q) ∧ (b = false → WP n S Q))) ∧
    (∀ (k : IntKind) (n : Int) (S : St) (Q : Int → St → Prop), WP (asI k (.int k n)) S Q = Q n S) ∧
    (∀ (b : Bool) (S : St) (Q : Bool → St → Prop), WP (asB (.bool b)) S Q = Q b S) ∧
    (∀ (a : Option Addr) (n c : Nat) (S : St) (Q : Sl → St → Prop), WP (asS (.slice a n c)) S Q = Q ⟨a, n, c⟩ S) ∧
    (∀ (a : Option Addr) (S : St) (Q : Option Addr → St → Prop), WP (asP (.pointer a)) S Q = Q a S) ∧
    (∀ (a : Option Nat) (S : St) (Q : Option Nat → St → Prop), WP (asM (.map a)) S Q = Q a S) ∧
    (∀ (l : List Value) (S : St) (Q : List Value → St → Prop), WP (asA (.agg ⟨l⟩)) S Q = Q l S) ∧
    (∀ (l : List Value) (S : St) (Q : List Value → St → Prop), WP (asT (.tuple ⟨l⟩)) S Q = Q l S) ∧
    (∀ (α ρ : Type) (a : α) (K : α → M ρ) (S : St) (Q : ρ → St → Prop), WP (onOpt (some a) K) S Q = WP (K a) S Q) ∧
    (∀ (o : AObj) (S : St) (Q : Nat → St → Prop), WP (newB o) S Q = Q S.length (S ++ [o])) ∧
    (∀ (a : Addr) (S : St) (Q : Value → St → Prop), WP (ld a) S Q = ∃ v, S.cell a = some v ∧ Q v S) ∧
    (∀ (a : Addr) (vs : List Value) (S : St) (Q : Unit → St → Prop), WP (stL a vs) S Q =
      ∃ c e g, S[a.block]? = some (.cells c e g) ∧ (a.spot = none ∧ a.off + vs.length ≤ c.length ∧ vs.all leafV = true) ∧ Q () (S.set a.block (.cells (splice c a.off vs) e g))) ∧
    (∀ (i : Nat) (v : Value) (S : St) (Q : Value → St → Prop), WP (oneV (i, [v])) S Q = Q v S) ∧
    (∀ (ρ : Type) (m : M ρ) (i : Nat), pickM [m] i = m) ∧
    (∀ (ρ : Type) (m : M ρ) (l : List (M ρ)), pickM (m :: l) 0 = m) ∧
    (∀ (ρ : Type) (m m' : M ρ) (l : List (M ρ)) (i : Nat), pickM (m :: m' :: l) (i + 1) = pickM (m' :: l) i) ∧
    (∀ (ρ : Type) (m m' : M ρ) (l : List (M ρ)), pickM (m :: m' :: l) 1 = pickM (m' :: l) 0) ∧
    (∀ (ρ : Type) (m m' : M ρ) (l : List (M ρ)), pickM (m :: m' :: l) 2 = pickM (m' :: l) 1) ∧
    (∀ (ρ : Type) (m m' : M ρ) (l : List (M ρ)), pickM (m :: m' :: l) 3 = pickM (m' :: l) 2) ∧
    (∀ (x y : Nat) (l : List Value), (x, l).1 = x ∧ (x, l).2 = l) ∧
    (∀ (a d : Value) (l : List Value), (a :: l).headD d = a) ∧
    (∀ (a : Value) (l : List Value), (a :: l).tail = l) ∧
    (∀ (a : Value) (l : List Value), (a :: l).length = l.length + 1) ∧
    (([] : List Value).length = 0) ∧
    (∀ (p : Prop), (True ∧ p) = p) ∧ (∀ (p : Prop), (p ∧ True) = p) ∧ (∀ (p : Prop), (False → p) = True) ∧ (∀ (p : Prop), (True → p) = p) ∧ (∀ (p : Prop), (p → True) = True) ∧ ((¬ True) = False) ∧ ((¬ False) = True) ∧
    (∀ (p : Prop) [Decidable p], (decide p = true) = p) ∧ (∀ (p : Prop) [Decidable p], (decide p = false) = ¬ p) ∧
    (∀ b : Bool, ((!b) = true) = (b = false)) ∧ (∀ b : Bool, ((!b) = false) = (b = true)) ∧ ((true = false) = False) ∧ ((false = true) = False) ∧
    (∀ a b : Int, ((a == b) = true) = (a = b)) ∧ (∀ a b : Int, ((a == b) = false) = (a ≠ b)) ∧ (∀ a b : Int, ((a != b) = true) = (a ≠ b)) ∧ (∀ a b : Int, ((a != b) = false) = (a = b)) ∧
    (∀ (x : Value) (p : Value → Prop), (∃ v, some x = some v ∧ p v) = p x) ∧
    (∀ (c0 : List Value) (e0 : TypeId) (g0 : Option Nat) (p : List Value → TypeId → Option Nat → Prop), (∃ c e g, some (AObj.cells c0 e0 g0) = some (AObj.cells c e g) ∧ p c e g) = p c0 e0 g0) ∧
    (∀ (α : Type) (a : α), ((a = a) = True)) ∧
    (∀ n : Nat, ((n : Int)).toNat = n) ∧ (∀ n : Nat, (n + 1 - 1) = n) ∧ (∀ (a : Addr), a.add 0 = a) ∧
    (∀ b o n : Nat, (⟨b, o, none⟩ : Addr).add n = ⟨b, o + n, none⟩) ∧
    (∀ (S : St) (c : List Value) (e : TypeId) (g : Option Nat) (o : Nat), St.cell (S ++ [.cells c e g]) ⟨S.length, o, none⟩ = c[o]?) ∧
    (∀ (S : St) (o : AObj), (S ++ [o])[S.length]? = some o) ∧
    (∀ (S : St) (o x : AObj), (S ++ [o]).set S.length x = S ++ [x]) ∧
    (∀ n : Nat, n * 1 = n) ∧ (∀ n : Nat, 0 + n = n) ∧ (∀ n : Nat, n + 0 = n) ∧ (∀ n : Nat, (0 ≤ (n : Int)) = True) ∧
    (∀ n : Nat, ((0 : Nat) = n + 1) = False) ∧ (∀ n : Nat, (n + 1 = (0 : Nat)) = False) ∧ (∀ m n : Nat, (m + 1 = n + 1) = (m = n)) ∧
    (∀ (a : Value) (l : List Value), (a :: l)[0]? = some a) ∧ (∀ (a b : Value) (l : List Value), (a :: b :: l)[1]? = some b) ∧ (∀ (a b c : Value) (l : List Value), (a :: b :: c :: l)[2]? = some c) ∧
    (∀ (a b c d : Value) (l : List Value), (a :: b :: c :: d :: l)[3]? = some d) ∧ (∀ (a b c d e : Value) (l : List Value), (a :: b :: c :: d :: e :: l)[4]? = some e) ∧
    (∀ (a b c d e f : Value) (l : List Value), (a :: b :: c :: d :: e :: f :: l)[5]? = some f) ∧ (∀ (a b c d e f g : Value) (l : List Value), (a :: b :: c :: d :: e :: f :: g :: l)[6]? = some g) ∧
    (∀ (a b c d e f g h : Value) (l : List Value), (a :: b :: c :: d :: e :: f :: g :: h :: l)[7]? = some h) ∧
    (∀ (c vs : List Value), splice c 0 vs = vs ++ c.drop vs.length) ∧ (∀ (a : Value) (l : List Value) (n : Nat), (a :: l).drop (n + 1) = l.drop n) ∧ (∀ (l : List Value), l.drop 0 = l) ∧
    (∀ (n : Nat), ([] : List Value).drop n = []) ∧ (∀ (l : List Value), l ++ [] = l) ∧ (∀ (a : Value) (l m : List Value), (a :: l) ++ m = a :: (l ++ m)) ∧ (∀ (l : List Value), [] ++ l = l) ∧
    (∀ (k : IntKind) (n : Int) (l : List Value), (Value.int k n :: l).all leafV = l.all leafV) ∧ (∀ (b : Bool) (l : List Value), (Value.bool b :: l).all leafV = l.all leafV) ∧
    (∀ (a : Option Addr) (n c : Nat) (l : List Value), (Value.slice a n c :: l).all leafV = l.all leafV) ∧ (∀ (a : Option Addr) (l : List Value), (Value.pointer a :: l).all leafV = l.all leafV) ∧
    (∀ (a : Option Nat) (l : List Value), (Value.map a :: l).all leafV = l.all leafV) ∧ (∀ (fn : Fn) (f c : Array Value) (l : List Value), (Value.func fn f c :: l).all leafV = l.all leafV) ∧ (([] : List Value).all leafV = true) ∧ (∀ n : Nat, (n ≤ n) = True) ∧ (∀ a : Int, (a ≠ a) = False) ∧ (∀ (m : M Value) (v : Value) (S : St) (Q : Unit → St → Prop), WP (chk m v) S Q = (WP m S (fun a S' => a = v ∧ S' = S) ∧ Q () S)) ∧
    (∀ (a : Value) (l vs : List Value), splice (a :: l) 1 vs = a :: splice l 0 vs) ∧ (∀ (a : Value) (l vs : List Value), splice (a :: l) 2 vs = a :: splice l 1 vs) ∧ (∀ (a : Value) (l vs : List Value), splice (a :: l) 3 vs = a :: splice l 2 vs) ∧ (∀ (a : Value) (l vs : List Value), splice (a :: l) 4 vs = a :: splice l 3 vs) ∧ (∀ (a : Value) (l vs : List Value), splice (a :: l) 5 vs = a :: splice l 4 vs) ∧ (∀ (a : Value) (l vs : List Value), splice (a :: l) 6 vs = a :: splice l 5 vs) ∧ (∀ (a : Value) (l vs : List Value), splice (a :: l) 7 vs = a :: splice l 6 vs) ∧
    (∀ (a : Value) (l : List Value), (a :: l).take 1 = a :: l.take 0) ∧ (∀ (a : Value) (l : List Value), (a :: l).take 2 = a :: l.take 1) ∧ (∀ (a : Value) (l : List Value), (a :: l).take 3 = a :: l.take 2) ∧ (∀ (a : Value) (l : List Value), (a :: l).take 4 = a :: l.take 3) ∧ (∀ (a : Value) (l : List Value), (a :: l).take 5 = a :: l.take 4) ∧ (∀ (a : Value) (l : List Value), (a :: l).take 6 = a :: l.take 5) ∧ (∀ (a : Value) (l : List Value), (a :: l).take 7 = a :: l.take 6) ∧ (∀ (a : Value) (l : List Value), (a :: l).take 8 = a :: l.take 7) ∧ (∀ (l : List Value), l.take 0 = []) ∧
    (∀ (a : Value) (l : List Value), (a :: l).drop 1 = l.drop 0) ∧ (∀ (a : Value) (l : List Value), (a :: l).drop 2 = l.drop 1) ∧ (∀ (a : Value) (l : List Value), (a :: l).drop 3 = l.drop 2) ∧ (∀ (a : Value) (l : List Value), (a :: l).drop 4 = l.drop 3) ∧ (∀ (a : Value) (l : List Value), (a :: l).drop 5 = l.drop 4) ∧ (∀ (a : Value) (l : List Value), (a :: l).drop 6 = l.drop 5) ∧ (∀ (a : Value) (l : List Value), (a :: l).drop 7 = l.drop 6) ∧ (∀ (a : Value) (l : List Value), (a :: l).drop 8 = l.drop 7) ∧ (∀ (a : Value) (l : List Value), (a :: l).drop 9 = l.drop 8) ∧ (∀ (a : Value) (l : List Value), (a :: l).drop 10 = l.drop 9) ∧ (∀ (a : Value) (l : List Value), (a :: l).drop 11 = l.drop 10) ∧ (∀ (a : Value) (l : List Value), (a :: l).drop 12 = l.drop 11) ∧
    (Int.toNat 0 = 0) ∧ (Int.toNat 1 = 1) ∧ (Int.toNat 2 = 2) ∧ (Int.toNat 3 = 3) ∧
    (∀ (C : FuncId → List Value → M Value) (k : FuncId) (f c args : List Value), callV C (.func (.func k) ⟨f⟩ ⟨c⟩) args = C k (f ++ args ++ c)) ∧
    (∀ (C : FuncId → List Value → M Value) (p : FuncId) (args : List Value), lookD [] C p args = C p args) ∧
    (∀ (q : Nat) (g : List Value → M Value) (l : List (Nat × (List Value → M Value))) (C : FuncId → List Value → M Value) (p : FuncId) (args : List Value), lookD ((q, g) :: l) C p args = bif (q == p : Bool) then g args else lookD l C p args) ∧
    (∀ (m n : M Value), (bif true then m else n) = m) ∧ (∀ (m n : M Value), (bif false then m else n) = n) ∧
    (∀ b o : Nat, (⟨b, o, none⟩ : Addr).block = b ∧ (⟨b, o, none⟩ : Addr).off = o ∧ (⟨b, o, none⟩ : Addr).spot = none) := by
  repeat' apply And.intro
  all_goals intros
  all_goals try (simp; done)
  all_goals first
    | exact propext wp_ret
    | exact propext wp_bind
    | exact propext wp_cond
    | exact propext wp_ld
    | exact propext wp_chk
    | exact lookD_cons
    | rfl
    | exact propext wp_stL
    | exact add_zero_ _
    | (simp [and_assoc]; done)
    | (simp [splice]; done)
    | (simp [splice, Nat.add_right_comm, Nat.add_comm]; done)
    | (rename_i vs; unfold splice; rw [show ∀ k, (k + 1) + vs.length = (k + vs.length) + 1 from fun k => by omega]; rfl)
    | (rename_i a l vs; unfold splice; simp [show ∀ k j : Nat, (k + 1) + j = (k + j) + 1 from fun k j => by omega]; done)
    | (simp [leafV]; done)
    | skip
theorem wI_ {n : Int} (h : -9223372036854775808 ≤ n) (h2 : n < 9223372036854775808) : wI n = n := wrap_i64 n h h2
theorem wU_ {n : Int} (h : 0 ≤ n) (h2 : n < 18446744073709551616) : wU n = n := wrap_u64' n h h2
def Gv (m : M α) (S : St) (v : α) : Prop := m S = some (v, S)
theorem Gv.wp {m : M α} {S : St} {v : α} (h : Gv m S v) (Q : α → St → Prop) : WP m S Q = Q v S :=
  propext ⟨fun ⟨_, _, h1, q⟩ => by rw [h] at h1; cases h1; exact q, fun q => ⟨_, _, h, q⟩⟩
theorem Gv.of {m : M α} {S : St} {v : α} (h : WP m S fun a S' => a = v ∧ S' = S) : Gv m S v := by
  obtain ⟨a, S', h1, rfl, rfl⟩ := h
  exact h1
theorem wp_eq {m : M α} {x : α} (h : ∀ S, WP m S fun v S' => v = x ∧ S' = S) : m = M.ret x := by
  funext S
  obtain ⟨a, S', h1, rfl, rfl⟩ := h S
  exact h1
end Go.AM
set_option linter.unusedVariables false
namespace Go.AM
open Go
def P0 : Int := 18446744069414584321
def P1 : Int := 998244353
def P2 : Int := 2013265921
def known (p : Int) : Bool := p == P0 || p == P1 || p == P2
def u64r (a : Int) : Bool := decide (0 ≤ a ∧ a < 18446744073709551616)

def pull (r : Nat) : Nat → Nat → List Nat × Nat
  | 0, m => ([], m)
  | k + 1, m => if m % r = 0 then (r :: (pull r k (m / r)).1, (pull r k (m / r)).2) else ([], m)
def pullN (r m : Nat) : List Nat × Nat := pull r m m
def lastL (m : Nat) : List Nat := if 1 < m then [m] else []
def restJ : Nat → Nat → List Nat
  | 0, m => (pullN 3 m).1 ++ ((pullN 5 (pullN 3 m).2).1 ++ lastL (pullN 5 (pullN 3 m).2).2)
  | 1, m => (pullN 5 m).1 ++ lastL (pullN 5 m).2
  | _, m => lastL m
def radT (t n : Nat) : List Nat := List.replicate (t / 2) 4 ++ ((if t % 2 = 1 then [2] else []) ++ restJ 0 (n / 2 ^ t))
def radL (n : Nat) : List Nat := radT (Lib.ctz 64 n) n

def radR (n : Nat) : List Int × Int := if (radL n).all (fun r => decide (r ≤ 5)) then ((radL n).map fun x : Nat => (x : Int), 0) else ([], 4)
def genF (p : Int) : Int := if p = P0 then 7 else if p = P1 then 3 else if p = P2 then 31 else 0
end Go.AM
set_option linter.unusedVariables false
namespace Go.AM
open Go

structure Ax where
  N : Int
  neg : Bool
  deriving DecidableEq
def dimsOf (l : List Ax) : List Int := l.map (·.N)

def allGo : Int → List Int → Int × Int
  | n, [] => (n, 0)
  | n, d :: r => if d < 1 ∨ 4096 < d ∨ 4096 < n * d then (0, 3) else allGo (n * d) r
def allV (l : List Int) : Int × Int := if l.length < 1 ∨ 4 < l.length then (0, 3) else allGo 1 l
def nV (l : List Ax) : Int := (allV (dimsOf l)).1

def powM (p a : Int) (n : Nat) : Int := if known p = true then a ^ n % p else 0
def readyV (p n : Int) : Int := if known p = true then (if n < 1 ∨ 8192 < n then 1 else 0) else 2
def rootV (p n : Int) : Int × Int := if readyV p n = 0 then (if (p - 1) % n > 0 then (0, 5) else (powM p (genF p) ((p - 1) / n).toNat, 0)) else (0, readyV p n)
def radV (n : Int) : List Int × Int := if 1 ≤ n ∧ n ≤ 4096 then radR n.toNat else ([], 4)
def smoothV (n : Int) : Bool := (radV n).2 == 0
def ordW (a : Ax) : Int := if a.neg = true then IntKind.i64.wrap (a.N * 2) else a.N
def gGo (p : Int) : Int → List Ax → Int
  | e, [] => e
  | e, a :: r => if smoothV a.N = true then gGo p (if (rootV p (ordW a)).2 = 0 then e else 5) r else 4
def gridV (p : Int) (l : List Ax) : Int := if known p = true then (if (allV (dimsOf l)).2 = 0 then gGo p 0 l else 3) else 2

end Go.AM
set_option linter.unusedVariables false
namespace Go.AM
open Go
end Go.AM
set_option linter.unusedVariables false
namespace Go.AM
open Go
structure Req where
  P : Int
  axes : List Ax
  inv : Bool
  batch : Int
  X : List Int
  seeds : List Int
  retry : Int
  again : Int
def inV (p : Int) (l : List Int) : Bool := l.all (fun a => decide (a < p)) && known p
def checkV (q : Req) : Int :=
  if 1 ≤ q.batch ∧ q.batch ≤ 16 ∧ 0 ≤ q.retry ∧ q.retry ≤ 8 ∧ 0 ≤ q.again ∧ q.again ≤ 8 then
    (if gridV q.P q.axes = 0 then (if (q.X.length : Int) = nV q.axes * q.batch then (if inV q.P q.X = true then (if 1 ≤ q.seeds.length ∧ q.seeds.length ≤ 4 then 0 else 8) else 7) else 6) else gridV q.P q.axes)
  else 1
theorem check_ok {q : Req} (h : checkV q = 0) : (1 ≤ q.batch ∧ q.batch ≤ 16 ∧ 0 ≤ q.retry ∧ q.retry ≤ 8 ∧ 0 ≤ q.again ∧ q.again ≤ 8) ∧ gridV q.P q.axes = 0 ∧ (q.X.length : Int) = nV q.axes * q.batch ∧ inV q.P q.X = true ∧ 1 ≤ q.seeds.length ∧ q.seeds.length ≤ 4 := by
  unfold checkV at h
  split at h
  · rename_i h1
    split at h
    · rename_i h2
      split at h
      · rename_i h3
        split at h
        · rename_i h4
          split at h
          · rename_i h5; exact ⟨h1, h2, h3, h4, h5⟩
          · simp at h
        · simp at h
      · simp at h
    · rename_i h2; exact absurd h h2
  · simp at h
end Go.AM
set_option linter.unusedVariables false
namespace Go.AM
open Go
def eAx (a : Ax) : List Value := [.int .i64 a.N, .bool a.neg]
structure QA (S : St) (q : Req) (a1 a4 a5 : Option Addr) : Prop where
  ax : Ar S a1 q.axes.length 2 eAx q.axes
  x : Ar S a4 q.X.length 1 eU q.X
  sd : Ar S a5 q.seeds.length 1 eU q.seeds
  b1 : q.axes.length ≤ 8796093022208
  b2 : q.X.length ≤ 140737488355328
  b3 : q.seeds.length ≤ 140737488355328
theorem QA.mono {S S' : St} {q : Req} {a1 a4 a5 : Option Addr} (h : QA S q a1 a4 a5) (hs : S <+: S') : QA S' q a1 a4 a5 := ⟨h.ax.mono hs, h.x.mono hs, h.sd.mono hs, h.b1, h.b2, h.b3⟩
end Go.AM
set_option linter.unusedVariables false
set_option linter.unusedSimpArgs false
namespace Go.AM
open Go
variable {α β ρ : Type}
theorem Ar.spot {S : St} {p : Option Addr} {n w : Nat} {e : α → List Value} {l : List α} (h : Ar S p n w e l) (hw : ∀ x, (e x).length = w) (h0 : 0 < w) (hl : l ≠ []) : ∃ b o, p = some ⟨b, o, none⟩ := by
  have hl' : 0 < l.length := List.length_pos_iff.2 hl
  obtain ⟨a, h1, h2⟩ := h.2 0 hl'
  have h3 := h2 0 ((e l[0])[0]'(by rw [hw]; exact h0)) (List.getElem?_eq_getElem _)
  rw [add_zero_, Nat.zero_mul, add_zero_] at h3
  refine ⟨a.block, a.off, ?_⟩
  rw [h1]
  obtain ⟨b, o, s⟩ := a
  cases s with
  | none => rfl
  | some s =>
    unfold St.cell at h3
    split at h3
    · simp at h3
    · simp at h3
    · cases h3
theorem wp_rdA {S : St} {p : Option Addr} {n w : Nat} {e : α → List Value} {l : List α} (h : Ar S p n w e l) (hw : ∀ x, (e x).length = w) {Q : List Value → St → Prop} (q : Q (l.flatMap e) S) : WP (rdN p (n * w)) S Q := by
  have hn := h.1
  have hfl := flat_len hw l
  by_cases h0 : n * w = 0
  · refine ⟨[], S, by unfold rdN; rw [if_pos h0], ?_⟩
    have : l.flatMap e = [] := List.eq_nil_of_length_eq_zero (by rw [hfl, ← hn]; exact h0)
    rw [this] at q; exact q
  · have hw0 : 0 < w := by
      rcases Nat.eq_zero_or_pos w with h | h
      · subst h; simp at h0
      · exact h
    have hn0 : 0 < n := by
      rcases Nat.eq_zero_or_pos n with h | h
      · subst h; simp at h0
      · exact h
    obtain ⟨b, o, rfl⟩ := h.spot hw hw0 (List.length_pos_iff.1 (by omega))
    have hcell : ∀ i, i < n * w → S.cell ⟨b, o + i, none⟩ = (l.flatMap e)[i]? := by
      intro i hi
      have hq : i / w < l.length := by rw [← hn]; exact Nat.div_lt_of_lt_mul (by rwa [Nat.mul_comm])
      have hr : i % w < w := Nat.mod_lt _ hw0
      obtain ⟨a, g1, g2⟩ := h.2 (i / w) hq
      cases g1
      have g3 := g2 (i % w) ((e l[i / w])[i % w]'(by rw [hw]; exact hr)) (List.getElem?_eq_getElem _)
      simp only [add_off] at g3
      have e1 : o + i / w * w + i % w = o + i := by have := Nat.div_add_mod i w; rw [Nat.mul_comm] at this; omega
      rw [e1] at g3
      rw [g3]
      have key : ∀ (l : List α) (k j : Nat) (hk : k < l.length) (hj : j < w), (l.flatMap e)[k * w + j]? = some ((e l[k])[j]'(by rw [hw]; exact hj)) := by
        intro l
        induction l with
        | nil => intro k j hk; simp at hk
        | cons x l ih =>
          intro k j hk hj
          rw [List.flatMap_cons]
          cases k with
          | zero => rw [Nat.zero_mul, Nat.zero_add, List.getElem?_append_left (by rw [hw]; exact hj)]; exact List.getElem?_eq_getElem _
          | succ k =>
            rw [Nat.succ_mul, List.getElem?_append_right (by rw [hw]; omega), hw, show k * w + w + j - w = k * w + j by omega]
            exact ih k j (by simpa using hk) hj
      have := key l (i / w) (i % w) hq hr
      rw [show i / w * w + i % w = i by have := Nat.div_add_mod i w; rw [Nat.mul_comm] at this; omega] at this
      exact this.symm
    have hlast := hcell (n * w - 1) (by omega)
    have hsome : ∃ v, S.cell ⟨b, o + (n * w - 1), none⟩ = some v := by
      rw [hlast]; exact ⟨_, List.getElem?_eq_getElem (by rw [hfl, ← hn]; omega)⟩
    have fin : ∀ c : List Value, (∀ i, S.cell ⟨b, i, none⟩ = c[i]?) → o + n * w ≤ c.length ∧ (c.drop o).take (n * w) = l.flatMap e := by
      intro c hc
      obtain ⟨v, hv⟩ := hsome
      rw [hc] at hv
      have hlt : o + (n * w - 1) < c.length := by
        rcases Nat.lt_or_ge (o + (n * w - 1)) c.length with h | h
        · exact h
        · rw [List.getElem?_eq_none h] at hv; cases hv
      refine ⟨by omega, ?_⟩
      apply List.ext_getElem?
      intro i
      rw [List.getElem?_take]
      split
      · rename_i hi; rw [List.getElem?_drop, ← hc, hcell i hi]
      · rename_i hi; rw [List.getElem?_eq_none (by rw [hfl, ← hn]; omega)]
    obtain ⟨v, hv⟩ := hsome
    cases hb : S[b]? with
    | none => unfold St.cell at hv; rw [hb] at hv; cases hv
    | some ob =>
      cases ob with
      | cells c e' g =>
        obtain ⟨f1, f2⟩ := fin c (fun i => cell_blk hb i)
        exact ⟨l.flatMap e, S, by unfold rdN; rw [if_neg h0]; dsimp only; rw [hb]; dsimp only; rw [if_pos ⟨rfl, f1⟩, f2], q⟩
      | ro c e' g =>
        obtain ⟨f1, f2⟩ := fin c (fun i => by simp [St.cell, hb])
        exact ⟨l.flatMap e, S, by unfold rdN; rw [if_neg h0]; dsimp only; rw [hb]; dsimp only; rw [if_pos ⟨rfl, f1⟩, f2], q⟩
      | _ => unfold St.cell at hv; rw [hb] at hv; cases hv
end Go.AM
set_option linter.unusedVariables false
set_option linter.unusedSectionVars false
set_option linter.unusedSimpArgs false
namespace Go.AM
open Go
section
variable {α : Type} (key : α → Int)
def at_key (t : Int) (l : List α) : List α := l.filter fun x => decide (key x = t)
structure Stab (l r : List α) : Prop where
  ord : r.Pairwise fun a b => key a ≤ key b
  same : ∀ t, at_key key t r = at_key key t l
variable {key}
theorem at_key_append (t : Int) (l r : List α) : at_key key t (l ++ r) = at_key key t l ++ at_key key t r := List.filter_append ..
theorem mem_at_key {t : Int} {l : List α} {x : α} : x ∈ at_key key t l ↔ x ∈ l ∧ key x = t := by unfold at_key; rw [List.mem_filter]; simp
theorem mem_of_same {l r : List α} (h : ∀ t, at_key key t r = at_key key t l) (x : α) : x ∈ r ↔ x ∈ l := by
  have h1 : x ∈ at_key key (key x) r ↔ x ∈ at_key key (key x) l := by rw [h]
  rw [mem_at_key, mem_at_key] at h1
  simpa using h1
theorem at_key_none {t : Int} {l : List α} (h : ∀ x ∈ l, key x ≠ t) : at_key key t l = [] := by
  unfold at_key
  rw [List.filter_eq_nil_iff]
  intro x hx; simpa using h x hx
theorem at_key_swap (t : Int) {u v : List α} (h : ∀ x ∈ u, ∀ y ∈ v, key x ≠ key y) : at_key key t u ++ at_key key t v = at_key key t v ++ at_key key t u := by
  by_cases hu : ∃ x ∈ u, key x = t
  · obtain ⟨x, hx, rfl⟩ := hu
    have : at_key key (key x) v = [] := at_key_none fun y hy e => h x hx y hy e.symm
    rw [this]; simp
  · have : at_key key t u = [] := at_key_none fun x hx e => hu ⟨x, hx, e⟩
    rw [this]; simp
theorem Stab.mem {l r : List α} (h : Stab key l r) (x : α) : x ∈ r ↔ x ∈ l := mem_of_same h.same x
theorem len_of_same : ∀ {l r : List α}, (∀ t, at_key key t r = at_key key t l) → r.length = l.length
  | [], r, h => by
    cases r with
    | nil => rfl
    | cons x r => exact absurd ((mem_of_same h x).1 (by simp)) (by simp)
  | x :: l, r, h => by
    have hx : x ∈ r := (mem_of_same h x).2 (by simp)
    obtain ⟨p, s, hp, hnot⟩ : ∃ p s, r = p ++ x :: s ∧ at_key key (key x) p = [] := by
      have h1 : at_key key (key x) r = x :: at_key key (key x) l := by rw [h]; unfold at_key; simp
      have h2 := List.filter_eq_cons_iff.1 h1
      obtain ⟨p, s, e, hn, _, _⟩ := h2
      exact ⟨p, s, e, by unfold at_key; rw [List.filter_eq_nil_iff]; exact hn⟩
    subst hp
    have := len_of_same (l := l) (r := p ++ s) (fun t => by
      have h1 := h t
      rw [at_key_append] at h1 ⊢
      unfold at_key at h1 hnot ⊢
      rw [List.filter_cons, List.filter_cons] at h1
      by_cases ht : key x = t
      · subst ht
        rw [hnot] at h1 ⊢
        simpa using h1
      · simpa [ht] using h1)
    simp at this ⊢; omega
theorem stab_unique : ∀ {r r' : List α}, (r.Pairwise fun a b => key a ≤ key b) → (r'.Pairwise fun a b => key a ≤ key b) → (∀ t, at_key key t r = at_key key t r') → r = r'
  | [], r', _, _, h => by
    have := len_of_same (l := []) (r := r') fun t => (h t).symm
    exact (List.length_eq_zero_iff.1 this).symm
  | x :: r, [], _, _, h => by
    have := len_of_same h
    simp at this
  | x :: r, y :: r', h1, h2, h => by
    obtain ⟨a1, a2⟩ := List.pairwise_cons.1 h1
    obtain ⟨b1, b2⟩ := List.pairwise_cons.1 h2
    have hxy : key x = key y := by
      have m1 : x ∈ y :: r' := (mem_of_same h x).1 (by simp)
      have m2 : y ∈ x :: r := (mem_of_same h y).2 (by simp)
      rcases List.mem_cons.1 m1 with e | e
      · rw [e]
      rcases List.mem_cons.1 m2 with e' | e'
      · rw [e']
      have := a1 y e'
      have := b1 x e
      omega
    have hx : x = y := by
      have := h (key x)
      unfold at_key at this
      rw [List.filter_cons, List.filter_cons] at this
      simp [hxy] at this
      exact this.1
    subst hx
    rw [stab_unique a2 b2 fun t => by
      have := h t
      unfold at_key at this ⊢
      rw [List.filter_cons, List.filter_cons] at this
      by_cases ht : key x = t
      · simpa [ht] using this
      · simpa [ht] using this]
theorem Stab.unique {l r r' : List α} (h : Stab key l r) (h' : Stab key l r') : r = r' := stab_unique h.ord h'.ord fun t => by rw [h.same, h'.same]
theorem Stab.len {l r : List α} (h : Stab key l r) : r.length = l.length := len_of_same h.same
theorem Stab.self {l : List α} (h : l.Pairwise fun a b => key a ≤ key b) : Stab key l l := ⟨h, fun _ => rfl⟩
theorem Stab.trans {l m r : List α} (h : Stab key l m) (k : Stab key m r) : Stab key l r := ⟨k.ord, fun t => (k.same t).trans (h.same t)⟩
theorem Stab.join {u1 u2 v1 v2 r1 r2 : List α} (h1 : Stab key (u1 ++ v1) r1) (h2 : Stab key (u2 ++ v2) r2)
    (hu : (u1 ++ u2).Pairwise fun a b => key a ≤ key b) (hv : (v1 ++ v2).Pairwise fun a b => key a ≤ key b)
    (h12 : ∀ x ∈ u1, ∀ y ∈ v2, key x ≤ key y) (h21 : ∀ y ∈ v1, ∀ x ∈ u2, key y < key x) : Stab key ((u1 ++ u2) ++ (v1 ++ v2)) (r1 ++ r2) := by
  refine ⟨List.pairwise_append.2 ⟨h1.ord, h2.ord, fun a ha b hb => ?_⟩, fun t => ?_⟩
  · have ha := List.mem_append.1 ((h1.mem a).1 ha)
    have hb := List.mem_append.1 ((h2.mem b).1 hb)
    rcases ha with ha | ha <;> rcases hb with hb | hb
    · exact (List.pairwise_append.1 hu).2.2 a ha b hb
    · exact h12 a ha b hb
    · exact Int.le_of_lt (h21 a ha b hb)
    · exact (List.pairwise_append.1 hv).2.2 a ha b hb
  · rw [at_key_append, h1.same, h2.same]
    simp only [at_key_append, List.append_assoc]
    congr 1
    have : at_key key t v1 ++ at_key key t u2 = at_key key t u2 ++ at_key key t v1 := at_key_swap t fun x hx y hy => by have := h21 x hx y hy; omega
    rw [← List.append_assoc, ← List.append_assoc, this]
end
theorem split_facts {α : Type} (key : α → Int) (u v : List α) (a m b mid st lo hi : Nat) (hm : m = a + u.length) (hb : b = m + v.length) (hmid : mid = (a + b) / 2) (h2 : 1 < u.length) (h3 : 1 < v.length)
    (hlo : lo = if mid < m then mid + m - b else a) (hhi : hi = if mid < m then mid else m) (h4 : lo ≤ st) (h5 : st ≤ hi)
    (hu : u.Pairwise fun a b => key a ≤ key b) (hv : v.Pairwise fun a b => key a ≤ key b)
    (q1 : ∀ c (h : c - a < u.length) (h' : mid + m - 1 - c - m < v.length), lo ≤ c → c < st → key u[c - a] ≤ key v[mid + m - 1 - c - m])
    (q2 : ∀ c (h : c - a < u.length) (h' : mid + m - 1 - c - m < v.length), st ≤ c → c < hi → key v[mid + m - 1 - c - m] < key u[c - a]) :
    ∃ u1 u2 v1 v2, u = u1 ++ u2 ∧ v = v1 ++ v2 ∧ u1.length = st - a ∧ v1.length = mid + m - st - m ∧ a ≤ st ∧ st ≤ m ∧ m ≤ mid + m - st ∧ mid + m - st ≤ b ∧ (∀ x ∈ u1, ∀ y ∈ v2, key x ≤ key y) ∧ (∀ y ∈ v1, ∀ x ∈ u2, key y < key x) := by
  have hr : a ≤ lo ∧ hi ≤ m ∧ m ≤ mid + m - st ∧ mid + m - st ≤ b := by
    by_cases h : mid < m
    · rw [if_pos h] at hlo hhi; omega
    · rw [if_neg h] at hlo hhi; omega
  refine ⟨u.take (st - a), u.drop (st - a), v.take (mid + m - st - m), v.drop (mid + m - st - m), (List.take_append_drop _ _).symm, (List.take_append_drop _ _).symm, by simp; omega, by simp; omega, by omega, by omega, hr.2.2.1, hr.2.2.2, ?_, ?_⟩
  · intro x hx y hy
    obtain ⟨i, hi', rfl⟩ := List.mem_iff_getElem.1 hx
    obtain ⟨j, hj', rfl⟩ := List.mem_iff_getElem.1 hy
    simp only [List.length_take, List.length_drop] at hi' hj'
    rw [List.getElem_take, List.getElem_drop]
    have hst : lo < st := by
      rcases Nat.lt_or_ge lo st with h | h
      · exact h
      · exfalso
        have : st = lo := by omega
        rw [hlo] at this
        split at this <;> omega
    have h := q1 (st - 1) (by omega) (by omega) (by omega) (by omega)
    have e1 : key u[i] ≤ key u[st - 1 - a] := by
      rcases Nat.lt_or_ge i (st - 1 - a) with h | h
      · exact List.pairwise_iff_getElem.1 hu _ _ (by omega) (by omega) h
      · have : i = st - 1 - a := by omega
        subst this; exact Int.le_refl _
    have e2 : key v[mid + m - 1 - (st - 1) - m] ≤ key v[mid + m - st - m + j] := by
      rcases Nat.lt_or_ge (mid + m - 1 - (st - 1) - m) (mid + m - st - m + j) with h | h
      · exact List.pairwise_iff_getElem.1 hv _ _ (by omega) (by omega) h
      · have : mid + m - 1 - (st - 1) - m = mid + m - st - m + j := by omega
        simp only [this]; exact Int.le_refl _
    omega
  · intro y hy x hx
    obtain ⟨i, hi', rfl⟩ := List.mem_iff_getElem.1 hx
    obtain ⟨j, hj', rfl⟩ := List.mem_iff_getElem.1 hy
    simp only [List.length_take, List.length_drop] at hi' hj'
    rw [List.getElem_take, List.getElem_drop]
    have hst : st < hi := by
      rcases Nat.lt_or_ge st hi with h | h
      · exact h
      · exfalso
        have : st = hi := by omega
        rw [hhi] at this
        split at this <;> omega
    have h := q2 st (by omega) (by omega) (by omega) (by omega)
    have e1 : key u[st - a] ≤ key u[st - a + i] := by
      rcases Nat.lt_or_ge 0 i with h | h
      · exact List.pairwise_iff_getElem.1 hu _ _ (by omega) (by omega) (by omega)
      · have : i = 0 := by omega
        subst this; exact Int.le_refl _
    have e2 : key v[j] ≤ key v[mid + m - 1 - st - m] := by
      rcases Nat.lt_or_ge j (mid + m - 1 - st - m) with h | h
      · exact List.pairwise_iff_getElem.1 hv _ _ (by omega) (by omega) h
      · have : j = mid + m - 1 - st - m := by omega
        subst this; exact Int.le_refl _
    omega
theorem take_snoc {α : Type} {l : List α} {j : Nat} (h : j < l.length) : l.take (j + 1) = l.take j ++ [l[j]] := by
  rw [List.take_add_one, List.getElem?_eq_getElem h]; rfl
section
variable {α : Type} {key : α → Int}
theorem Stab.ins {l r1 r2 : List α} {x : α} (h : Stab key l (r1 ++ r2)) (h1 : ∀ y ∈ r1, key y ≤ key x) (h2 : ∀ y ∈ r2, key x < key y) : Stab key (l ++ [x]) (r1 ++ x :: r2) := by
  obtain ⟨o1, o2, o3⟩ := List.pairwise_append.1 h.ord
  refine ⟨List.pairwise_append.2 ⟨o1, List.pairwise_cons.2 ⟨fun y hy => Int.le_of_lt (h2 y hy), o2⟩, fun a ha b hb => ?_⟩, fun t => ?_⟩
  · rcases List.mem_cons.1 hb with rfl | hb
    · exact h1 a ha
    · exact o3 a ha b hb
  · have hs := h.same t
    rw [at_key_append] at hs
    rw [at_key_append, at_key_append, ← hs]
    unfold at_key
    rw [List.filter_cons]
    by_cases hx : key x = t
    · have : r2.filter (fun y => decide (key y = t)) = [] := by
        rw [List.filter_eq_nil_iff]
        intro y hy; have := h2 y hy; simp; omega
      simp [this, hx]
    · simp [hx]
theorem Stab.front {v1 v2 : List α} {x : α} (h : (v1 ++ v2).Pairwise fun a b => key a ≤ key b) (h1 : ∀ y ∈ v1, key y < key x) (h2 : ∀ y ∈ v2, key x ≤ key y) : Stab key ([x] ++ (v1 ++ v2)) (v1 ++ x :: v2) := by
  obtain ⟨o1, o2, o3⟩ := List.pairwise_append.1 h
  refine ⟨List.pairwise_append.2 ⟨o1, List.pairwise_cons.2 ⟨h2, o2⟩, fun a ha b hb => ?_⟩, fun t => ?_⟩
  · rcases List.mem_cons.1 hb with rfl | hb
    · exact Int.le_of_lt (h1 a ha)
    · exact o3 a ha b hb
  · rw [at_key_append, at_key_append, at_key_append]
    unfold at_key
    have e1 : ∀ f : α → Bool, [x].filter f = if f x then [x] else [] := fun f => by rw [List.filter_cons]; rfl
    have e2 : ∀ f : α → Bool, (x :: v2).filter f = if f x then x :: v2.filter f else v2.filter f := fun f => by rw [List.filter_cons]
    rw [e1, e2]
    by_cases hx : key x = t
    · have : v1.filter (fun y => decide (key y = t)) = [] := by
        rw [List.filter_eq_nil_iff]
        intro y hy; have := h1 y hy; simp; omega
      simp [this, hx]
    · simp [hx]
def Chk (key : α → Int) (b : Nat) (l : List α) : Prop := ∀ k, ((l.drop (k * b)).take b).Pairwise fun x y => key x ≤ key y
theorem Chk.snoc {b q : Nat} {d w : List α} (h : Chk key b d) (hd : d.length = q * b) (hw : w.Pairwise fun x y => key x ≤ key y) (hl : w.length ≤ b) : Chk key b (d ++ w) := by
  intro k
  rcases Nat.lt_trichotomy k q with hk | hk | hk
  · have h1 : k * b + b ≤ q * b := by rw [← Nat.succ_mul]; exact Nat.mul_le_mul_right b hk
    rw [List.drop_append_of_le_length (by omega), List.take_append_of_le_length (by rw [List.length_drop]; omega)]
    exact h k
  · subst hk
    rw [List.drop_append_of_le_length (by omega), List.drop_of_length_le (by omega), List.nil_append, List.take_of_length_le hl]
    exact hw
  · have h1 : q * b + b ≤ k * b := by rw [← Nat.succ_mul]; exact Nat.mul_le_mul_right b hk
    rw [List.drop_of_length_le (by rw [List.length_append]; omega)]
    simp
theorem Chk.drop {b : Nat} {l : List α} (h : Chk key b l) (j : Nat) : Chk key b (l.drop (j * b)) := by
  intro k
  rw [List.drop_drop, ← Nat.add_mul]
  exact h _
theorem Chk.nil {b : Nat} : Chk key b ([] : List α) := fun k => by simp
theorem Chk.all {b : Nat} {l : List α} (h : Chk key b l) (hl : l.length ≤ b) : l.Pairwise fun x y => key x ≤ key y := by
  have := h 0
  rwa [Nat.zero_mul, List.drop_zero, List.take_of_length_le hl] at this
end
end Go.AM
set_option linter.unusedVariables false
set_option linter.unusedSimpArgs false
namespace Go.AM
open Go
variable {α : Type}
structure Ob (e : α → List Value) (S : St) (b : Nat) (t : TypeId) (g : Option Nat) (l : List α) (S' : St) : Prop where
  len : S.length ≤ S'.length
  keep : ∀ i, i < S.length → i ≠ b → S'[i]? = S[i]?
  at_ : S'[b]? = some (.cells (l.flatMap e) t g)
theorem flat_get {e : α → List Value} {w : Nat} (hw : ∀ x, (e x).length = w) : ∀ (l : List α) (i j : Nat) (hi : i < l.length) (v : Value), (e l[i])[j]? = some v → (l.flatMap e)[i * w + j]? = some v
  | [], i, j, hi, v, h => by simp at hi
  | x :: l, 0, j, hi, v, h => by
    have hj : j < (e x).length := by
      rcases Nat.lt_or_ge j (e x).length with h' | h'
      · exact h'
      · simp at h; rw [List.getElem?_eq_none h'] at h; cases h
    rw [List.flatMap_cons, Nat.zero_mul, Nat.zero_add, List.getElem?_append_left hj]; exact h
  | x :: l, i + 1, j, hi, v, h => by
    rw [List.flatMap_cons, List.getElem?_append_right (by rw [hw, Nat.succ_mul]; omega), hw, show (i + 1) * w + j - w = i * w + j by rw [Nat.succ_mul]; omega]
    exact flat_get hw l i j (by simpa using hi) v (by simpa using h)
theorem flat_set {e : α → List Value} {w : Nat} (hw : ∀ x, (e x).length = w) : ∀ (l : List α) (i : Nat) (x : α), i < l.length → splice (l.flatMap e) (i * w) (e x) = (l.set i x).flatMap e
  | [], i, x, h => by simp at h
  | y :: l, 0, x, h => by
    rw [List.set_cons_zero, List.flatMap_cons, List.flatMap_cons, Nat.zero_mul]
    unfold splice
    have : (e x).length = (e y).length := by rw [hw, hw]
    simp [this]
  | y :: l, i + 1, x, h => by
    have ih := flat_set hw l i x (by simpa using h)
    rw [List.set_cons_succ, List.flatMap_cons, List.flatMap_cons, ← ih]
    unfold splice
    rw [show (i + 1) * w = (e y).length + i * w by rw [hw, Nat.succ_mul]; omega, List.take_length_add_append, Nat.add_assoc, List.drop_length_add_append]
    simp
section
variable {e : α → List Value} {S S1 S2 : St} {b : Nat} {t : TypeId} {g : Option Nat} {l l' : List α}
theorem Ob.refl (h : S[b]? = some (.cells (l.flatMap e) t g)) : Ob e S b t g l S := ⟨Nat.le_refl _, fun _ _ _ => rfl, h⟩
theorem Ob.trans {t' : TypeId} {g' : Option Nat} (h : Ob e S b t' g' l S1) (k : Ob e S1 b t g l' S2) : Ob e S b t g l' S2 :=
  ⟨Nat.le_trans h.len k.len, fun i hi hne => by rw [k.keep i (Nat.lt_of_lt_of_le hi h.len) hne, h.keep i hi hne], k.at_⟩
theorem Ob.more (h : Ob e S b t g l S1) (hs : S1 <+: S2) : Ob e S b t g l S2 :=
  ⟨Nat.le_trans h.len hs.length_le, fun i hi hne => by rw [pre_at hs (Nat.lt_of_lt_of_le hi h.len), h.keep i hi hne], pre_get hs h.at_⟩
theorem Ob.put {w : Nat} (h : Ob e S b t g l S1) (hw : ∀ x, (e x).length = w) {i : Nat} (hi : i < l.length) (x : α) : Ob e S b t g (l.set i x) (S1.set b (.cells (splice (l.flatMap e) (i * w) (e x)) t g)) :=
  ⟨by rw [List.length_set]; exact h.len, fun j hj hne => by rw [List.getElem?_set_ne (fun e => hne e.symm), h.keep j hj hne], by rw [List.getElem?_set_self (pre_lt h.at_), flat_set hw l i x hi]⟩
theorem Ob.get (h : Ob e S b t g l S1) {i : Nat} {o : AObj} (hi : S[i]? = some o) (hne : i ≠ b) : S1[i]? = some o := by
  rw [h.keep i (pre_lt hi) hne]; exact hi
theorem Ob.ar {w : Nat} (h : Ob e S b t g l S1) (hw : ∀ x, (e x).length = w) : Ar S1 (some ⟨b, 0, none⟩) l.length w e l := Ar.blk h.at_ (fun x _ => hw x) rfl
theorem Ob.pre (h : Ob e S b t g l S1) (hb : S.length ≤ b) : S <+: S1 := by
  have hk := h.keep
  refine ⟨S1.drop S.length, ?_⟩
  have : S1.take S.length = S := by
    apply List.ext_getElem?
    intro i
    rw [List.getElem?_take]
    split
    · rename_i hi; exact hk i hi (by omega)
    · rename_i hi; rw [List.getElem?_eq_none (by omega)]
  conv => lhs; arg 1; rw [← this]
  exact List.take_append_drop _ _
theorem Ob.base {S0 : St} (h : Ob e S b t g l S1) (hs : S0 <+: S) : Ob e S0 b t g l S1 :=
  ⟨Nat.le_trans hs.length_le h.len, fun i hi hne => by rw [h.keep i (Nat.lt_of_lt_of_le hi hs.length_le) hne, pre_at hs hi], h.at_⟩
theorem Ob.ap {w : Nat} {S0 : St} {c : List Value} (ha : Ap S0 none S (some ⟨b, 0, none⟩) l.length t w c) (h : Ob e S b t (some w) l S1) (hw : ∀ x, (e x).length = w) : Ap S0 none S1 (some ⟨b, 0, none⟩) l.length t w (l.flatMap e) where
  len := Nat.le_trans ha.len h.len
  keep := fun i hi hne => by
    have hb := ha.new rfl
    rw [h.keep i (Nat.lt_of_lt_of_le hi ha.len) (by intro e; subst e; dsimp at hb; omega), ha.keep i hi hne]
  at_ := ha.at_
  size := flat_len hw l
  own := .inr ⟨b, rfl, h.at_⟩
  was := .inl rfl
end
theorem Ap.base {S0 S S' : St} {a : Option Addr} {n : Nat} {t : TypeId} {w : Nat} {cs : List Value} (h : Ap S none S' a n t w cs) (hs : S0 <+: S) : Ap S0 none S' a n t w cs where
  len := Nat.le_trans hs.length_le h.len
  keep := fun i hi hne => by rw [h.keep i (Nat.lt_of_lt_of_le hi hs.length_le) (fun e => by cases e), pre_at hs hi]
  at_ := by
    rcases h.at_ with h1 | ⟨b, h1, h2⟩
    · exact .inl h1
    · exact .inr ⟨b, h1, Nat.le_trans hs.length_le h2⟩
  size := h.size
  own := h.own
  was := .inl rfl
theorem Ob.u {S S1 : St} {b : Nat} {t : TypeId} {g : Option Nat} {l : List Int} (h : Ob eU S b t g l S1) {i : Nat} (hi : i < l.length) : S1.cell ⟨b, i, none⟩ = some (.int .u64 l[i]) := by
  rw [cell_blk h.at_]
  have := flat_get (e := eU) (w := 1) (fun _ => rfl) l i 0 hi _ rfl
  simpa using this
end Go.AM
