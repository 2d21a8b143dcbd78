/-
  Part of the proof of a law: plain mathematics, and rules of reasoning. Conditions: none.
-/
import Derived.Lib.TrailingZeros
import Derived.Lib.BitFns
import Derived.Lib.Zigzag
import Derived.Test.YtpecnaacgkgjmaaGreatDoorVA2
set_option linter.unusedVariables false
set_option linter.unusedSectionVars false
set_option linter.unusedSimpArgs false
set_option linter.deprecated false
namespace Go.AM
open Go
def P0:Int:=18446744069414584321
def P1:Int:=998244353
def P2:Int:=2013265921
def known (p:Int):Bool:=p == P0 || p == P1 || p == P2
def red (p a:Int):Int:=if known p=true then a % p else 0
def mulF (p a b:Int):Int:=if known p=true then a*b % p else 0
def addF (p a b:Int):Int:=if known p=true then (a+b) % p else 0
def subF (p a b:Int):Int:=if known p=true then (a-b) % p else 0
def u64r (a:Int):Bool:=decide (0<=a/\a < 18446744073709551616)
theorem known_cases {p:Int} (h:known p=true):p=P0\/p=P1\/p=P2:=by
 unfold known at h
 simp only [Bool.or_eq_true,beq_iff_eq] at h
 omega
theorem red_bound (p a:Int) (h:known p=true):0<=red p a/\red p a < p:=by
 unfold red;rw [if_pos h]
 rcases known_cases h with rfl | rfl | rfl <;> simp only [P0,P1,P2] <;> omega
theorem known_pos {p:Int} (h:known p=true):1<=p/\p < 18446744073709551616:=by
 rcases known_cases h with rfl | rfl | rfl <;> simp only [P0,P1,P2] <;> omega
def pull (r:Nat):Nat->Nat->List Nat×Nat
 | 0, m => ([], m)
 | k + 1, m => if m % r = 0 then (r :: (pull r k (m / r)).1, (pull r k (m / r)).2) else ([], m)
theorem pull_more (r:Nat) (hr:2<=r):∀ (b m k k':Nat),m<=b->0 < m->m<=k->m<=k'->pull r k m=pull r k' m
 | 0, m, _, _, h, h0, _, _ => by omega
 | b + 1, m, k, k', h, h0, hk, hk' => by
   obtain ⟨k,rfl⟩:∃ x,k=x+1:=⟨k-1,by omega⟩
   obtain ⟨k',rfl⟩:∃ x,k'=x+1:=⟨k'-1,by omega⟩
   unfold pull
   by_cases hm:m % r=0
   ·have hd:m / r < m:=Nat.div_lt_self h0 hr
    have hp:0 < m / r:=Nat.div_pos (Nat.le_of_dvd h0 (Nat.dvd_of_mod_eq_zero hm)) (by omega)
    rw [if_pos hm,if_pos hm,pull_more r hr b (m / r) k k' (by omega) hp (by omega) (by omega)]
   ·rw [if_neg hm,if_neg hm]
def pullN (r m:Nat):List Nat×Nat:=pull r m m
theorem pullN_step (r m:Nat) (hr:2<=r) (h0:0 < m) (hm:m % r=0):pullN r m=(r :: (pullN r (m / r)).1,(pullN r (m / r)).2):=by
 have hd:m / r < m:=Nat.div_lt_self h0 hr
 have hp:0 < m / r:=Nat.div_pos (Nat.le_of_dvd h0 (Nat.dvd_of_mod_eq_zero hm)) (by omega)
 unfold pullN
 rw [pull_more r hr m m m (m-1+1) (Nat.le_refl _) h0 (Nat.le_refl _) (by omega),pull,if_pos hm,pull_more r hr m (m / r) (m-1) (m / r) (by omega) hp (by omega) (Nat.le_refl _)]
theorem pullN_stop (r m:Nat) (h0:0 < m) (hm:¬ m % r=0):pullN r m=([],m):=by
 unfold pullN
 obtain ⟨k,hk⟩:∃ x,m=x+1:=⟨m-1,by omega⟩
 rw [show pull r m m=pull r (k+1) m from by rw [<- hk],pull,if_neg hm]
def lastL (m:Nat):List Nat:=if 1 < m then [m] else []
def restJ:Nat->Nat->List Nat
 | 0, m => (pullN 3 m).1 ++ ((pullN 5 (pullN 3 m).2).1 ++ lastL (pullN 5 (pullN 3 m).2).2)
 | 1, m => (pullN 5 m).1 ++ lastL (pullN 5 m).2
 | _, m => lastL m
def arJ:Nat->Nat
 | 0 => 3
 | _ => 5
theorem restJ_step (j m:Nat) (hj:j < 2) (h0:0 < m) (hm:m % arJ j=0):restJ j m=arJ j :: restJ j (m / arJ j):=by
 match j,hj with
 | 0, _ => have hm' : m % 3 = 0 := hm; show (pullN 3 m).1 ++ _ = 3 :: ((pullN 3 (m / 3)).1 ++ _); rw [pullN_step 3 m (by omega) h0 hm']; rfl
 | 1, _ => have hm' : m % 5 = 0 := hm; show (pullN 5 m).1 ++ _ = 5 :: ((pullN 5 (m / 5)).1 ++ _); rw [pullN_step 5 m (by omega) h0 hm']; rfl
theorem restJ_stop (j m:Nat) (hj:j < 2) (h0:0 < m) (hm:¬ m % arJ j=0):restJ j m=restJ (j+1) m:=by
 match j,hj with
 | 0, _ => have hm' : ¬ m % 3 = 0 := hm; show (pullN 3 m).1 ++ ((pullN 5 (pullN 3 m).2).1 ++ _) = _; rw [pullN_stop 3 m h0 hm']; rfl
 | 1, _ => have hm' : ¬ m % 5 = 0 := hm; show (pullN 5 m).1 ++ lastL (pullN 5 m).2 = _; rw [pullN_stop 5 m h0 hm']; rfl
def radT (t n:Nat):List Nat:=List.replicate (t / 2) 4++((if t % 2=1 then [2] else [])++restJ 0 (n / 2 ^ t))
def radL (n:Nat):List Nat:=radT (Lib.ctz 64 n) n
theorem ctz_facts_:∀ a,a < 65->∀ b,b < 64->1<=64*a+b->Lib.ctz 64 (64*a+b)<=12/\0 < (64*a+b) / 2 ^ Lib.ctz 64 (64*a+b)/\(radL (64*a+b)).length<=4096:=by decide +kernel
theorem ctz_facts (n:Nat) (h:n < 4097) (h1:1<=n):Lib.ctz 64 n<=12/\0 < n / 2 ^ Lib.ctz 64 n/\(radL n).length<=4096:=by
 have:=ctz_facts_ (n / 64) (by omega) (n % 64) (by omega) (by omega)
 rwa [Nat.div_add_mod] at this
def radR (n:Nat):List Int×Int:=if (radL n).all (λ r=>decide (r<=5)) then ((radL n).map λ x:Nat=>(x:Int),0) else ([],4)
def natsV (l:List Nat):List Value:=l.map λ x:Nat=>Value.int .i64 ((x:Nat):Int)
def genF (p:Int):Int:=if p=P0 then 7 else if p=P1 then 3 else if p=P2 then 31 else 0
variable {α β ρ:Type}
def WP (m:M α) (S:St) (Q:α->St->Prop):Prop:=∃ a S',m S=some (a,S')/\Q a S'
theorem WP.mono {m:M α} {S:St} {Q Q':α->St->Prop} (h:WP m S Q) (hq:∀ a S',Q a S'->Q' a S'):WP m S Q':=by
 obtain ⟨a,S',h1,h2⟩:=h
 exact ⟨a,S',h1,hq _ _ h2⟩
@[simp] theorem wp_ret {a:α} {S:St} {Q:α->St->Prop}:WP (M.ret a) S Q↔Q a S:=
 ⟨λ ⟨_,_,h,q⟩=>by cases h;exact q,λ q=>⟨_,_,rfl,q⟩⟩
@[simp] theorem wp_retQ {i:Nat} {l:List Value} {S:St} {Q:Nat×List Value->St->Prop}:WP (retQ i l) S Q↔Q (i,l) S:=wp_ret
@[simp] theorem wp_bind {m:M α} {k:α->M β} {S:St} {Q:β->St->Prop}:WP (M.bind m k) S Q↔WP m S λ a S'=>WP (k a) S' Q:=by
 constructor
 ·rintro ⟨b,S',h,q⟩
  obtain ⟨a,S1,h1,h2⟩:=M.bind_some h
  exact ⟨a,S1,h1,b,S',h2,q⟩
 ·rintro ⟨a,S1,h1,b,S',h2,q⟩
  exact ⟨b,S',by simp [M.bind,h1,h2],q⟩
@[simp] theorem wp_guard {c:Prop} [Decidable c] {m:M α} {S:St} {Q:α->St->Prop}:WP (guardM c m) S Q↔c/\WP m S Q:=by
 constructor
 ·rintro ⟨a,S',h,q⟩
  obtain ⟨h1,h2⟩:=guardM_some h
  exact ⟨h1,a,S',h2,q⟩
 ·rintro ⟨h1,a,S',h2,q⟩
  exact ⟨a,S',by simp [guardM,h1,h2],q⟩
@[simp] theorem wp_cond {b:Bool} {m n:M α} {S:St} {Q:α->St->Prop}:WP (cond b m n) S Q↔(b=true->WP m S Q)/\(b=false->WP n S Q):=by
 cases b <;> simp
@[simp] theorem wp_fail {S:St} {Q:α->St->Prop}:WP (M.fail:M α) S Q↔False:=⟨λ ⟨_,_,h,_⟩=>(by cases h),False.elim⟩
@[simp] theorem wp_failV {S:St} {Q:Value->St->Prop}:WP failV S Q↔False:=wp_fail
@[simp] theorem wp_failQ {S:St} {Q:Nat×List Value->St->Prop}:WP failQ S Q↔False:=wp_fail
@[simp] theorem wp_asI {k:IntKind} {n:Int} {S:St} {Q:Int->St->Prop}:WP (asI k (.int k n)) S Q↔Q n S:=by
 have : asI k (.int k n)=M.ret n:=by simp [asI]
 rw [this,wp_ret]
@[simp] theorem wp_asB {b:Bool} {S:St} {Q:Bool->St->Prop}:WP (asB (.bool b)) S Q↔Q b S:=wp_ret
@[simp] theorem wp_asS {a:Option Addr} {n c:Nat} {S:St} {Q:Sl->St->Prop}:WP (asS (.slice a n c)) S Q↔Q ⟨a,n,c⟩ S:=wp_ret
@[simp] theorem wp_asP {a:Option Addr} {S:St} {Q:Option Addr->St->Prop}:WP (asP (.pointer a)) S Q↔Q a S:=wp_ret
@[simp] theorem wp_asM {a:Option Nat} {S:St} {Q:Option Nat->St->Prop}:WP (asM (.map a)) S Q↔Q a S:=wp_ret
@[simp] theorem wp_asA {l:List Value} {S:St} {Q:List Value->St->Prop}:WP (asA (.agg ⟨l⟩)) S Q↔Q l S:=wp_ret
@[simp] theorem wp_asF {t:TypeId} {v:Value} {S:St} {Q:TypeId×Value->St->Prop}:WP (asF (.iface t v)) S Q↔Q (t,v) S:=wp_ret
@[simp] theorem wp_asT {l:List Value} {S:St} {Q:List Value->St->Prop}:WP (asT (.tuple ⟨l⟩)) S Q↔Q l S:=wp_ret
@[simp] theorem wp_onOpt {a:α} {K:α->M ρ} {S:St} {Q:ρ->St->Prop}:WP (onOpt (some a) K) S Q↔WP (K a) S Q:=Iff.rfl
@[simp] theorem wp_newB {o:AObj} {S:St} {Q:Nat->St->Prop}:WP (newB o) S Q↔Q S.length (S++[o]):=
 ⟨λ ⟨_,_,h,q⟩=>by cases h;exact q,λ q=>⟨_,_,rfl,q⟩⟩
@[simp] theorem wp_ld {a:Addr} {S:St} {Q:Value->St->Prop}:WP (ld a) S Q↔∃ v,S.cell a=some v/\Q v S:=by
 constructor
 ·rintro ⟨v,S',h,q⟩
  obtain ⟨h1,rfl⟩:=ld_some h
  exact ⟨v,h1,q⟩
 ·rintro ⟨v,h,q⟩
  exact ⟨v,S,by simp [ld,h],q⟩
@[simp] theorem wp_stL {a:Addr} {vs:List Value} {S:St} {Q:Unit->St->Prop}:WP (stL a vs) S Q ↔
 ∃ c e g,S[a.block]? = some (.cells c e g)/\(a.spot=none/\a.off+vs.length<=c.length/\vs.all leafV=true)/\Q () (S.set a.block (.cells (splice c a.off vs) e g)):=by
 constructor
 ·rintro ⟨u,S',h,q⟩
  unfold stL at h
  split at h
  ·rename_i c e g hc
   split at h
   ·cases h;exact ⟨c,e,g,hc,‹_›,q⟩
   ·cases h
  ·cases h
 ·rintro ⟨c,e,g,hc,h,q⟩
  refine ⟨(),_,?_,q⟩
  unfold stL
  rw [hc]
  dsimp only
  rw [if_pos h]
@[simp] theorem wp_oneV {i:Nat} {v:Value} {S:St} {Q:Value->St->Prop}:WP (oneV (i,[v])) S Q↔Q v S:=wp_ret
@[simp] theorem pickM_nil {i:Nat}:pickM ([]:List (M ρ)) i=M.fail:=by unfold pickM;rfl
@[simp] theorem pickM_one {m:M ρ} {i:Nat}:pickM [m] i=m:=by unfold pickM;rfl
@[simp] theorem pickM_zero {m:M ρ} {l:List (M ρ)}:pickM (m :: l) 0=m:=by cases l <;> (unfold pickM;rfl)
@[simp] theorem pickM_succ {m m':M ρ} {l:List (M ρ)} {i:Nat}:pickM (m :: m' :: l) (i+1)=pickM (m' :: l) i:=by conv=>lhs;unfold pickM
@[simp] theorem wp_rdN0 {a:Option Addr} {S:St} {Q:List Value->St->Prop}:WP (rdN a 0) S Q↔Q [] S:=
 ⟨λ ⟨_,_,h,q⟩=>by cases h;exact q,λ q=>⟨_,_,rfl,q⟩⟩
theorem wp_rdN {a:Addr} {k:Nat} {S:St} {Q:List Value->St->Prop} {c:List Value} {e:TypeId} {g:Option Nat} (hb:S[a.block]? = some (.cells c e g)) (hs:a.spot=none) (hl:a.off+k<=c.length)
 (q:Q ((c.drop a.off).take k) S):WP (rdN (some a) k) S Q:=by
 refine ⟨(c.drop a.off).take k,S,?_,q⟩
 unfold rdN
 by_cases h0:k=0
 ·subst h0;simp
 ·rw [if_neg h0]; dsimp only;rw [hb]; dsimp only;rw [if_pos ⟨hs,hl⟩]
theorem wp_loop {body:List Value->M (Nat×List Value)} {Q:Nat×List Value->St->Prop} (I:List Value->St->Nat->Prop)
 (hstep:∀ st S n,I st S n->WP (body st) S λ q S'=>match q.1 with
   | 0=>∃ n' < n,I q.2 S' n'
   | _+1=>Q q S'):∀ n st S,I st S n->WP (loopM body st) S Q:=by
 intro n
 induction n using Nat.strongRecOn with
 | _ n ih =>
   intro st S hi
   obtain ⟨q,S',h1,h2⟩:=hstep st S n hi
   obtain ⟨i,l⟩:=q
   cases i with
   | zero=>
     obtain ⟨n',hn,hi'⟩:=h2
     obtain ⟨a,S2,h3,h4⟩:=ih n' hn _ _ hi'
     exact ⟨a,S2,by rw [loopM_eq]; simp only [M.bind,h1]; exact h3,h4⟩
   | succ i=>exact ⟨(i+1,l),S',by rw [loopM_eq]; simp only [M.bind,h1]; rfl,h2⟩
theorem wp_round {body:List Value->M (Nat×List Value)} {st:List Value} {S:St} {Q:Nat×List Value->St->Prop}
 (h:WP (body st) S λ q S'=>match q.1 with
   | 0=>WP (loopM body q.2) S' Q
   | _+1=>Q q S'):WP (loopM body st) S Q:=by
 obtain ⟨⟨i,l⟩,S',h1,h2⟩:=h
 cases i with
 | zero => obtain ⟨a, S2, h3, h4⟩ := h2; exact ⟨a, S2, by rw [loopM_eq]; simp only [M.bind, h1]; exact h3, h4⟩
 | succ i => exact ⟨(i + 1, l), S', by rw [loopM_eq]; simp only [M.bind, h1]; rfl, h2⟩
def Sp (m:M α) (S:St) (R:α->St->Prop):Prop:=WP m S λ a S'=>S <+: S'/\R a S'
theorem Sp.use {m:M α} {S:St} {R Q:α->St->Prop} (h:Sp m S R) (k:∀ a S',S <+: S'->R a S'->Q a S'):WP m S Q:=
 WP.mono h λ a S' ⟨h1,h2⟩=>k a S' h1 h2
theorem pre_get {S S':St} (h:S <+: S') {i:Nat} {o:AObj} (ho:S[i]? = some o):S'[i]? = some o:=by
 obtain ⟨t,rfl⟩:=h
 have hl:i < S.length:=by
  rcases Nat.lt_or_ge i S.length with h | h
  ·exact h
  ·rw [List.getElem?_eq_none h] at ho;cases ho
 rw [List.getElem?_append_left hl]; exact ho
theorem pre_cell {S S':St} (h:S <+: S') {a:Addr} {v:Value} (hv:S.cell a=some v):S'.cell a=some v:=by
 unfold St.cell at hv ⊢
 cases hb:S[a.block]? with
 | none => rw [hb] at hv; cases hv
 | some o => rw [hb] at hv; rw [pre_get h hb]; exact hv
theorem pre_set {S S':St} (h:S <+: S') {b:Nat} {o:AObj} (hb:b < S.length):S.set b o <+: S'.set b o:=by
 obtain ⟨t,rfl⟩:=h
 exact ⟨t,by rw [List.set_append_left _ _ hb]⟩
theorem pre_set' {S S':St} (h:S <+: S') {b:Nat} {o:AObj} (hb:S.length<=b):S <+: S'.set b o:=by
 obtain ⟨t,rfl⟩:=h
 rw [List.set_append_right _ _ hb]
 exact ⟨_,rfl⟩
theorem pre_add {S S':St} (h:S <+: S') (t:St):S <+: S'++t:=h.trans (List.prefix_append _ _)
theorem pre_of_add {S S' t:St} (h:S++t <+: S'):S <+: S':=(List.prefix_append _ _).trans h
theorem get_new {S:St} {o:AObj}:(S++[o])[S.length]? = some o:=by simp
theorem get_add {S t:St} {i:Nat} {o:AObj} (h:S[i]? = some o):(S++t)[i]? = some o:=pre_get (List.prefix_append _ _) h
theorem pre_lt {S:St} {i:Nat} {o:AObj} (h:S[i]? = some o):i < S.length:=by
 rcases Nat.lt_or_ge i S.length with h' | h'
 ·exact h'
 ·rw [List.getElem?_eq_none h'] at h;cases h
theorem pre_top {S S':St} {o x:AObj} (h:S++[o] <+: S'):S++[x] <+: S'.set S.length x:=by
 have:=pre_set h (b:=S.length) (o:=x) (by simp)
 simpa using this
theorem set_get {S:St} {i:Nat} {o:AObj} (h:S[i]? = some o):S.set i o=S:=by
 apply List.ext_getElem?
 intro j
 rw [List.getElem?_set]
 split
 ·rename_i e;subst e
  have:=pre_lt h
  rw [h,if_pos this]
 ·rfl
theorem cell_blk {S:St} {b:Nat} {c:List Value} {e:TypeId} {g:Option Nat} (h:S[b]? = some (.cells c e g)) (o:Nat):S.cell ⟨b,o,none⟩=c[o]?:=by
 simp [St.cell,h]
@[simp] theorem cell_new {S:St} {c:List Value} {e:TypeId} {g:Option Nat} {o:Nat}:St.cell (S++[.cells c e g]) ⟨S.length,o,none⟩=c[o]?:=by
 simp [St.cell]
@[simp] theorem add_off {b o n:Nat}:(⟨b,o,none⟩:Addr).add n=⟨b,o+n,none⟩:=by
 unfold Addr.add;split
 ·rename_i h;subst h;simp
 ·rfl
theorem add_zero_ (a:Addr):a.add 0=a:=by unfold Addr.add;simp
def Ar (S:St) (p:Option Addr) (n w:Nat) (e:α->List Value) (l:List α):Prop:=
 n=l.length/\∀ i (h:i < l.length),∃ a,p=some a/\∀ j v,(e l[i])[j]? = some v->S.cell ((a.add (i*w)).add j)=some v
theorem Ar.mono {S S':St} {p:Option Addr} {n w:Nat} {e:α->List Value} {l:List α} (h:Ar S p n w e l) (hs:S <+: S'):Ar S' p n w e l:=
 ⟨h.1,λ i hi=>by obtain ⟨a,h1,h2⟩:=h.2 i hi;exact ⟨a,h1,λ j v hv=>pre_cell hs (h2 j v hv)⟩⟩
theorem Ar.nil {S:St} {p:Option Addr} {w:Nat} {e:α->List Value}:Ar S p 0 w e []:=⟨rfl,λ i h=>by simp at h⟩
theorem Ar.set {S:St} {p:Option Addr} {n w b:Nat} {e:α->List Value} {l:List α} {o:AObj} (h:Ar S p n w e l) (hb:∀ x,p=some x->x.block≠b):Ar (S.set b o) p n w e l:=by
 refine ⟨h.1,λ i hi=>?_⟩
 obtain ⟨x,h1,h2⟩:=h.2 i hi
 refine ⟨x,h1,λ j u hu=>?_⟩
 have h3:=h2 j u hu
 have hblk:((x.add (i*w)).add j).block=x.block:=by
  unfold Addr.add;split <;> split <;> rfl
 unfold St.cell at h3 ⊢
 rw [hblk] at h3 ⊢
 rw [List.getElem?_set_ne (λ e=>hb x h1 e.symm)]; exact h3
def eI (n:Int):List Value:=[.int .i64 n]
def eU (n:Int):List Value:=[.int .u64 n]
theorem Ar.getI {S:St} {p:Option Addr} {n:Nat} {l:List Int} (h:Ar S p n 1 eI l) {i:Nat} (hi:i < l.length) :
 ∃ a,p=some a/\S.cell (a.add i)=some (.int .i64 l[i]):=by
 obtain ⟨a,h1,h2⟩:=h.2 i hi
 exact ⟨a,h1,by have:=h2 0 _ rfl;rwa [add_zero_,Nat.mul_one] at this⟩
theorem Ar.getU {S:St} {p:Option Addr} {n:Nat} {l:List Int} (h:Ar S p n 1 eU l) {i:Nat} (hi:i < l.length) :
 ∃ a,p=some a/\S.cell (a.add i)=some (.int .u64 l[i]):=by
 obtain ⟨a,h1,h2⟩:=h.2 i hi
 exact ⟨a,h1,by have:=h2 0 _ rfl;rwa [add_zero_,Nat.mul_one] at this⟩
theorem Ar.blk {S:St} {b:Nat} {c:List Value} {t:TypeId} {g:Option Nat} (hb:S[b]? = some (.cells c t g)) {w:Nat} {e:α->List Value} {l:List α}
 (hw:∀ x∈l,(e x).length=w) (hc:c=l.flatMap e):Ar S (some ⟨b,0,none⟩) l.length w e l:=by
 refine ⟨rfl,λ i hi=>⟨_,rfl,λ j v hv=>?_⟩⟩
 simp only [add_off]
 rw [cell_blk hb,hc]
 have key:∀ (l:List α) (i:Nat) (hi:i < l.length) (j:Nat) (v:Value),(∀ x∈l,(e x).length=w)->(e l[i])[j]? = some v->(l.flatMap e)[i*w+j]? = some v:=by
  intro l
  induction l with
  | nil=>intro i hi;simp at hi
  | cons x l ih=>
    intro i hi j v hw hv
    have hx:=hw x (by simp)
    rw [List.flatMap_cons]
    cases i with
    | zero=>
      have : j < (e x).length:=by
       rcases Nat.lt_or_ge j (e x).length with h | h
       ·exact h
       ·simp at hv;rw [List.getElem?_eq_none h] at hv;cases hv
      rw [Nat.zero_mul,Nat.zero_add,List.getElem?_append_left this]; exact hv
    | succ i=>
      rw [Nat.succ_mul,List.getElem?_append_right (by omega),show i*w+w+j-(e x).length=i*w+j by omega]
      exact ih i (by simpa using hi) j v (λ y hy=>hw y (by simp [hy])) (by simpa using hv)
 simpa using key l i hi j v hw hv
theorem splice_set {c:List Value} {i:Nat} {v:Value} (h:i < c.length):splice c i [v]=c.set i v:=by
 unfold splice
 rw [List.set_eq_take_append_cons_drop]
 simp [h]
theorem zeroC_one (n:Nat) (z:Value):zeroC n [z]=List.replicate n z:=by
 unfold zeroC
 simp only [List.length_singleton,Nat.mul_one,Nat.mod_one]
 exact List.map_const' ..|>.trans (by simp)
theorem wrap_i64 (n:Int) (h:-9223372036854775808<=n) (h2:n < 9223372036854775808):IntKind.i64.wrap n=n:=by
 simp [IntKind.wrap,IntKind.bits,IntKind.signed]
 omega
theorem wrap_u64 (n:Int):IntKind.u64.wrap n=n % 18446744073709551616:=by simp [IntKind.wrap,IntKind.bits,IntKind.signed]
theorem wrap_u64' (n:Int) (h:0<=n) (h2:n < 18446744073709551616):IntKind.u64.wrap n=n:=by rw [wrap_u64]; omega
structure Ap (S0:St) (a0:Option Addr) (S:St) (a:Option Addr) (n:Nat) (e:TypeId) (w:Nat) (cs:List Value):Prop where
 len:S0.length<=S.length
 keep:∀ i,i < S0.length->a0≠some ⟨i,0,none⟩->S[i]? = S0[i]?
 at_:a=a0\/∃ b,a=some ⟨b,0,none⟩/\S0.length<=b
 size:cs.length=n*w
 own:(a=none/\n=0)\/∃ b,a=some ⟨b,0,none⟩/\S[b]? = some (.cells cs e (some w))
 was:a0=none\/∃ b d t u,a0=some ⟨b,0,none⟩/\S0[b]? = some (.cells d t (some u))
section
variable {S0 S S':St} {a0 a a':Option Addr} {n n':Nat} {e:TypeId} {w:Nat} {cs cs':List Value}
theorem Ap.nil:Ap S none S none 0 e w []:=⟨Nat.le_refl _,λ _ _ _=>rfl,.inl rfl,by simp,.inl ⟨rfl,rfl⟩,.inl rfl⟩
theorem Ap.pre (h:Ap S0 none S a n e w cs):S0 <+: S:=by
 have hk:=h.keep
 refine ⟨S.drop S0.length,?_⟩
 have : S.take S0.length=S0:=by
  apply List.ext_getElem?
  intro i
  rw [List.getElem?_take]
  split
  ·rename_i hi;exact hk i hi (λ h=>by cases h)
  ·rename_i hi;rw [List.getElem?_eq_none (by omega)]
 conv=>lhs;arg 1;rw [<- this]
 exact List.take_append_drop _ _
theorem pre_at (hs:S <+: S') {i:Nat} (hi:i < S.length):S'[i]? = S[i]?:=by
 obtain ⟨t,rfl⟩:=hs;exact List.getElem?_append_left hi
theorem Ap.more (h:Ap S0 a0 S a n e w cs) (hs:S <+: S'):Ap S0 a0 S' a n e w cs where
 len:=Nat.le_trans h.len hs.length_le
 keep:=λ i hi hne=>by rw [pre_at hs (Nat.lt_of_lt_of_le hi h.len),h.keep i hi hne]
 at_:=h.at_
 size:=h.size
 own:=h.own.imp id λ ⟨b,h1,h2⟩=>⟨b,h1,pre_get hs h2⟩
 was:=h.was
theorem Ap.start (h:Ap S0 a0 S a n e w cs):Ap S a S a n e w cs where
 len:=Nat.le_refl _
 keep:=λ _ _ _=>rfl
 at_:=.inl rfl
 size:=h.size
 own:=h.own
 was:=h.own.imp (·.1) λ ⟨b,h1,h2⟩=>⟨b,_,_,_,h1,h2⟩
theorem Ap.trans (h:Ap S0 a0 S a n e w cs) (k:Ap S a S' a' n' e w cs'):Ap S0 a0 S' a' n' e w cs' where
 len:=Nat.le_trans h.len k.len
 keep:=λ i hi hne=>by
  rw [k.keep i (Nat.lt_of_lt_of_le hi h.len) ?_,h.keep i hi hne]
  rcases h.at_ with h1 | ⟨b,h1,h2⟩
  ·rw [h1]; exact hne
  ·rw [h1]; intro q;cases q;omega
 at_:=by
  rcases k.at_ with h1 | ⟨b,h1,h2⟩
  ·rw [h1]; exact h.at_
  ·exact .inr ⟨b,h1,Nat.le_trans h.len h2⟩
 size:=k.size
 own:=k.own
 was:=h.was
theorem flat_len {α:Type} {e:α->List Value} {w:Nat} (h:∀ x,(e x).length=w):∀ l:List α,(l.flatMap e).length=l.length*w
 | [] => by simp
 | x :: l => by rw [List.flatMap_cons, List.length_append, flat_len h l, h, List.length_cons, Nat.succ_mul]; omega
theorem Ap.cnt {α:Type} {f:α->List Value} {l:List α} (h:Ap S0 a0 S a n e w (l.flatMap f)) (hw:∀ x,(f x).length=w) (h0:0 < w):n=l.length:=by
 have:=h.size
 rw [flat_len hw] at this
 exact (Nat.eq_of_mul_eq_mul_right h0 this).symm
theorem Ap.ar {α:Type} {f:α->List Value} {l:List α} (h:Ap S0 a0 S a n e w (l.flatMap f)) (hw:∀ x,(f x).length=w) (h0:0 < w):Ar S a n w f l:=by
 have hn:=h.cnt hw h0
 rcases h.own with ⟨h3,h4⟩ | ⟨b,h3,h5⟩
 ·subst h4 h3
  have : l=[]:=List.eq_nil_of_length_eq_zero hn.symm
  subst this;exact .nil
 ·subst hn h3
  exact Ar.blk h5 (λ x _=>hw x) rfl
theorem Ap.get (h:Ap S0 a0 S a n e w cs) {i:Nat} {o:AObj} (hi:S0[i]? = some o) (hne:a0≠some ⟨i,0,none⟩):S[i]? = some o:=by
 rw [h.keep i (pre_lt hi) hne]; exact hi
theorem Ap.cells (h:Ap S0 a0 S a n e w cs) {i:Nat} {d:List Value} {t:TypeId} (hi:S0[i]? = some (.cells d t none)):S[i]? = some (.cells d t none):=by
 refine h.get hi ?_
 rintro rfl
 rcases h.was with h1 | ⟨b,_,_,_,h1,h2⟩
 ·cases h1
 ·cases h1;rw [hi] at h2;cases h2
theorem Ap.kAr {α:Type} {f:α->List Value} {l:List α} {p:Option Addr} {m v:Nat} (h:Ap S0 a0 S a n e w cs) (k:Ar S0 p m v f l) (hne:∀ x,p=some x->a0≠some ⟨x.block,0,none⟩):Ar S p m v f l:=by
 refine ⟨k.1,λ i hi=>?_⟩
 obtain ⟨x,h1,h2⟩:=k.2 i hi
 refine ⟨x,h1,λ j u hu=>?_⟩
 have h3:=h2 j u hu
 have hblk:((x.add (i*v)).add j).block=x.block:=by
  unfold Addr.add;split <;> split <;> rfl
 unfold St.cell at h3 ⊢
 rw [hblk] at h3 ⊢
 rw [h.keep x.block ?_ (hne x h1)]; exact h3
 rcases Nat.lt_or_ge x.block S0.length with h' | h'
 ·exact h'
 ·rw [List.getElem?_eq_none h'] at h3;cases h3
theorem Ap.new (h:Ap S0 none S a n e w cs) {x:Addr} (hx:a=some x):S0.length<=x.block:=by
 rcases h.at_ with h1 | ⟨b,h1,h2⟩
 ·rw [h1] at hx;cases hx
 ·rw [h1] at hx;cases hx;exact h2
theorem Ap.lt (h:Ap S0 a0 S a n e w cs) {i:Nat} (hi:a=some ⟨i,0,none⟩):i < S.length:=by
 rcases h.own with ⟨h1,_⟩ | ⟨b,h1,h2⟩
 ·rw [h1] at hi;cases hi
 ·rw [h1] at hi;cases hi;exact pre_lt h2
theorem Ap.below (h:Ap S0 a0 S a n e w cs) {x:Addr} (hx:a=some x):x.block < S.length:=by
 rcases h.own with ⟨h1,_⟩ | ⟨b,h1,h2⟩
 ·rw [h1] at hx;cases hx
 ·rw [h1] at hx;cases hx;exact pre_lt h2
theorem wp_app (h:Ap S0 a0 S a n e w cs) {bt m:Nat} {xs:List Value} {Q:Sl->St->Prop}
 (hm:xs.length=m*w) (hm0:0 < m) (hsz:(n+m)*bt<=140737488355328) (hbt:1<=bt) (hlf:xs.all leafV=true)
 (q:∀ b S',Ap S0 a0 S' (some ⟨b,0,none⟩) (n+m) e w (cs++xs)->Q ⟨some ⟨b,0,none⟩,n+m,n+m⟩ S') :
 WP (appM e w bt a n n m xs) S Q:=by
 have h2:=h.size
 have hsz2:n+m<=9223372036854775807:=by
  have:=Nat.mul_le_mul_left (n+m) hbt
  omega
 unfold appM
 rw [if_neg (by omega),if_pos ⟨hsz,hsz2⟩]
 rcases h.own with ⟨rfl,h3⟩ | ⟨b,rfl,hb⟩
 ·subst h3
  dsimp only
  rw [if_pos rfl]
  refine ⟨_,_,rfl,q _ _ ?_⟩
  have hc:cs=[]:=List.eq_nil_of_length_eq_zero (by rw [h2]; simp)
  subst hc
  refine ⟨by simp;have:=h.len;omega,λ i hi hne=>?_,.inr ⟨_,rfl,h.len⟩,by simp [hm],.inr ⟨_,rfl,by simp⟩,h.was⟩
  rw [List.getElem?_append_left (Nat.lt_of_lt_of_le hi h.len)]; exact h.keep i hi hne
 ·dsimp only
  rw [wp_bind]
  refine wp_rdN hb rfl (by simp [h2]) ?_
  have e1:((cs.drop 0).take (n*w))=cs:=by rw [List.drop_zero,<- h2,List.take_length]
  dsimp only
  rw [e1]
  refine ⟨_,_,by dsimp only;rw [hb]; dsimp only;rw [if_pos ⟨rfl,rfl,rfl,hlf⟩],?_⟩
  refine q _ _ ⟨by simp;have:=h.len;omega,λ i hi hne=>?_,.inr ⟨_,rfl,h.len⟩,by rw [List.length_append,h2,hm,Nat.add_mul],.inr ⟨_,rfl,by simp⟩,h.was⟩
  rw [List.getElem?_append_left (by simp;exact Nat.lt_of_lt_of_le hi h.len),List.getElem?_set_ne ?_]
  ·exact h.keep i hi hne
  ·rintro rfl
   rcases h.at_ with h4 | ⟨c,h4,h5⟩
   ·exact hne h4.symm
   ·cases h4;omega
theorem wp_push (h:Ap S0 a0 S a n e w cs) {bt:Nat} {x:List Value} {t:TypeId} {Q:Sl->St->Prop}
 (hx:x.length=w) (hsz:(n+1)*bt<=140737488355328) (hbt:1<=bt) (hlf:x.all leafV=true)
 (q:∀ b S',Ap S0 a0 S' (some ⟨b,0,none⟩) (n+1) e w (cs++x)->Q ⟨some ⟨b,0,none⟩,n+1,n+1⟩ S') :
 WP (rdN (some ⟨S.length,0,none⟩) w) (S++[.cells x t none]) λ xs S1=>WP (appM e w bt a n n 1 xs) S1 Q:=by
 refine wp_rdN get_new rfl (by simp [hx]) ?_
 have e1:(x.drop 0).take w=x:=by rw [List.drop_zero,<- hx,List.take_length]
 rw [e1]
 exact wp_app (h.more (List.prefix_append _ _)) (by simp [hx]) (by omega) hsz hbt hlf q
end
theorem wp_app_in {S:St} {b n c:Nat} {e w bt:Nat} {cs:List Value} {t:TypeId} {g:Option Nat} (hb:S[b]? = some (.cells cs t g)) {m:Nat} {xs:List Value} {Q:Sl->St->Prop}
 (hc:n+m<=c) (hl:n*w+xs.length<=cs.length) (hlf:xs.all leafV=true) (q:Q ⟨some ⟨b,0,none⟩,n+m,c⟩ (S.set b (.cells (splice cs (n*w) xs) t g))) :
 WP (appM e w bt (some ⟨b,0,none⟩) n c m xs) S Q:=by
 unfold appM
 rw [if_pos hc]
 simp only [add_off,wp_bind,wp_stL,wp_ret]
 exact ⟨cs,t,g,hb,⟨by simp,by simpa using hl,hlf⟩,by simpa using q⟩
theorem gcz {α:Type} {a:α} {l:List α}:(a :: l)[0]? = some a:=rfl
theorem gcs {α:Type} {a:α} {l:List α} {i:Nat}:(a :: l)[i+1]? = l[i]?:=List.getElem?_cons_succ
end Go.AM
namespace Go.AM
open Go
variable {α β γ ρ:Type}
theorem lookD_cons {q:Nat} {g:List Value->M Value} {l:List (Nat×(List Value->M Value))} {C:FuncId->List Value->M Value} {p:FuncId} {args:List Value} :
 lookD ((q,g) :: l) C p args=bif (q == p:Bool) then g args else lookD l C p args:=by
 simp only [lookD]
 cases h:Nat.beq q p with
 | true => have := Nat.eq_of_beq_eq_true h; subst this; simp
 | false =>
   have : (q == p)=false:=by
    cases h2:(q == p) with
    | false=>rfl
    | true=>have:=eq_of_beq h2;subst this;rw [Nat.beq_refl] at h;cases h
   rw [this]; rfl
theorem wp_chk {m:M Value} {v:Value} {S:St} {Q:Unit->St->Prop}:WP (chk m v) S Q↔WP m S (λ a S'=>a=v/\S'=S)/\Q () S:=by
 constructor
 ·rintro ⟨u,S',h,q⟩
  unfold chk at h
  split at h
  ·rename_i h1;cases h;exact ⟨⟨_,_,h1,rfl,rfl⟩,q⟩
  ·cases h
 ·rintro ⟨⟨a,S',h1,rfl,rfl⟩,q⟩
  exact ⟨(),_,by unfold chk;rw [if_pos h1],q⟩
theorem wps :
 (∀ (α:Type) (a:α) (S:St) (Q:α->St->Prop),WP (M.ret a) S Q=Q a S) /\
 (∀ (i:Nat) (l:List Value) (S:St) (Q:Nat×List Value->St->Prop),WP (retQ i l) S Q=Q (i,l) S) /\
 (∀ (α β:Type) (m:M α) (k:α->M β) (S:St) (Q:β->St->Prop),WP (M.bind m k) S Q=WP m S λ a S'=>WP (k a) S' Q) /\
 (∀ (α:Type) (c:Prop) [Decidable c] (m:M α) (S:St) (Q:α->St->Prop),WP (guardM c m) S Q=(c/\WP m S Q)) /\
 (∀ (α:Type) (b:Bool) (m n:M α) (S:St) (Q:α->St->Prop),WP (cond b m n) S Q=((b=true->WP m S Q)/\(b=false->WP n S Q))) /\
 (∀ (k:IntKind) (n:Int) (S:St) (Q:Int->St->Prop),WP (asI k (.int k n)) S Q=Q n S) /\
 (∀ (b:Bool) (S:St) (Q:Bool->St->Prop),WP (asB (.bool b)) S Q=Q b S) /\
 (∀ (a:Option Addr) (n c:Nat) (S:St) (Q:Sl->St->Prop),WP (asS (.slice a n c)) S Q=Q ⟨a,n,c⟩ S) /\
 (∀ (a:Option Addr) (S:St) (Q:Option Addr->St->Prop),WP (asP (.pointer a)) S Q=Q a S) /\
 (∀ (a:Option Nat) (S:St) (Q:Option Nat->St->Prop),WP (asM (.map a)) S Q=Q a S) /\
 (∀ (l:List Value) (S:St) (Q:List Value->St->Prop),WP (asA (.agg ⟨l⟩)) S Q=Q l S) /\
 (∀ (l:List Value) (S:St) (Q:List Value->St->Prop),WP (asT (.tuple ⟨l⟩)) S Q=Q l S) /\
 (∀ (t:TypeId) (v:Value) (S:St) (Q:TypeId×Value->St->Prop),WP (asF (.iface t v)) S Q=Q (t,v) S) /\
 (∀ (α ρ:Type) (a:α) (K:α->M ρ) (S:St) (Q:ρ->St->Prop),WP (onOpt (some a) K) S Q=WP (K a) S Q) /\
 (∀ (o:AObj) (S:St) (Q:Nat->St->Prop),WP (newB o) S Q=Q S.length (S++[o])) /\
 (∀ (a:Addr) (S:St) (Q:Value->St->Prop),WP (ld a) S Q = ∃ v,S.cell a=some v/\Q v S) /\
 (∀ (a:Addr) (vs:List Value) (S:St) (Q:Unit->St->Prop),WP (stL a vs) S Q =
   ∃ c e g,S[a.block]? = some (.cells c e g)/\(a.spot=none/\a.off+vs.length<=c.length/\vs.all leafV=true)/\Q () (S.set a.block (.cells (splice c a.off vs) e g))) /\
 (∀ (i:Nat) (v:Value) (S:St) (Q:Value->St->Prop),WP (oneV (i,[v])) S Q=Q v S) /\
 (∀ (ρ:Type) (m:M ρ) (i:Nat),pickM [m] i=m) /\
 (∀ (ρ:Type) (m:M ρ) (l:List (M ρ)),pickM (m :: l) 0=m) /\
 (∀ (ρ:Type) (m m':M ρ) (l:List (M ρ)) (i:Nat),pickM (m :: m' :: l) (i+1)=pickM (m' :: l) i) /\
 (∀ (ρ:Type) (m m':M ρ) (l:List (M ρ)),pickM (m :: m' :: l) 1=pickM (m' :: l) 0) /\
 (∀ (ρ:Type) (m m':M ρ) (l:List (M ρ)),pickM (m :: m' :: l) 2=pickM (m' :: l) 1) /\
 (∀ (ρ:Type) (m m':M ρ) (l:List (M ρ)),pickM (m :: m' :: l) 3=pickM (m' :: l) 2) /\
 (∀ (x y:Nat) (l:List Value),(x,l).1=x/\(x,l).2=l) /\
 (∀ (a d:Value) (l:List Value),(a :: l).headD d=a) /\
 (∀ (a:Value) (l:List Value),(a :: l).tail=l) /\
 (∀ (a:Value) (l:List Value),(a :: l).length=l.length+1) /\
 (([]:List Value).length=0) /\
 (∀ (p:Prop),(True/\p)=p)/\(∀ (p:Prop),(p/\True)=p)/\(∀ (p:Prop),(False->p)=True)/\(∀ (p:Prop),(True->p)=p)/\(∀ (p:Prop),(p->True)=True)/\((¬ True)=False)/\((¬ False)=True) /\
 (∀ (p:Prop) [Decidable p],(decide p=true)=p)/\(∀ (p:Prop) [Decidable p],(decide p=false) = ¬ p) /\
 (∀ b:Bool,((!b)=true)=(b=false))/\(∀ b:Bool,((!b)=false)=(b=true))/\((true=false)=False)/\((false=true)=False) /\
 (∀ a b:Int,((a == b)=true)=(a=b))/\(∀ a b:Int,((a == b)=false)=(a≠b))/\(∀ a b:Int,((a != b)=true)=(a≠b))/\(∀ a b:Int,((a != b)=false)=(a=b)) /\
 (∀ (x:Value) (p:Value->Prop),(∃ v,some x=some v/\p v)=p x) /\
 (∀ (c0:List Value) (e0:TypeId) (g0:Option Nat) (p:List Value->TypeId->Option Nat->Prop),(∃ c e g,some (AObj.cells c0 e0 g0)=some (AObj.cells c e g)/\p c e g)=p c0 e0 g0) /\
 (∀ (α:Type) (a:α),((a=a)=True)) /\
 (∀ n:Nat,((n:Int)).toNat=n)/\(∀ n:Nat,(n+1-1)=n)/\(∀ (a:Addr),a.add 0=a) /\
 (∀ b o n:Nat,(⟨b,o,none⟩:Addr).add n=⟨b,o+n,none⟩) /\
 (∀ (S:St) (c:List Value) (e:TypeId) (g:Option Nat) (o:Nat),St.cell (S++[.cells c e g]) ⟨S.length,o,none⟩=c[o]?) /\
 (∀ (S:St) (o:AObj),(S++[o])[S.length]? = some o) /\
 (∀ (S:St) (o x:AObj),(S++[o]).set S.length x=S++[x]) /\
 (∀ n:Nat,n*1=n)/\(∀ n:Nat,0+n=n)/\(∀ n:Nat,n+0=n)/\(∀ n:Nat,(0<=(n:Int))=True) /\
 (∀ n:Nat,((0:Nat)=n+1)=False)/\(∀ n:Nat,(n+1=(0:Nat))=False)/\(∀ m n:Nat,(m+1=n+1)=(m=n)) /\
 (∀ (a:Value) (l:List Value),(a :: l)[0]? = some a)/\(∀ (a b:Value) (l:List Value),(a :: b :: l)[1]? = some b)/\(∀ (a b c:Value) (l:List Value),(a :: b :: c :: l)[2]? = some c) /\
 (∀ (a b c d:Value) (l:List Value),(a :: b :: c :: d :: l)[3]? = some d)/\(∀ (a b c d e:Value) (l:List Value),(a :: b :: c :: d :: e :: l)[4]? = some e) /\
 (∀ (a b c d e f:Value) (l:List Value),(a :: b :: c :: d :: e :: f :: l)[5]? = some f)/\(∀ (a b c d e f g:Value) (l:List Value),(a :: b :: c :: d :: e :: f :: g :: l)[6]? = some g) /\
 (∀ (a b c d e f g h:Value) (l:List Value),(a :: b :: c :: d :: e :: f :: g :: h :: l)[7]? = some h) /\
 (∀ (c vs:List Value),splice c 0 vs=vs++c.drop vs.length)/\(∀ (a:Value) (l:List Value) (n:Nat),(a :: l).drop (n+1)=l.drop n)/\(∀ (l:List Value),l.drop 0=l) /\
 (∀ (n:Nat),([]:List Value).drop n=[])/\(∀ (l:List Value),l++[]=l)/\(∀ (a:Value) (l m:List Value),(a :: l)++m=a :: (l++m))/\(∀ (l:List Value),[]++l=l) /\
 (∀ (k:IntKind) (n:Int) (l:List Value),(Value.int k n :: l).all leafV=l.all leafV)/\(∀ (b:Bool) (l:List Value),(Value.bool b :: l).all leafV=l.all leafV) /\
 (∀ (a:Option Addr) (n c:Nat) (l:List Value),(Value.slice a n c :: l).all leafV=l.all leafV)/\(∀ (a:Option Addr) (l:List Value),(Value.pointer a :: l).all leafV=l.all leafV) /\
 (∀ (a:Option Nat) (l:List Value),(Value.map a :: l).all leafV=l.all leafV)/\(∀ (fn:Fn) (f c:Array Value) (l:List Value),(Value.func fn f c :: l).all leafV=l.all leafV)/\(([]:List Value).all leafV=true)/\(∀ n:Nat,(n<=n)=True)/\(∀ a:Int,(a≠a)=False)/\(∀ (m:M Value) (v:Value) (S:St) (Q:Unit->St->Prop),WP (chk m v) S Q=(WP m S (λ a S'=>a=v/\S'=S)/\Q () S)) /\
 (∀ (a:Value) (l vs:List Value),splice (a :: l) 1 vs=a :: splice l 0 vs)/\(∀ (a:Value) (l vs:List Value),splice (a :: l) 2 vs=a :: splice l 1 vs)/\(∀ (a:Value) (l vs:List Value),splice (a :: l) 3 vs=a :: splice l 2 vs)/\(∀ (a:Value) (l vs:List Value),splice (a :: l) 4 vs=a :: splice l 3 vs)/\(∀ (a:Value) (l vs:List Value),splice (a :: l) 5 vs=a :: splice l 4 vs)/\(∀ (a:Value) (l vs:List Value),splice (a :: l) 6 vs=a :: splice l 5 vs)/\(∀ (a:Value) (l vs:List Value),splice (a :: l) 7 vs=a :: splice l 6 vs) /\
 (∀ (a:Value) (l:List Value),(a :: l).take 1=a :: l.take 0)/\(∀ (a:Value) (l:List Value),(a :: l).take 2=a :: l.take 1)/\(∀ (a:Value) (l:List Value),(a :: l).take 3=a :: l.take 2)/\(∀ (a:Value) (l:List Value),(a :: l).take 4=a :: l.take 3)/\(∀ (a:Value) (l:List Value),(a :: l).take 5=a :: l.take 4)/\(∀ (a:Value) (l:List Value),(a :: l).take 6=a :: l.take 5)/\(∀ (a:Value) (l:List Value),(a :: l).take 7=a :: l.take 6)/\(∀ (a:Value) (l:List Value),(a :: l).take 8=a :: l.take 7)/\(∀ (l:List Value),l.take 0=[]) /\
 (∀ (a:Value) (l:List Value),(a :: l).drop 1=l.drop 0)/\(∀ (a:Value) (l:List Value),(a :: l).drop 2=l.drop 1)/\(∀ (a:Value) (l:List Value),(a :: l).drop 3=l.drop 2)/\(∀ (a:Value) (l:List Value),(a :: l).drop 4=l.drop 3)/\(∀ (a:Value) (l:List Value),(a :: l).drop 5=l.drop 4)/\(∀ (a:Value) (l:List Value),(a :: l).drop 6=l.drop 5)/\(∀ (a:Value) (l:List Value),(a :: l).drop 7=l.drop 6)/\(∀ (a:Value) (l:List Value),(a :: l).drop 8=l.drop 7)/\(∀ (a:Value) (l:List Value),(a :: l).drop 9=l.drop 8)/\(∀ (a:Value) (l:List Value),(a :: l).drop 10=l.drop 9)/\(∀ (a:Value) (l:List Value),(a :: l).drop 11=l.drop 10)/\(∀ (a:Value) (l:List Value),(a :: l).drop 12=l.drop 11) /\
 (Int.toNat 0=0)/\(Int.toNat 1=1)/\(Int.toNat 2=2)/\(Int.toNat 3=3) /\
 (∀ (C:FuncId->List Value->M Value) (k:FuncId) (f c args:List Value),callV C (.func (.func k) ⟨f⟩ ⟨c⟩) args=C k (f++args++c)) /\
 (∀ (C:FuncId->List Value->M Value) (p:FuncId) (args:List Value),lookD [] C p args=C p args) /\
 (∀ (q:Nat) (g:List Value->M Value) (l:List (Nat×(List Value->M Value))) (C:FuncId->List Value->M Value) (p:FuncId) (args:List Value),lookD ((q,g) :: l) C p args=bif (q == p:Bool) then g args else lookD l C p args) /\
 (∀ (m n:M Value),(bif true then m else n)=m)/\(∀ (m n:M Value),(bif false then m else n)=n) /\
 (∀ (a:Addr) (n:Int) (w:Nat),ax a n w=a.add (n.toNat*w)) /\
 (∀ b o:Nat,(⟨b,o,none⟩:Addr).block=b/\(⟨b,o,none⟩:Addr).off=o/\(⟨b,o,none⟩:Addr).spot=none):=by
 repeat' apply And.intro
 all_goals intros
 all_goals try (simp;done)
 all_goals first
  | exact propext wp_ret
  | exact propext wp_bind
  | exact propext wp_cond
  | exact propext wp_ld
  | exact propext wp_chk
  | exact lookD_cons
  | rfl
  | exact propext wp_stL
  | exact add_zero_ _
  | (simp [and_assoc]; done)
  | (simp [splice]; done)
  | (simp [splice,Nat.add_right_comm,Nat.add_comm]; done)
  | (rename_i vs;unfold splice;rw [show ∀ k,(k+1)+vs.length=(k+vs.length)+1 from λ k=>by omega]; rfl)
  | (rename_i a l vs;unfold splice;simp [show ∀ k j:Nat,(k+1)+j=(k+j)+1 from λ k j=>by omega]; done)
  | (simp [leafV]; done)
  | skip
theorem wI_ {n:Int} (h:-9223372036854775808<=n) (h2:n < 9223372036854775808):wI n=n:=wrap_i64 n h h2
theorem wU_ {n:Int} (h:0<=n) (h2:n < 18446744073709551616):wU n=n:=wrap_u64' n h h2
def Gv (m:M α) (S:St) (v:α):Prop:=m S=some (v,S)
theorem Gv.wp {m:M α} {S:St} {v:α} (h:Gv m S v) (Q:α->St->Prop):WP m S Q=Q v S:=
 propext ⟨λ ⟨_,_,h1,q⟩=>by rw [h] at h1;cases h1;exact q,λ q=>⟨_,_,h,q⟩⟩
theorem Gv.of {m:M α} {S:St} {v:α} (h:WP m S λ a S'=>a=v/\S'=S):Gv m S v:=by
 obtain ⟨a,S',h1,rfl,rfl⟩:=h
 exact h1
theorem arI_blk {S:St} {b:Nat} {l:List Int} {t:TypeId} {g:Option Nat} (hb:S[b]? = some (.cells (l.map (.int .i64)) t g)):Ar S (some ⟨b,0,none⟩) l.length 1 eI l:=
 Ar.blk hb (λ _ _=>rfl) (by rw [List.map_eq_flatMap]; rfl)
theorem arU_blk {S:St} {b:Nat} {l:List Int} {t:TypeId} {g:Option Nat} (hb:S[b]? = some (.cells (l.map (.int .u64)) t g)):Ar S (some ⟨b,0,none⟩) l.length 1 eU l:=
 Ar.blk hb (λ _ _=>rfl) (by rw [List.map_eq_flatMap]; rfl)
theorem wp_eq {m:M α} {x:α} (h:∀ S,WP m S λ v S'=>v=x/\S'=S):m=M.ret x:=by
 funext S
 obtain ⟨a,S',h1,rfl,rfl⟩:=h S
 exact h1
end Go.AM
namespace Go.AM
open Go
structure Ax where
 N:Int
 neg:Bool
 deriving DecidableEq
structure Sg where
 R:Int
 L:Int
 M:Int
 deriving DecidableEq
structure Stp where
 ax:Int
 tw:Bool
 st:Sg
 deriving DecidableEq
def dimsOf (l:List Ax):List Int:=l.map (·.N)
def allGo:Int->List Int->Int×Int
 | n, [] => (n, 0)
 | n, d :: r => if d < 1 \/ 4096 < d \/ 4096 < n * d then (0, 3) else allGo (n * d) r
def allV (l:List Int):Int×Int:=if l.length < 1\/4 < l.length then (0,3) else allGo 1 l
def nV (l:List Ax):Int:=(allV (dimsOf l)).1
def powM (p a:Int) (n:Nat):Int:=if known p=true then a ^ n % p else 0
theorem powM_range (p a:Int) (n:Nat):0<=powM p a n/\powM p a n < 18446744073709551616:=by
 unfold powM
 cases hk:known p with
 | false => simp
 | true =>
   have hp:=known_pos hk
   rw [if_pos rfl]
   exact ⟨Int.emod_nonneg _ (by omega),by have:=Int.emod_lt_of_pos (a ^ n) (b:=p) (by omega); omega⟩
theorem mulF_powM (p a:Int) (m n:Nat):mulF p (powM p a m) (powM p a n)=powM p a (m+n):=by
 unfold mulF powM
 cases hk:known p with
 | false => simp
 | true => simp only [if_true]; rw [<- Int.mul_emod, <- Int.pow_add]
theorem mulF_powM1 (p a:Int) (m:Nat):mulF p (powM p a m) a=powM p a (m+1):=by
 unfold mulF powM
 cases hk:known p with
 | false => simp
 | true => simp only [if_true]; rw [Int.pow_succ, Int.mul_emod, Int.emod_emod_of_dvd _ (Int.dvd_refl p), <- Int.mul_emod]
theorem mulF_range (p a b:Int):0<=mulF p a b/\mulF p a b < 18446744073709551616:=by
 unfold mulF
 cases hk:known p with
 | false => simp
 | true =>
   have hp:=known_pos hk
   rw [if_pos rfl]
   exact ⟨Int.emod_nonneg _ (by omega),by have:=Int.emod_lt_of_pos (a*b) (b:=p) (by omega); omega⟩
theorem genF_range (p:Int):0<=genF p/\genF p < 18446744073709551616:=by
 unfold genF;split
 ·omega
 ·split
  ·omega
  ·split <;> omega
def readyV (p n:Int):Int:=if known p=true then (if n < 1\/8192 < n then 1 else 0) else 2
def rootV (p n:Int):Int×Int:=if readyV p n=0 then (if (p-1) % n > 0 then (0,5) else (powM p (genF p) ((p-1) / n).toNat,0)) else (0,readyV p n)
def invV (p a:Int):Int×Int:=if known p=true then (if red p a=0 then (0,9) else (powM p a (p-2).toNat,0)) else (0,2)
def backV (p n:Int):Int×Int:=if (rootV p n).2=0 then invV p (rootV p n).1 else (0,(rootV p n).2)
theorem rootV_range (p n:Int):0<=(rootV p n).1/\(rootV p n).1 < 18446744073709551616:=by
 unfold rootV
 split
 ·split
  ·simp
  ·exact powM_range _ _ _
 ·simp
theorem invV_range (p n:Int):0<=(invV p n).1/\(invV p n).1 < 18446744073709551616:=by
 unfold invV
 split
 ·split
  ·simp
  ·exact powM_range _ _ _
 ·simp
theorem bitLenAux_le:∀ (f x:Nat),x < 2 ^ f->x < 2 ^ Lib.bitLenAux f x/\Lib.bitLenAux f x<=f
 | 0, x, h => by simpa [Lib.bitLenAux] using h
 | f + 1, x, h => by
   unfold Lib.bitLenAux
   by_cases h0:x=0
   ·rw [if_pos h0]; subst h0;simp
   ·rw [if_neg h0]
    obtain ⟨h1,h2⟩:=bitLenAux_le f (x / 2) (by rw [Nat.pow_succ] at h;omega)
    refine ⟨?_,by omega⟩
    rw [Nat.add_comm,Nat.pow_succ]; omega
def radV (n:Int):List Int×Int:=if 1<=n/\n<=4096 then radR n.toNat else ([],4)
def smoothV (n:Int):Bool:=(radV n).2 == 0
def ordW (a:Ax):Int:=if a.neg=true then IntKind.i64.wrap (a.N*2) else a.N
def gGo (p:Int):Int->List Ax->Int
 | e, [] => e
 | e, a :: r => if smoothV a.N = true then gGo p (if (rootV p (ordW a)).2 = 0 then e else 5) r else 4
def gridV (p:Int) (l:List Ax):Int:=if known p=true then (if (allV (dimsOf l)).2=0 then gGo p 0 l else 3) else 2
def stGo (n:Int):Int->List Int->List Sg
 | _, [] => []
 | a, r :: l => ⟨r, a, n / a / r⟩ :: stGo n (a * r) l
def stagesV (n:Int):List Sg×Int:=if (radV n).2=0 then (stGo n 1 (radV n).1,0) else ([],(radV n).2)
def axAt (l:List Ax) (k:Int):Ax:=l.getD k.toNat ⟨0,false⟩
def stepV (p:Int) (l:List Ax) (s:Stp):Int:=
 if gridV p l=0 then (if 0<=s.ax/\s.ax < l.length then
  (if s.tw=true then (if s.st=⟨0,0,0⟩ then 0 else 1)
   else if (stagesV (axAt l s.ax).N).2=0 then (if s.st∈(stagesV (axAt l s.ax).N).1 then 0 else 1) else (stagesV (axAt l s.ax).N).2)
  else 1) else gridV p l
def tw (k:Int):Stp:=⟨k,true,⟨0,0,0⟩⟩
def stg (k:Int) (s:Sg):Stp:=⟨k,false,s⟩
def stepsGo (inv:Bool):Int->List Ax->List Stp
 | _, [] => []
 | k, a :: l => ((if a.neg = true /\ inv = false then [tw k] else []) ++ (stagesV a.N).1.map (stg k) ++ (if inv = true then [tw k] else [])) ++ stepsGo inv (k + 1) l
def stepsV (p:Int) (l:List Ax) (inv:Bool):List Stp×Int:=if gridV p l=0 then (stepsGo inv 0 l,0) else ([],gridV p l)
def powsV (p a:Int) (m:Nat):List Int:=(List.range m).map λ i=>powM p a i
def powersV (p a many:Int):List Int×Int:=if known p=true then (if many < 0\/65536 < many then ([],1) else (powsV p a many.toNat,0)) else ([],2)
def baseV (p:Int) (a:Ax) (inv:Bool) (s:Stp):Int×Int:=
 if s.tw=true/\a.neg=false then (1,0) else
 let o:=if s.tw=true then IntKind.i64.wrap (2*a.N) else IntKind.i64.wrap (s.st.R*s.st.M)
 if inv=true then backV p o else rootV p o
theorem radL_facts_:∀ a,a < 65->∀ b,b < 64->1<=64*a+b->(radL (64*a+b)).all (λ r=>decide (2<=r/\r<=4160))=true/\(radL (64*a+b)).foldr (· * ·) 1=64*a+b:=by decide +kernel
theorem radL_facts (n:Nat) (h:n < 4097) (h1:1<=n):(radL n).all (λ r=>decide (2<=r/\r<=4160))=true/\(radL n).foldr (· * ·) 1=n/\(radL n).length<=4096:=by
 have:=radL_facts_ (n / 64) (by omega) (n % 64) (by omega) (by omega)
 rw [Nat.div_add_mod] at this
 exact ⟨this.1,this.2,(ctz_facts n h h1).2.2⟩
theorem foldr_cast:∀ l:List Nat,((l.map λ x:Nat=>(x:Int)).foldr (· * ·) 1)=((l.foldr (· * ·) 1:Nat):Int)
 | [] => rfl
 | x :: l => by simp [foldr_cast l]
theorem radV_facts {n:Int} (h:(radV n).2=0):1<=n/\n<=4096/\(∀ r∈(radV n).1,2<=r/\r<=5)/\(radV n).1.foldr (· * ·) 1=n/\(radV n).1.length<=4096:=by
 unfold radV at h ⊢
 by_cases c:1<=n/\n<=4096
 ·rw [if_pos c] at h ⊢
  obtain ⟨m,rfl⟩:=Int.eq_ofNat_of_zero_le (show 0<=n by omega)
  rw [Int.toNat_natCast] at h ⊢
  unfold radR at h ⊢
  obtain ⟨f1,f2,f3⟩:=radL_facts m (by omega) (by omega)
  split at h
  ·rename_i hg
   rw [if_pos hg]
   refine ⟨c.1,c.2,λ r hr=>?_,by rw [foldr_cast,f2],by simpa using f3⟩
   obtain ⟨x,hx,rfl⟩:=List.mem_map.1 hr
   have g1:=of_decide_eq_true (List.all_eq_true.1 f1 x hx)
   have g2:=of_decide_eq_true (List.all_eq_true.1 hg x hx)
   omega
  ·simp at h
 ·rw [if_neg c] at h;simp at h
theorem gGo_five (p:Int):∀ l:List Ax,gGo p 5 l≠0
 | [] => by unfold gGo; decide
 | a :: r => by
   unfold gGo
   split
   ·split <;> exact gGo_five p r
   ·decide
theorem gGo_ok (p:Int):∀ l:List Ax,gGo p 0 l=0->∀ a∈l,smoothV a.N=true/\(rootV p (ordW a)).2=0
 | [], _, a, ha => by simp at ha
 | x :: r, h, a, ha => by
   unfold gGo at h
   split at h
   ·rename_i h1
    split at h
    ·rename_i h2
     rcases List.mem_cons.1 ha with rfl | ha
     ·exact ⟨h1,h2⟩
     ·exact gGo_ok p r h a ha
    ·exact absurd h (gGo_five p r)
   ·simp at h
theorem grid_ok {p:Int} {l:List Ax} (h:gridV p l=0):known p=true/\(allV (dimsOf l)).2=0/\∀ a∈l,(radV a.N).2=0/\(rootV p (ordW a)).2=0:=by
 unfold gridV at h
 split at h
 ·rename_i hk
  split at h
  ·rename_i ha
   refine ⟨hk,ha,λ a hm=>?_⟩
   obtain ⟨h1,h2⟩:=gGo_ok p l h a hm
   exact ⟨by unfold smoothV at h1;exact beq_iff_eq.1 h1,h2⟩
  ·simp at h
 ·simp at h
theorem ready_ok {p n:Int} (h:readyV p n=0):known p=true/\1<=n/\n<=8192:=by
 unfold readyV at h
 split at h
 ·split at h
  ·simp at h
  ·exact ⟨‹_›,by omega,by omega⟩
 ·simp at h
theorem root_ok {p n:Int} (h:(rootV p n).2=0):known p=true/\1<=n/\n<=8192/\(p-1) % n=0/\rootV p n=(powM p (genF p) ((p-1) / n).toNat,0):=by
 unfold rootV at h ⊢
 split at h
 ·rename_i hr
  obtain ⟨h1,h2,h3⟩:=ready_ok hr
  split at h
  ·simp at h
  ·rename_i h4
   have hn:=Int.emod_nonneg (p-1) (show n≠0 by omega)
   exact ⟨h1,h2,h3,by omega,by rw [if_pos hr,if_neg h4]⟩
 ·rename_i hr;exact absurd h hr
theorem root_mk {p n:Int} (hk:known p=true) (h1:1<=n) (h2:n<=8192) (h3:(p-1) % n=0):(rootV p n).2=0:=by
 have hr:readyV p n=0:=by unfold readyV;rw [if_pos hk,if_neg (by omega)]
 unfold rootV
 rw [if_pos hr,if_neg (by omega)]
theorem root_dvd {p n m:Int} (h:(rootV p n).2=0) (hm:1<=m) (hd:m ∣ n):(rootV p m).2=0:=by
 obtain ⟨hk,h1,h2,h3,_⟩:=root_ok h
 have : m<=n:=Int.le_of_dvd (by omega) hd
 exact root_mk hk hm (by omega) (Int.emod_eq_zero_of_dvd (Int.dvd_trans hd (Int.dvd_of_emod_eq_zero h3)))
def ginv (p:Int):Int:=if p=P0 then 2635249152773512046 else if p=P1 then 332748118 else 64944062
theorem pow_one_mod {p x:Int} (hp:1 % p=1) (h:x % p=1):∀ e:Nat,x ^ e % p=1
 | 0 => by rw [Int.pow_zero]; exact hp
 | e + 1 => by rw [Int.pow_succ, Int.mul_emod, pow_one_mod hp h e, h, Int.one_mul]; exact hp
theorem gen_pow {p:Int} (hk:known p=true) (e:Nat):powM p (genF p) e≠0:=by
 have h1:1 % p=1:=by rcases known_cases hk with rfl | rfl | rfl <;> decide
 have h2:genF p*ginv p % p=1:=by rcases known_cases hk with rfl | rfl | rfl <;> decide
 intro h
 unfold powM at h
 rw [if_pos hk] at h
 have h3:=pow_one_mod h1 h2 e
 rw [Int.mul_pow,Int.mul_emod,h,Int.zero_mul,Int.zero_emod] at h3
 omega
theorem red_powM {p:Int} (hk:known p=true) (a:Int) (n:Nat):red p (powM p a n)=powM p a n:=by
 unfold red powM;rw [if_pos hk,if_pos hk,Int.emod_emod_of_dvd _ (Int.dvd_refl p)]
def inU (x:Int):Prop:=0<=x/\x < 18446744073709551616
theorem inv_ok {p a:Int} (hk:known p=true) (h:red p a≠0):(invV p a).2=0/\inU (invV p a).1:=by
 unfold invV;rw [if_pos hk,if_neg h]; exact ⟨rfl,powM_range _ _ _⟩
theorem back_ok {p n:Int} (h:(rootV p n).2=0):(backV p n).2=0/\inU (backV p n).1:=by
 obtain ⟨hk,h1,h2,h3,h4⟩:=root_ok h
 unfold backV
 rw [if_pos h]
 refine inv_ok hk ?_
 rw [h4]
 show red p (powM p _ _)≠0
 rw [red_powM hk]
 exact gen_pow hk _
theorem stGo_ok (n:Int):∀ (rs:List Int) (a:Int),1<=a->(∀ r∈rs,1<=r)->n=a*rs.foldr (· * ·) 1->∀ s∈stGo n a rs,s.R∈rs/\1<=s.L/\1<=s.M/\n=s.L*(s.R*s.M)
 | [], _, _, _, _, s, h => by simp [stGo] at h
 | r :: l, a, ha, hr, hn, s, h => by
   have hr0:=hr r List.mem_cons_self
   rw [List.foldr_cons] at hn
   have hpos:∀ l:List Int,(∀ r∈l,1<=r)->1<=l.foldr (· * ·) 1:=by
    intro l
    induction l with
    | nil=>intro _;simp
    | cons x l ih=>
      intro hx
      have h3:=ih (λ r hr=>hx r (List.mem_cons_of_mem _ hr))
      have h4:=hx x List.mem_cons_self
      rw [List.foldr_cons]
      have:=Int.mul_le_mul h4 h3 (by omega) (by omega)
      omega
   unfold stGo at h
   rcases List.mem_cons.1 h with rfl | h
   ·have e:n / a / r=l.foldr (· * ·) 1:=by
     rw [hn,Int.mul_ediv_cancel_left _ (by omega),Int.mul_ediv_cancel_left _ (by omega)]
    refine ⟨List.mem_cons_self,ha,?_,?_⟩
    ·show 1<=n / a / r;rw [e]; exact hpos l (λ r hr'=>hr r (List.mem_cons_of_mem _ hr'))
    ·show n=a*(r*(n / a / r)); rw [e]; exact hn
   ·obtain ⟨g1,g2⟩:=stGo_ok n l (a*r) (by have:=Int.mul_le_mul ha hr0 (by omega) (by omega); omega) (λ r hr'=>hr r (List.mem_cons_of_mem _ hr')) (by rw [hn,Int.mul_assoc]) s h
    exact ⟨List.mem_cons_of_mem _ g1,g2⟩
theorem stages_ok {n:Int} (h:(stagesV n).2=0) {s:Sg} (hs:s∈(stagesV n).1):2<=s.R/\s.R<=5/\1<=s.L/\1<=s.M/\n=s.L*(s.R*s.M)/\n<=4096:=by
 unfold stagesV at h hs
 by_cases c:(radV n).2=0
 ·rw [if_pos c] at hs
  obtain ⟨h1,h2,h3,h4,h5⟩:=radV_facts c
  obtain ⟨g1,g2,g3,g4⟩:=stGo_ok n (radV n).1 1 (by omega) (λ r hr=>by have:=(h3 r hr).1;omega) (by rw [h4,Int.one_mul]) s hs
  exact ⟨(h3 _ g1).1,(h3 _ g1).2,g2,g3,g4,h2⟩
 ·rw [if_neg c] at hs;simp at hs
theorem prod_bound {n a b:Int} (ha:1<=a) (hb:1<=b) (h:n=a*b) (hn:n<=4096):b<=4096:=by
 have : 1*b<=a*b:=Int.mul_le_mul_of_nonneg_right ha (by omega)
 omega
theorem stages_facts {n:Int} (h:(radV n).2=0):(stagesV n).2=0/\(stagesV n).1.length<=4096:=by
 have key:∀ (l:List Int) (a:Int),(stGo n a l).length=l.length:=by
  intro l
  induction l with
  | nil=>intro a;rfl
  | cons r l ih=>intro a;simp [stGo,ih]
 unfold stagesV
 rw [if_pos h]
 exact ⟨rfl,by rw [key]; exact (radV_facts h).2.2.2.2⟩
def IsStep (l:List Ax) (s:Stp):Prop:=∃ k:Nat,∃ h:k < l.length,s.ax=(k:Int)/\(s.tw=true/\s.st=⟨0,0,0⟩\/s.tw=false/\s.st∈(stagesV l[k].N).1)
theorem axAt_nat (l:List Ax) (k:Nat) (h:k < l.length):axAt l (k:Int)=l[k]:=by simp [axAt,h]
theorem stepV_ok (p:Int) (l:List Ax) (s:Stp) (hg:gridV p l=0) (h:IsStep l s):stepV p l s=0:=by
 obtain ⟨k,hk,h0,h1⟩:=h
 obtain ⟨_,_,hall⟩:=grid_ok hg
 have hs:=(stages_facts (hall _ (List.getElem_mem hk)).1).1
 unfold stepV
 rw [if_pos hg,h0,if_pos ⟨by omega,by omega⟩,axAt_nat l k hk]
 rcases h1 with ⟨h1,h2⟩ | ⟨h1,h2⟩
 ·rw [if_pos h1,if_pos h2]
 ·rw [if_neg (by rw [h1]; simp),if_pos hs,if_pos h2]
theorem stepV_inv {p:Int} {l:List Ax} {s:Stp} (h:stepV p l s=0):gridV p l=0/\IsStep l s:=by
 unfold stepV at h
 split at h
 ·rename_i hg
  refine ⟨hg,?_⟩
  obtain ⟨_,_,hall⟩:=grid_ok hg
  split at h
  ·rename_i hb
   obtain ⟨k,hk⟩:=Int.eq_ofNat_of_zero_le hb.1
   have hkl:k < l.length:=by omega
   have hs:=(stages_facts (hall _ (List.getElem_mem hkl)).1).1
   rw [hk,axAt_nat l k hkl,if_pos hs] at h
   refine ⟨k,hkl,hk,?_⟩
   split at h
   ·rename_i ht
    split at h
    ·exact .inl ⟨ht,‹_›⟩
    ·simp at h
   ·rename_i ht
    split at h
    ·exact .inr ⟨by simpa using ht,‹_›⟩
    ·simp at h
  ·simp at h
 ·rename_i hg;exact absurd h hg
def tableV (p:Int) (l:List Ax) (inv:Bool) (s:Stp) (t:List Int):List Int:=if stepV p l s=0 then t else []
theorem base_ok {p:Int} {l:List Ax} {s:Stp} (hg:gridV p l=0) (hs:IsStep l s) (inv:Bool):(baseV p (axAt l s.ax) inv s).2=0/\inU (baseV p (axAt l s.ax) inv s).1:=by
 obtain ⟨hk,_,hall⟩:=grid_ok hg
 obtain ⟨k,hkl,h0,h1⟩:=hs
 rw [h0,axAt_nat l k hkl]
 obtain ⟨hr,ho⟩:=hall l[k] (List.getElem_mem hkl)
 obtain ⟨n1,n2,_⟩:=radV_facts hr
 unfold baseV
 have key:∀ o,(rootV p o).2=0->(if inv=true then backV p o else rootV p o).2=0/\inU (if inv=true then backV p o else rootV p o).1:=by
  intro o h
  cases inv with
  | true=>exact back_ok h
  | false=>exact ⟨h,rootV_range p o⟩
 have wr:∀ n:Int,0<=n->n<=100000->IntKind.i64.wrap n=n:=λ n h1 h2=>by simp [IntKind.wrap,IntKind.bits,IntKind.signed]; omega
 dsimp only
 rcases h1 with ⟨h1,h2⟩ | ⟨h1,h3⟩
 ·cases ha:l[k].neg with
  | false=>rw [if_pos ⟨h1,rfl⟩]; exact ⟨rfl,by unfold inU;decide⟩
  | true=>
    rw [if_neg (by simp),if_pos h1]
    refine key _ ?_
    unfold ordW at ho
    rw [if_pos ha] at ho
    rw [Int.mul_comm]; exact ho
 ·rw [if_neg (show ¬ (s.tw=true/\l[k].neg=false) by rw [h1]; simp)]
  have e9:(if s.tw=true then IntKind.i64.wrap (2*l[k].N) else IntKind.i64.wrap (s.st.R*s.st.M))=IntKind.i64.wrap (s.st.R*s.st.M):=if_neg (by rw [h1]; simp)
  rw [e9]
  refine key _ ?_
  obtain ⟨g1,g2,g3,g4,g5,g6⟩:=stages_ok (stages_facts hr).1 h3
  have hp1:1<=s.st.R*s.st.M:=by have:=Int.mul_le_mul (show 1<=s.st.R by omega) g4 (by omega) (by omega); omega
  have hp2:=prod_bound g3 hp1 g5 g6
  rw [wr _ (by omega) (by omega)]
  have hN:(rootV p l[k].N).2=0:=by
   unfold ordW at ho
   by_cases ha:l[k].neg=true
   ·rw [if_pos ha,wr _ (by omega) (by omega)] at ho
    exact root_dvd ho n1 ⟨2,rfl⟩
   ·rw [if_neg ha] at ho;exact ho
  exact root_dvd hN hp1 ⟨s.st.L,by rw [Int.mul_comm]; exact g5⟩
def rowsV (p w:Int) (R:Nat):Nat->List Int
 | 0 => []
 | m + 1 => rowsV p w R m ++ powsV p (powM p w m) R
theorem powsV_len (p a:Int) (m:Nat):(powsV p a m).length=m:=by simp [powsV]
theorem rowsV_len (p w:Int) (R:Nat):∀ m,(rowsV p w R m).length=m*R
 | 0 => by simp [rowsV]
 | m + 1 => by rw [rowsV, List.length_append, rowsV_len p w R m, powsV_len, Nat.succ_mul]
theorem powM_zero {p:Int} (a:Int) (h:known p=true):powM p a 0=1:=by
 unfold powM;rw [if_pos h,Int.pow_zero]
 rcases known_cases h with rfl | rfl | rfl <;> decide
def tabV (p:Int) (l:List Ax) (inv:Bool) (s:Stp):List Int:=
 if s.tw=true then (if inv=true then (powsV p (baseV p (axAt l s.ax) inv s).1 (axAt l s.ax).N.toNat).map λ x=>mulF p x (invV p (axAt l s.ax).N).1 else powsV p (baseV p (axAt l s.ax) inv s).1 (axAt l s.ax).N.toNat)
 else rowsV p (baseV p (axAt l s.ax) inv s).1 s.st.R.toNat s.st.M.toNat
theorem tab_len {p:Int} {l:List Ax} (inv:Bool) {s:Stp} (hg:gridV p l=0) (hs:IsStep l s):(tabV p l inv s).length<=4096:=by
 obtain ⟨hk,_,hall⟩:=grid_ok hg
 obtain ⟨k,hkl,h0,h1⟩:=hs
 obtain ⟨hr,ho⟩:=hall l[k] (List.getElem_mem hkl)
 obtain ⟨n1,n2,_⟩:=radV_facts hr
 unfold tabV
 rw [h0,axAt_nat l k hkl]
 rcases h1 with ⟨h1,h2⟩ | ⟨h1,h3⟩
 ·rw [if_pos h1]
  split
  ·rw [List.length_map,powsV_len]; omega
  ·rw [powsV_len]; omega
 ·rw [if_neg (by rw [h1]; simp),rowsV_len]
  obtain ⟨g1,g2,g3,g4,g5,g6⟩:=stages_ok (stages_facts hr).1 h3
  have hp1:1<=s.st.R*s.st.M:=by have:=Int.mul_le_mul (show 1<=s.st.R by omega) g4 (by omega) (by omega); omega
  have hp2:=prod_bound g3 hp1 g5 g6
  have e:((s.st.M.toNat*s.st.R.toNat:Nat):Int)=s.st.R*s.st.M:=by
   rw [Int.natCast_mul,Int.toNat_of_nonneg (by omega),Int.toNat_of_nonneg (by omega),Int.mul_comm]
  omega
theorem steps_are (inv:Bool) (l:List Ax) (hr:∀ a∈l,(radV a.N).2=0):∀ (r:List Ax) (j:Nat),l.drop j=r->(∀ s∈stepsGo inv j r,IsStep l s)/\(stepsGo inv j r).length<=r.length*4098
 | [], j, _ => by simp [stepsGo]
 | a :: r, j, h => by
   have hj:j < l.length:=by
    rcases Nat.lt_or_ge j l.length with h' | h'
    ·exact h'
    ·rw [List.drop_eq_nil_of_le h'] at h;cases h
   rw [List.drop_eq_getElem_cons hj] at h
   injection h with h1 h2
   obtain ⟨i1,i2⟩:=steps_are inv l hr r (j+1) h2
   have hst:=(stages_facts (hr _ (List.getElem_mem hj))).2
   rw [h1] at hst
   unfold stepsGo
   refine ⟨λ s hs=>?_,?_⟩
   ·simp only [List.mem_append,List.mem_map] at hs
    rcases hs with ((hs | ⟨x,hx,rfl⟩) | hs) | hs
    ·split at hs
     ·rw [List.mem_singleton] at hs
      subst hs
      exact ⟨j,hj,rfl,.inl ⟨rfl,rfl⟩⟩
     ·cases hs
    ·exact ⟨j,hj,rfl,.inr ⟨rfl,by rw [h1]; exact hx⟩⟩
    ·split at hs
     ·rw [List.mem_singleton] at hs
      subst hs
      exact ⟨j,hj,rfl,.inl ⟨rfl,rfl⟩⟩
     ·cases hs
    ·exact i1 s hs
   ·simp only [List.length_append,List.length_map,List.length_cons]
    have e1:(if a.neg=true/\inv=false then [tw (j:Int)] else []).length<=1:=by split <;> simp
    have e2:(if inv=true then [tw (j:Int)] else []).length<=1:=by split <;> simp
    have e3:=i2
    have e4:((j:Int)+1)=((j+1:Nat):Int):=by omega
    rw [e4]
    omega
theorem allV_len {l:List Int} (h:(allV l).2=0):1<=l.length/\l.length<=4/\allV l=allGo 1 l:=by
 unfold allV at h ⊢
 split at h
 ·simp at h
 ·rename_i hc;rw [if_neg hc]; exact ⟨by omega,by omega,rfl⟩
theorem nV_range {p:Int} {l:List Ax} (hg:gridV p l=0):1<=nV l/\nV l<=4096:=by
 obtain ⟨hk,ha,_⟩:=grid_ok hg
 unfold nV
 have h2:=(allV_len ha).2.2
 rw [h2] at ha ⊢
 have key:∀ (r:List Int) (n:Int),1<=n->n<=4096->(allGo n r).2=0->1<=(allGo n r).1/\(allGo n r).1<=4096:=by
  intro r
  induction r with
  | nil=>intro n h1 h2 _;exact ⟨h1,h2⟩
  | cons x r ih=>
    intro n h1 h2 h3
    unfold allGo at h3 ⊢
    split at h3
    ·simp at h3
    ·rename_i c1
     rw [if_neg c1]
     have : 1<=n*x:=by have:=Int.mul_le_mul h1 (show 1<=x by omega) (by omega) (by omega); omega
     exact ih _ this (by omega) h3
 exact key _ 1 (by omega) (by omega) ha
def mkGo (p:Int) (l:List Ax) (inv:Bool):Int->List Stp->Int
 | t, [] => t
 | t, s :: r => mkGo p l inv (if ((tabV p l inv s).length : Int) > t then ((tabV p l inv s).length : Int) else t) r
theorem mkGo_range {p:Int} {l:List Ax} (inv:Bool) (hg:gridV p l=0):∀ (r:List Stp) (t:Int),(∀ s∈r,IsStep l s)->0<=t->t<=4096->0<=mkGo p l inv t r/\mkGo p l inv t r<=4096
 | [], t, _, h1, h2 => ⟨h1, h2⟩
 | s :: r, t, h, h1, h2 => by
   unfold mkGo
   have:=tab_len inv hg (h s (by simp))
   refine mkGo_range inv hg r _ (λ x hx=>h x (by simp [hx])) ?_ ?_ <;> split <;> omega
structure Pln where
 N:Int
 T:Int
 W:Int
 st:List Stp
def makeV (p:Int) (l:List Ax) (inv:Bool):Pln×Int:=
 if gridV p l=0 then (let t:=mkGo p l inv 0 (stepsGo inv 0 l); ⟨nV l,t,2*(nV l+6)+t,stepsGo inv 0 l⟩,0) else (⟨0,0,0,[]⟩,gridV p l)
def sumW:Int->List Int->Int
 | a, [] => a
 | a, x :: l => sumW (IntKind.i64.wrap (a + x)) l
theorem sum_range:∀ (B:Int) (r:List Int),(∀ x∈r,0<=x/\x<=B)->0<=r.sum/\r.sum<=r.length*B:=by
 intro B r
 induction r with
 | nil => intro _; simp
 | cons x r ih =>
   intro hx
   have h1:=ih (λ y hy=>hx y (List.mem_cons_of_mem _ hy))
   have h2:=hx x List.mem_cons_self
   rw [List.sum_cons,List.length_cons,Int.natCast_add,Int.add_mul]
   omega
theorem costL_range {p:Int} {l:List Ax} (inv:Bool) (hg:gridV p l=0) {st:List Stp} (hs:∀ s∈st,IsStep l s):∀ x∈(st.map λ s=>6*nV l+12+2*((tabV p l inv s).length:Int)),18<=x/\x<=100000:=by
 intro x hx
 obtain ⟨s,hs1,rfl⟩:=List.mem_map.1 hx
 have:=tab_len inv hg (hs s hs1)
 have:=nV_range hg
 omega
def costL (p:Int) (l:List Ax) (inv:Bool) (st:List Stp):List Int:=st.map λ s=>6*nV l+12+2*((tabV p l inv s).length:Int)
def trialV (p:Int) (l:List Ax) (inv:Bool):Int×Int:=if gridV p l=0 then ((costL p l inv (stepsGo inv 0 l)).sum+(3*nV l+12),0) else (0,gridV p l)
structure Req where
 P:Int
 axes:List Ax
 inv:Bool
 batch:Int
 X:List Int
 seeds:List Int
 retry:Int
 again:Int
def inV (p:Int) (l:List Int):Bool:=l.all (λ a=>decide (a < p)) && known p
def checkV (q:Req):Int:=
 if 1<=q.batch/\q.batch<=16/\0<=q.retry/\q.retry<=8/\0<=q.again/\q.again<=8 then
  (if gridV q.P q.axes=0 then (if (q.X.length:Int)=nV q.axes*q.batch then (if inV q.P q.X=true then (if 1<=q.seeds.length/\q.seeds.length<=4 then 0 else 8) else 7) else 6) else gridV q.P q.axes)
 else 1
theorem check_ok {q:Req} (h:checkV q=0):(1<=q.batch/\q.batch<=16/\0<=q.retry/\q.retry<=8/\0<=q.again/\q.again<=8)/\gridV q.P q.axes=0/\(q.X.length:Int)=nV q.axes*q.batch/\inV q.P q.X=true/\1<=q.seeds.length/\q.seeds.length<=4:=by
 unfold checkV at h
 split at h
 ·rename_i h1
  split at h
  ·rename_i h2
   split at h
   ·rename_i h3
    split at h
    ·rename_i h4
     split at h
     ·rename_i h5;exact ⟨h1,h2,h3,h4,h5⟩
     ·simp at h
    ·simp at h
   ·simp at h
  ·rename_i h2;exact absurd h h2
 ·simp at h
theorem steps_zero {l:List Ax} (hall:∀ a∈l,(radV a.N).2=0) (inv:Bool):(∀ s∈stepsGo inv 0 l,IsStep l s)/\(stepsGo inv 0 l).length<=l.length*4098:=steps_are inv l hall l 0 rfl
theorem cost_facts {q:Req} (hg:gridV q.P q.axes=0):0<=(costL q.P q.axes q.inv (stepsGo q.inv 0 q.axes)).sum/\(costL q.P q.axes q.inv (stepsGo q.inv 0 q.axes)).sum<=1639200000 /\
 (stepsGo q.inv 0 q.axes).length<=16392/\(trialV q.P q.axes q.inv)=((costL q.P q.axes q.inv (stepsGo q.inv 0 q.axes)).sum+(3*nV q.axes+12),0):=by
 obtain ⟨hk,hal,hall⟩:=grid_ok hg
 obtain ⟨hst,hsl⟩:=steps_zero (λ a ha=>(hall a ha).1) q.inv
 have h4:q.axes.length<=4:=by have:=(allV_len hal).2.1;simpa [dimsOf] using this
 have hcr:=costL_range q.inv hg hst
 have hsr:=sum_range 100000 (costL q.P q.axes q.inv (stepsGo q.inv 0 q.axes)) (λ x hx=>by have:=hcr x hx;omega)
 have hlen:(costL q.P q.axes q.inv (stepsGo q.inv 0 q.axes)).length=(stepsGo q.inv 0 q.axes).length:=by simp [costL]
 exact ⟨hsr.1,by omega,by omega,by unfold trialV;rw [if_pos hg]⟩
def fewV (l:List Ax) (m:Int):Bool:=decide (l.length<=10) && (decide ((allV (dimsOf l)).2≠0) || decide ((allV (dimsOf l)).1<=m))
def few17 (q:Req) (m:Int):Bool:=fewV q.axes m && decide ((q.X.length:Int)<=4*m) && decide (q.seeds.length<=10)
def rallGo:Int->List Int->Int×Int
 | n, [] => if 4096 < n then (0, 3) else (n, 0)
 | n, d :: r => if d < 1 \/ 4096 < d then (0, 3) else rallGo (n * d) r
theorem rall_big:∀ (l:List Int) (n:Int),4096 < n->rallGo n l=(0,3)
 | [], n, h => by unfold rallGo; rw [if_pos h]
 | d :: r, n, h => by
   unfold rallGo
   split
   ·rfl
   ·rename_i hd
    have : n*1<=n*d:=Int.mul_le_mul_of_nonneg_left (by omega) (by omega)
    exact rall_big r _ (by omega)
theorem rall_all:∀ (l:List Int) (n:Int),n<=4096->rallGo n l=allGo n l
 | [], n, h => by unfold rallGo allGo; rw [if_neg (by omega)]
 | d :: r, n, h => by
   unfold rallGo allGo
   by_cases c1:d < 1\/4096 < d
   ·rw [if_pos c1,if_pos (by omega)]
   ·rw [if_neg c1]
    by_cases c:4096 < n*d
    ·rw [if_pos (by omega)]; exact rall_big r _ c
    ·rw [if_neg (by omega)]; exact rall_all r _ (by omega)
def eAx (a:Ax):List Value:=[.int .i64 a.N,.bool a.neg]
def eSg (s:Sg):List Value:=[.int .i64 s.R,.int .i64 s.L,.int .i64 s.M]
def eStp (s:Stp):List Value:=[.int .i64 s.ax,.bool s.tw,.int .i64 s.st.R,.int .i64 s.st.L,.int .i64 s.st.M]
theorem Ar.getAx {S:St} {p:Option Addr} {n:Nat} {l:List Ax} (h:Ar S p n 2 eAx l) {i:Nat} (hi:i < l.length) :
 ∃ a,p=some a/\S.cell (a.add (i*2))=some (.int .i64 l[i].N)/\S.cell ((a.add (i*2)).add 1)=some (.bool l[i].neg):=by
 obtain ⟨a,h1,h2⟩:=h.2 i hi
 exact ⟨a,h1,by have:=h2 0 _ rfl;rwa [add_zero_] at this,h2 1 _ rfl⟩
theorem Ar.getSg {S:St} {p:Option Addr} {n:Nat} {l:List Sg} (h:Ar S p n 3 eSg l) {i:Nat} (hi:i < l.length) :
 ∃ a,p=some a/\S.cell (a.add (i*3))=some (.int .i64 l[i].R)/\S.cell ((a.add (i*3)).add 1)=some (.int .i64 l[i].L)/\S.cell ((a.add (i*3)).add 2)=some (.int .i64 l[i].M):=by
 obtain ⟨a,h1,h2⟩:=h.2 i hi
 exact ⟨a,h1,by have:=h2 0 _ rfl;rwa [add_zero_] at this,h2 1 _ rfl,h2 2 _ rfl⟩
theorem Ar.getStp {S:St} {p:Option Addr} {n:Nat} {l:List Stp} (h:Ar S p n 5 eStp l) {i:Nat} (hi:i < l.length) :
 ∃ a,p=some a/\S.cell (a.add (i*5))=some (.int .i64 l[i].ax)/\S.cell ((a.add (i*5)).add 1)=some (.bool l[i].tw)/\S.cell ((a.add (i*5)).add 2)=some (.int .i64 l[i].st.R) /\
  S.cell ((a.add (i*5)).add 3)=some (.int .i64 l[i].st.L)/\S.cell ((a.add (i*5)).add 4)=some (.int .i64 l[i].st.M):=by
 obtain ⟨a,h1,h2⟩:=h.2 i hi
 exact ⟨a,h1,by have:=h2 0 _ rfl;rwa [add_zero_] at this,h2 1 _ rfl,h2 2 _ rfl,h2 3 _ rfl,h2 4 _ rfl⟩
abbrev qv (q:Req) (a1:Option Addr) (c1:Nat) (a4:Option Addr) (c4:Nat) (a5:Option Addr) (c5:Nat):Value:=
 vA [vU q.P,.slice a1 q.axes.length c1,vB q.inv,vI q.batch,.slice a4 q.X.length c4,.slice a5 q.seeds.length c5,vI q.retry,vI q.again]
abbrev qc (q:Req) (a1:Option Addr) (c1:Nat) (a4:Option Addr) (c4:Nat) (a5:Option Addr) (c5:Nat):List Value:=
 [vU q.P,.slice a1 q.axes.length c1,vB q.inv,vI q.batch,.slice a4 q.X.length c4,.slice a5 q.seeds.length c5,vI q.retry,vI q.again]
structure QA (S:St) (q:Req) (a1 a4 a5:Option Addr):Prop where
 ax:Ar S a1 q.axes.length 2 eAx q.axes
 x:Ar S a4 q.X.length 1 eU q.X
 sd:Ar S a5 q.seeds.length 1 eU q.seeds
 b1:q.axes.length<=8796093022208
 b2:q.X.length<=140737488355328
 b3:q.seeds.length<=140737488355328
theorem QA.mono {S S':St} {q:Req} {a1 a4 a5:Option Addr} (h:QA S q a1 a4 a5) (hs:S <+: S'):QA S' q a1 a4 a5:=⟨h.ax.mono hs,h.x.mono hs,h.sd.mono hs,h.b1,h.b2,h.b3⟩
variable {α β ρ:Type}
theorem Ar.spot {S:St} {p:Option Addr} {n w:Nat} {e:α->List Value} {l:List α} (h:Ar S p n w e l) (hw:∀ x,(e x).length=w) (h0:0 < w) (hl:l≠[]):∃ b o,p=some ⟨b,o,none⟩:=by
 have hl':0 < l.length:=List.length_pos_iff.2 hl
 obtain ⟨a,h1,h2⟩:=h.2 0 hl'
 have h3:=h2 0 ((e l[0])[0]'(by rw [hw]; exact h0)) (List.getElem?_eq_getElem _)
 rw [add_zero_,Nat.zero_mul,add_zero_] at h3
 refine ⟨a.block,a.off,?_⟩
 rw [h1]
 obtain ⟨b,o,s⟩:=a
 cases s with
 | none => rfl
 | some s =>
   unfold St.cell at h3
   split at h3
   ·simp at h3
   ·simp at h3
   ·cases h3
theorem cut_ar {S:St} {p:Option Addr} {n c w:Nat} {e:α->List Value} {l:List α} {rest:Bool} (h:Ar S p n w e l) (hw:∀ x,(e x).length=w) (hw0:0 < w) {lo hi:Int} (h0:0<=lo) (h1:lo<=hi) (h2:hi<=n) (h3:n<=c) {Q:Sl->St->Prop}
 (q:∀ (a:Option Addr) (k:Nat),hi.toNat-lo.toNat<=k->Ar S a (hi.toNat-lo.toNat) w e ((l.drop lo.toNat).take (hi.toNat-lo.toNat))->Q ⟨a,hi.toNat-lo.toNat,k⟩ S) :
 WP (cutM true rest w p c lo hi (c:Int)) S Q:=by
 unfold cutM
 rw [wp_guard,wp_ret]
 refine ⟨⟨rfl,h0,h1,by omega,by omega⟩,?_⟩
 have hn:=h.1
 by_cases e0:hi.toNat-lo.toNat=0
 ·have q0:∀ (a:Option Addr) (k:Nat),Q ⟨a,0,k⟩ S:=λ a k=>by
   have:=q a k (by omega)
   rw [e0] at this
   exact this (by simp only [List.take_zero]; exact .nil)
  cases hc:decide (lo=(c:Int)) && rest
  ·simp only [hc,cond_false]; rw [e0]; exact q0 _ _
  ·simp only [hc,cond_true]; exact q0 _ _
 ·have hc:decide (lo=(c:Int))=false:=by simp;omega
  rw [hc]
  simp only [Bool.false_and,cond_false,Int.toNat_natCast]
  have hlen:0 < l.length:=by omega
  obtain ⟨b,o,rfl⟩:=h.spot hw hw0 (List.length_pos_iff.1 hlen)
  refine q _ _ (by omega) ⟨by rw [List.length_take,List.length_drop]; omega,λ i hi'=>?_⟩
  rw [List.length_take,List.length_drop] at hi'
  obtain ⟨a,g1,g2⟩:=h.2 (lo.toNat+i) (by omega)
  cases g1
  refine ⟨_,rfl,λ j v hv=>?_⟩
  rw [List.getElem_take,List.getElem_drop] at hv
  have:=g2 j v hv
  simp only [add_off] at this ⊢
  rw [<- this]
  congr 2
  rw [Nat.add_mul]; omega
theorem wp_rdA {S:St} {p:Option Addr} {n w:Nat} {e:α->List Value} {l:List α} (h:Ar S p n w e l) (hw:∀ x,(e x).length=w) {Q:List Value->St->Prop} (q:Q (l.flatMap e) S):WP (rdN p (n*w)) S Q:=by
 have hn:=h.1
 have hfl:=flat_len hw l
 by_cases h0:n*w=0
 ·refine ⟨[],S,by unfold rdN;rw [if_pos h0],?_⟩
  have : l.flatMap e=[]:=List.eq_nil_of_length_eq_zero (by rw [hfl,<- hn]; exact h0)
  rw [this] at q;exact q
 ·have hw0:0 < w:=by
   rcases Nat.eq_zero_or_pos w with h | h
   ·subst h;simp at h0
   ·exact h
  have hn0:0 < n:=by
   rcases Nat.eq_zero_or_pos n with h | h
   ·subst h;simp at h0
   ·exact h
  obtain ⟨b,o,rfl⟩:=h.spot hw hw0 (List.length_pos_iff.1 (by omega))
  have hcell:∀ i,i < n*w->S.cell ⟨b,o+i,none⟩=(l.flatMap e)[i]?:=by
   intro i hi
   have hq:i / w < l.length:=by rw [<- hn]; exact Nat.div_lt_of_lt_mul (by rwa [Nat.mul_comm])
   have hr:i % w < w:=Nat.mod_lt _ hw0
   obtain ⟨a,g1,g2⟩:=h.2 (i / w) hq
   cases g1
   have g3:=g2 (i % w) ((e l[i / w])[i % w]'(by rw [hw]; exact hr)) (List.getElem?_eq_getElem _)
   simp only [add_off] at g3
   have e1:o+i / w*w+i % w=o+i:=by have:=Nat.div_add_mod i w;rw [Nat.mul_comm] at this;omega
   rw [e1] at g3
   rw [g3]
   have key:∀ (l:List α) (k j:Nat) (hk:k < l.length) (hj:j < w),(l.flatMap e)[k*w+j]? = some ((e l[k])[j]'(by rw [hw]; exact hj)):=by
    intro l
    induction l with
    | nil=>intro k j hk;simp at hk
    | cons x l ih=>
      intro k j hk hj
      rw [List.flatMap_cons]
      cases k with
      | zero=>rw [Nat.zero_mul,Nat.zero_add,List.getElem?_append_left (by rw [hw]; exact hj)]; exact List.getElem?_eq_getElem _
      | succ k=>
        rw [Nat.succ_mul,List.getElem?_append_right (by rw [hw]; omega),hw,show k*w+w+j-w=k*w+j by omega]
        exact ih k j (by simpa using hk) hj
   have:=key l (i / w) (i % w) hq hr
   rw [show i / w*w+i % w=i by have:=Nat.div_add_mod i w;rw [Nat.mul_comm] at this;omega] at this
   exact this.symm
  have hlast:=hcell (n*w-1) (by omega)
  have hsome:∃ v,S.cell ⟨b,o+(n*w-1),none⟩=some v:=by
   rw [hlast]; exact ⟨_,List.getElem?_eq_getElem (by rw [hfl,<- hn]; omega)⟩
  have fin:∀ c:List Value,(∀ i,S.cell ⟨b,i,none⟩=c[i]?)->o+n*w<=c.length/\(c.drop o).take (n*w)=l.flatMap e:=by
   intro c hc
   obtain ⟨v,hv⟩:=hsome
   rw [hc] at hv
   have hlt:o+(n*w-1) < c.length:=by
    rcases Nat.lt_or_ge (o+(n*w-1)) c.length with h | h
    ·exact h
    ·rw [List.getElem?_eq_none h] at hv;cases hv
   refine ⟨by omega,?_⟩
   apply List.ext_getElem?
   intro i
   rw [List.getElem?_take]
   split
   ·rename_i hi;rw [List.getElem?_drop,<- hc,hcell i hi]
   ·rename_i hi;rw [List.getElem?_eq_none (by rw [hfl,<- hn]; omega)]
  obtain ⟨v,hv⟩:=hsome
  cases hb:S[b]? with
  | none=>unfold St.cell at hv;rw [hb] at hv;cases hv
  | some ob=>
    cases ob with
    | cells c e' g=>
      obtain ⟨f1,f2⟩:=fin c (λ i=>cell_blk hb i)
      exact ⟨l.flatMap e,S,by unfold rdN;rw [if_neg h0]; dsimp only;rw [hb]; dsimp only;rw [if_pos ⟨rfl,f1⟩,f2],q⟩
    | ro c e' g=>
      obtain ⟨f1,f2⟩:=fin c (λ i=>by simp [St.cell,hb])
      exact ⟨l.flatMap e,S,by unfold rdN;rw [if_neg h0]; dsimp only;rw [hb]; dsimp only;rw [if_pos ⟨rfl,f1⟩,f2],q⟩
    | _=>unfold St.cell at hv;rw [hb] at hv;cases hv
end Go.AM
namespace Go.AM
open Go
section
variable {α:Type} (key:α->Int)
def at_key (t:Int) (l:List α):List α:=l.filter λ x=>decide (key x=t)
structure Stab (l r:List α):Prop where
 ord:r.Pairwise λ a b=>key a<=key b
 same:∀ t,at_key key t r=at_key key t l
variable {key}
theorem at_key_append (t:Int) (l r:List α):at_key key t (l++r)=at_key key t l++at_key key t r:=List.filter_append ..
theorem mem_at_key {t:Int} {l:List α} {x:α}:x∈at_key key t l↔x∈l/\key x=t:=by unfold at_key;rw [List.mem_filter]; simp
theorem mem_of_same {l r:List α} (h:∀ t,at_key key t r=at_key key t l) (x:α):x∈r↔x∈l:=by
 have h1:x∈at_key key (key x) r↔x∈at_key key (key x) l:=by rw [h]
 rw [mem_at_key,mem_at_key] at h1
 simpa using h1
theorem at_key_none {t:Int} {l:List α} (h:∀ x∈l,key x≠t):at_key key t l=[]:=by
 unfold at_key
 rw [List.filter_eq_nil_iff]
 intro x hx;simpa using h x hx
theorem at_key_swap (t:Int) {u v:List α} (h:∀ x∈u,∀ y∈v,key x≠key y):at_key key t u++at_key key t v=at_key key t v++at_key key t u:=by
 by_cases hu:∃ x∈u,key x=t
 ·obtain ⟨x,hx,rfl⟩:=hu
  have : at_key key (key x) v=[]:=at_key_none λ y hy e=>h x hx y hy e.symm
  rw [this]; simp
 ·have : at_key key t u=[]:=at_key_none λ x hx e=>hu ⟨x,hx,e⟩
  rw [this]; simp
theorem Stab.mem {l r:List α} (h:Stab key l r) (x:α):x∈r↔x∈l:=mem_of_same h.same x
theorem len_of_same:∀ {l r:List α},(∀ t,at_key key t r=at_key key t l)->r.length=l.length
 | [], r, h => by
   cases r with
   | nil=>rfl
   | cons x r=>exact absurd ((mem_of_same h x).1 (by simp)) (by simp)
 | x :: l, r, h => by
   have hx:x∈r:=(mem_of_same h x).2 (by simp)
   obtain ⟨p,s,hp,hnot⟩:∃ p s,r=p++x :: s/\at_key key (key x) p=[]:=by
    have h1:at_key key (key x) r=x :: at_key key (key x) l:=by rw [h]; unfold at_key;simp
    have h2:=List.filter_eq_cons_iff.1 h1
    obtain ⟨p,s,e,hn,_,_⟩:=h2
    exact ⟨p,s,e,by unfold at_key;rw [List.filter_eq_nil_iff]; exact hn⟩
   subst hp
   have:=len_of_same (l:=l) (r:=p++s) (λ t=>by
    have h1:=h t
    rw [at_key_append] at h1 ⊢
    unfold at_key at h1 hnot ⊢
    rw [List.filter_cons,List.filter_cons] at h1
    by_cases ht:key x=t
    ·subst ht
     rw [hnot] at h1 ⊢
     simpa using h1
    ·simpa [ht] using h1)
   simp at this ⊢; omega
theorem stab_unique:∀ {r r':List α},(r.Pairwise λ a b=>key a<=key b)->(r'.Pairwise λ a b=>key a<=key b)->(∀ t,at_key key t r=at_key key t r')->r=r'
 | [], r', _, _, h => by
   have:=len_of_same (l:=[]) (r:=r') λ t=>(h t).symm
   exact (List.length_eq_zero_iff.1 this).symm
 | x :: r, [], _, _, h => by
   have:=len_of_same h
   simp at this
 | x :: r, y :: r', h1, h2, h => by
   obtain ⟨a1,a2⟩:=List.pairwise_cons.1 h1
   obtain ⟨b1,b2⟩:=List.pairwise_cons.1 h2
   have hxy:key x=key y:=by
    have m1:x∈y :: r':=(mem_of_same h x).1 (by simp)
    have m2:y∈x :: r:=(mem_of_same h y).2 (by simp)
    rcases List.mem_cons.1 m1 with e | e
    ·rw [e]
    rcases List.mem_cons.1 m2 with e' | e'
    ·rw [e']
    have:=a1 y e'
    have:=b1 x e
    omega
   have hx:x=y:=by
    have:=h (key x)
    unfold at_key at this
    rw [List.filter_cons,List.filter_cons] at this
    simp [hxy] at this
    exact this.1
   subst hx
   rw [stab_unique a2 b2 λ t=>by
    have:=h t
    unfold at_key at this ⊢
    rw [List.filter_cons,List.filter_cons] at this
    by_cases ht:key x=t
    ·simpa [ht] using this
    ·simpa [ht] using this]
theorem Stab.unique {l r r':List α} (h:Stab key l r) (h':Stab key l r'):r=r':=stab_unique h.ord h'.ord λ t=>by rw [h.same,h'.same]
theorem Stab.len {l r:List α} (h:Stab key l r):r.length=l.length:=len_of_same h.same
theorem Stab.self {l:List α} (h:l.Pairwise λ a b=>key a<=key b):Stab key l l:=⟨h,λ _=>rfl⟩
theorem Stab.join {u1 u2 v1 v2 r1 r2:List α} (h1:Stab key (u1++v1) r1) (h2:Stab key (u2++v2) r2)
 (hu:(u1++u2).Pairwise λ a b=>key a<=key b) (hv:(v1++v2).Pairwise λ a b=>key a<=key b)
 (h12:∀ x∈u1,∀ y∈v2,key x<=key y) (h21:∀ y∈v1,∀ x∈u2,key y < key x):Stab key ((u1++u2)++(v1++v2)) (r1++r2):=by
 refine ⟨List.pairwise_append.2 ⟨h1.ord,h2.ord,λ a ha b hb=>?_⟩,λ t=>?_⟩
 ·have ha:=List.mem_append.1 ((h1.mem a).1 ha)
  have hb:=List.mem_append.1 ((h2.mem b).1 hb)
  rcases ha with ha | ha <;> rcases hb with hb | hb
  ·exact (List.pairwise_append.1 hu).2.2 a ha b hb
  ·exact h12 a ha b hb
  ·exact Int.le_of_lt (h21 a ha b hb)
  ·exact (List.pairwise_append.1 hv).2.2 a ha b hb
 ·rw [at_key_append,h1.same,h2.same]
  simp only [at_key_append,List.append_assoc]
  congr 1
  have : at_key key t v1++at_key key t u2=at_key key t u2++at_key key t v1:=at_key_swap t λ x hx y hy=>by have:=h21 x hx y hy;omega
  rw [<- List.append_assoc,<- List.append_assoc,this]
end
theorem split_facts {α:Type} (key:α->Int) (u v:List α) (a m b mid st lo hi:Nat) (hm:m=a+u.length) (hb:b=m+v.length) (hmid:mid=(a+b) / 2) (h2:1 < u.length) (h3:1 < v.length)
 (hlo:lo=if mid < m then mid+m-b else a) (hhi:hi=if mid < m then mid else m) (h4:lo<=st) (h5:st<=hi)
 (hu:u.Pairwise λ a b=>key a<=key b) (hv:v.Pairwise λ a b=>key a<=key b)
 (q1:∀ c (h:c-a < u.length) (h':mid+m-1-c-m < v.length),lo<=c->c < st->key u[c-a]<=key v[mid+m-1-c-m])
 (q2:∀ c (h:c-a < u.length) (h':mid+m-1-c-m < v.length),st<=c->c < hi->key v[mid+m-1-c-m] < key u[c-a]) :
 ∃ u1 u2 v1 v2,u=u1++u2/\v=v1++v2/\u1.length=st-a/\v1.length=mid+m-st-m/\a<=st/\st<=m/\m<=mid+m-st/\mid+m-st<=b/\(∀ x∈u1,∀ y∈v2,key x<=key y)/\(∀ y∈v1,∀ x∈u2,key y < key x):=by
 have hr:a<=lo/\hi<=m/\m<=mid+m-st/\mid+m-st<=b:=by
  by_cases h:mid < m
  ·rw [if_pos h] at hlo hhi;omega
  ·rw [if_neg h] at hlo hhi;omega
 refine ⟨u.take (st-a),u.drop (st-a),v.take (mid+m-st-m),v.drop (mid+m-st-m),(List.take_append_drop _ _).symm,(List.take_append_drop _ _).symm,by simp;omega,by simp;omega,by omega,by omega,hr.2.2.1,hr.2.2.2,?_,?_⟩
 ·intro x hx y hy
  obtain ⟨i,hi',rfl⟩:=List.mem_iff_getElem.1 hx
  obtain ⟨j,hj',rfl⟩:=List.mem_iff_getElem.1 hy
  simp only [List.length_take,List.length_drop] at hi' hj'
  rw [List.getElem_take,List.getElem_drop]
  have hst:lo < st:=by
   rcases Nat.lt_or_ge lo st with h | h
   ·exact h
   ·exfalso
    have : st=lo:=by omega
    rw [hlo] at this
    split at this <;> omega
  have h:=q1 (st-1) (by omega) (by omega) (by omega) (by omega)
  have e1:key u[i]<=key u[st-1-a]:=by
   rcases Nat.lt_or_ge i (st-1-a) with h | h
   ·exact List.pairwise_iff_getElem.1 hu _ _ (by omega) (by omega) h
   ·have : i=st-1-a:=by omega
    subst this;exact Int.le_refl _
  have e2:key v[mid+m-1-(st-1)-m]<=key v[mid+m-st-m+j]:=by
   rcases Nat.lt_or_ge (mid+m-1-(st-1)-m) (mid+m-st-m+j) with h | h
   ·exact List.pairwise_iff_getElem.1 hv _ _ (by omega) (by omega) h
   ·have : mid+m-1-(st-1)-m=mid+m-st-m+j:=by omega
    simp only [this]; exact Int.le_refl _
  omega
 ·intro y hy x hx
  obtain ⟨i,hi',rfl⟩:=List.mem_iff_getElem.1 hx
  obtain ⟨j,hj',rfl⟩:=List.mem_iff_getElem.1 hy
  simp only [List.length_take,List.length_drop] at hi' hj'
  rw [List.getElem_take,List.getElem_drop]
  have hst:st < hi:=by
   rcases Nat.lt_or_ge st hi with h | h
   ·exact h
   ·exfalso
    have : st=hi:=by omega
    rw [hhi] at this
    split at this <;> omega
  have h:=q2 st (by omega) (by omega) (by omega) (by omega)
  have e1:key u[st-a]<=key u[st-a+i]:=by
   rcases Nat.lt_or_ge 0 i with h | h
   ·exact List.pairwise_iff_getElem.1 hu _ _ (by omega) (by omega) (by omega)
   ·have : i=0:=by omega
    subst this;exact Int.le_refl _
  have e2:key v[j]<=key v[mid+m-1-st-m]:=by
   rcases Nat.lt_or_ge j (mid+m-1-st-m) with h | h
   ·exact List.pairwise_iff_getElem.1 hv _ _ (by omega) (by omega) h
   ·have : j=mid+m-1-st-m:=by omega
    subst this;exact Int.le_refl _
  omega
theorem take_snoc {α:Type} {l:List α} {j:Nat} (h:j < l.length):l.take (j+1)=l.take j++[l[j]]:=by
 rw [List.take_add_one,List.getElem?_eq_getElem h]; rfl
section
variable {α:Type} {key:α->Int}
theorem Stab.ins {l r1 r2:List α} {x:α} (h:Stab key l (r1++r2)) (h1:∀ y∈r1,key y<=key x) (h2:∀ y∈r2,key x < key y):Stab key (l++[x]) (r1++x :: r2):=by
 obtain ⟨o1,o2,o3⟩:=List.pairwise_append.1 h.ord
 refine ⟨List.pairwise_append.2 ⟨o1,List.pairwise_cons.2 ⟨λ y hy=>Int.le_of_lt (h2 y hy),o2⟩,λ a ha b hb=>?_⟩,λ t=>?_⟩
 ·rcases List.mem_cons.1 hb with rfl | hb
  ·exact h1 a ha
  ·exact o3 a ha b hb
 ·have hs:=h.same t
  rw [at_key_append] at hs
  rw [at_key_append,at_key_append,<- hs]
  unfold at_key
  rw [List.filter_cons]
  by_cases hx:key x=t
  ·have : r2.filter (λ y=>decide (key y=t))=[]:=by
    rw [List.filter_eq_nil_iff]
    intro y hy;have:=h2 y hy;simp;omega
   simp [this,hx]
  ·simp [hx]
theorem Stab.front {v1 v2:List α} {x:α} (h:(v1++v2).Pairwise λ a b=>key a<=key b) (h1:∀ y∈v1,key y < key x) (h2:∀ y∈v2,key x<=key y):Stab key ([x]++(v1++v2)) (v1++x :: v2):=by
 obtain ⟨o1,o2,o3⟩:=List.pairwise_append.1 h
 refine ⟨List.pairwise_append.2 ⟨o1,List.pairwise_cons.2 ⟨h2,o2⟩,λ a ha b hb=>?_⟩,λ t=>?_⟩
 ·rcases List.mem_cons.1 hb with rfl | hb
  ·exact Int.le_of_lt (h1 a ha)
  ·exact o3 a ha b hb
 ·rw [at_key_append,at_key_append,at_key_append]
  unfold at_key
  have e1:∀ f:α->Bool,[x].filter f=if f x then [x] else []:=λ f=>by rw [List.filter_cons]; rfl
  have e2:∀ f:α->Bool,(x :: v2).filter f=if f x then x :: v2.filter f else v2.filter f:=λ f=>by rw [List.filter_cons]
  rw [e1,e2]
  by_cases hx:key x=t
  ·have : v1.filter (λ y=>decide (key y=t))=[]:=by
    rw [List.filter_eq_nil_iff]
    intro y hy;have:=h1 y hy;simp;omega
   simp [this,hx]
  ·simp [hx]
def Chk (key:α->Int) (b:Nat) (l:List α):Prop:=∀ k,((l.drop (k*b)).take b).Pairwise λ x y=>key x<=key y
theorem Chk.snoc {b q:Nat} {d w:List α} (h:Chk key b d) (hd:d.length=q*b) (hw:w.Pairwise λ x y=>key x<=key y) (hl:w.length<=b):Chk key b (d++w):=by
 intro k
 rcases Nat.lt_trichotomy k q with hk | hk | hk
 ·have h1:k*b+b<=q*b:=by rw [<- Nat.succ_mul]; exact Nat.mul_le_mul_right b hk
  rw [List.drop_append_of_le_length (by omega),List.take_append_of_le_length (by rw [List.length_drop]; omega)]
  exact h k
 ·subst hk
  rw [List.drop_append_of_le_length (by omega),List.drop_of_length_le (by omega),List.nil_append,List.take_of_length_le hl]
  exact hw
 ·have h1:q*b+b<=k*b:=by rw [<- Nat.succ_mul]; exact Nat.mul_le_mul_right b hk
  rw [List.drop_of_length_le (by rw [List.length_append]; omega)]
  simp
theorem Chk.nil {b:Nat}:Chk key b ([]:List α):=λ k=>by simp
theorem Chk.all {b:Nat} {l:List α} (h:Chk key b l) (hl:l.length<=b):l.Pairwise λ x y=>key x<=key y:=by
 have:=h 0
 rwa [Nat.zero_mul,List.drop_zero,List.take_of_length_le hl] at this
end
variable {α:Type}
structure Ob (e:α->List Value) (S:St) (b:Nat) (t:TypeId) (g:Option Nat) (l:List α) (S':St):Prop where
 len:S.length<=S'.length
 keep:∀ i,i < S.length->i≠b->S'[i]? = S[i]?
 at_:S'[b]? = some (.cells (l.flatMap e) t g)
theorem flat_get {e:α->List Value} {w:Nat} (hw:∀ x,(e x).length=w):∀ (l:List α) (i j:Nat) (hi:i < l.length) (v:Value),(e l[i])[j]? = some v->(l.flatMap e)[i*w+j]? = some v
 | [], i, j, hi, v, h => by simp at hi
 | x :: l, 0, j, hi, v, h => by
   have hj:j < (e x).length:=by
    rcases Nat.lt_or_ge j (e x).length with h' | h'
    ·exact h'
    ·simp at h;rw [List.getElem?_eq_none h'] at h;cases h
   rw [List.flatMap_cons,Nat.zero_mul,Nat.zero_add,List.getElem?_append_left hj]; exact h
 | x :: l, i + 1, j, hi, v, h => by
   rw [List.flatMap_cons,List.getElem?_append_right (by rw [hw,Nat.succ_mul]; omega),hw,show (i+1)*w+j-w=i*w+j by rw [Nat.succ_mul]; omega]
   exact flat_get hw l i j (by simpa using hi) v (by simpa using h)
theorem flat_set {e:α->List Value} {w:Nat} (hw:∀ x,(e x).length=w):∀ (l:List α) (i:Nat) (x:α),i < l.length->splice (l.flatMap e) (i*w) (e x)=(l.set i x).flatMap e
 | [], i, x, h => by simp at h
 | y :: l, 0, x, h => by
   rw [List.set_cons_zero,List.flatMap_cons,List.flatMap_cons,Nat.zero_mul]
   unfold splice
   have : (e x).length=(e y).length:=by rw [hw,hw]
   simp [this]
 | y :: l, i + 1, x, h => by
   have ih:=flat_set hw l i x (by simpa using h)
   rw [List.set_cons_succ,List.flatMap_cons,List.flatMap_cons,<- ih]
   unfold splice
   rw [show (i+1)*w=(e y).length+i*w by rw [hw,Nat.succ_mul]; omega,List.take_length_add_append,Nat.add_assoc,List.drop_length_add_append]
   simp
section
variable {e:α->List Value} {S S1 S2:St} {b:Nat} {t:TypeId} {g:Option Nat} {l l':List α}
theorem Ob.refl (h:S[b]? = some (.cells (l.flatMap e) t g)):Ob e S b t g l S:=⟨Nat.le_refl _,λ _ _ _=>rfl,h⟩
theorem Ob.put {w:Nat} (h:Ob e S b t g l S1) (hw:∀ x,(e x).length=w) {i:Nat} (hi:i < l.length) (x:α):Ob e S b t g (l.set i x) (S1.set b (.cells (splice (l.flatMap e) (i*w) (e x)) t g)):=
 ⟨by rw [List.length_set]; exact h.len,λ j hj hne=>by rw [List.getElem?_set_ne (λ e=>hne e.symm),h.keep j hj hne],by rw [List.getElem?_set_self (pre_lt h.at_),flat_set hw l i x hi]⟩
theorem Ob.ar {w:Nat} (h:Ob e S b t g l S1) (hw:∀ x,(e x).length=w):Ar S1 (some ⟨b,0,none⟩) l.length w e l:=Ar.blk h.at_ (λ x _=>hw x) rfl
end
theorem Ob.u {S S1:St} {b:Nat} {t:TypeId} {g:Option Nat} {l:List Int} (h:Ob eU S b t g l S1) {i:Nat} (hi:i < l.length):S1.cell ⟨b,i,none⟩=some (.int .u64 l[i]):=by
 rw [cell_blk h.at_]
 have:=flat_get (e:=eU) (w:=1) (λ _=>rfl) l i 0 hi _ rfl
 simpa using this
theorem eU_leaf (l:List Int):(l.flatMap eU).all leafV=true:=by
 induction l with
 | nil => rfl
 | cons x l ih => rw [List.flatMap_cons, List.all_append, ih]; rfl
end Go.AM
namespace Go.AM
open Go
structure Kp (M:List Nat) (S S':St):Prop where
 len:S.length<=S'.length
 keep:∀ i,i < S.length->i∉M->S'[i]? = S[i]?
section
variable {M:List Nat} {S S1 S2:St}
theorem Kp.refl:Kp M S S:=⟨Nat.le_refl _,λ _ _ _=>rfl⟩
theorem Kp.of (h:S <+: S1):Kp M S S1:=⟨h.length_le,λ i hi _=>pre_at h hi⟩
theorem Kp.trans (h:Kp M S S1) (k:Kp M S1 S2):Kp M S S2:=⟨Nat.le_trans h.len k.len,λ i hi hn=>by rw [k.keep i (Nat.lt_of_lt_of_le hi h.len) hn,h.keep i hi hn]⟩
theorem Kp.more (h:Kp M S S1) (k:S1 <+: S2):Kp M S S2:=h.trans (.of k)
theorem Kp.pre (h:S <+: S1) (k:Kp M S1 S2):Kp M S S2:=(Kp.of h).trans k
theorem Kp.get (h:Kp M S S1) {i:Nat} {o:AObj} (hi:S[i]? = some o) (hn:i∉M):S1[i]? = some o:=by
 rw [h.keep i (pre_lt hi) hn]; exact hi
theorem Kp.mono {N:List Nat} (h:Kp M S S1) (hs:∀ i∈M,i∈N):Kp N S S1:=⟨h.len,λ i hi hn=>h.keep i hi λ hm=>hn (hs i hm)⟩
theorem Kp.ar {β:Type} {f:β->List Value} {m:List β} {p:Option Addr} {n v:Nat} (h:Kp M S S1) (k:Ar S p n v f m) (hne:m≠[]->∀ x,p=some x->x.block∉M):Ar S1 p n v f m:=by
 refine ⟨k.1,λ i hi=>?_⟩
 obtain ⟨x,h1,h2⟩:=k.2 i hi
 refine ⟨x,h1,λ j u hu=>?_⟩
 have h3:=h2 j u hu
 have hblk:((x.add (i*v)).add j).block=x.block:=by
  unfold Addr.add;split <;> split <;> rfl
 unfold St.cell at h3 ⊢
 rw [hblk] at h3 ⊢
 rw [h.keep x.block ?_ (hne (by rintro rfl;simp at hi) x h1)]; exact h3
 rcases Nat.lt_or_ge x.block S.length with h' | h'
 ·exact h'
 ·rw [List.getElem?_eq_none h'] at h3;cases h3
theorem Ar.low {β:Type} {f:β->List Value} {m:List β} {p:Option Addr} {n v:Nat} (k:Ar S p n v f m) (hf:∀ x,∃ v,(f x)[0]? = some v) (hm:m≠[]) (x:Addr) (hx:p=some x):x.block < S.length:=by
 have hl:0 < m.length:=List.length_pos_iff.2 hm
 obtain ⟨y,h1,h2⟩:=k.2 0 hl
 rw [hx] at h1
 injection h1 with h1
 subst h1
 obtain ⟨u,hu⟩:=hf m[0]
 have h3:=h2 0 u hu
 have hblk:((x.add (0*v)).add 0).block=x.block:=by
  unfold Addr.add;split <;> split <;> rfl
 unfold St.cell at h3
 rw [hblk] at h3
 rcases Nat.lt_or_ge x.block S.length with h' | h'
 ·exact h'
 ·rw [List.getElem?_eq_none h'] at h3;cases h3
theorem Kp.low {L:Nat} (h:Kp M S S1) (hl:∀ i∈M,L<=i) {T:St} (hT:T <+: S) (hL:T.length<=L):T <+: S1:=by
 rw [List.prefix_iff_getElem?]
 intro i hi
 have h1:i < S.length:=Nat.lt_of_lt_of_le hi hT.length_le
 rw [h.keep i h1 λ hm=>by have:=hl i hm;omega]
 rw [pre_at hT hi,List.getElem?_eq_getElem hi]
end
variable {z l:List Value} {S S':St} {r n:Nat} {f:List Value->Int}
end Go.AM
namespace Go.AM
def HP (f:Nat->Int) (n:Nat):Prop:=∀ i,0 < i->i < n->f ((i-1) / 2)<=f i
def HUp (f:Nat->Int) (n j:Nat):Prop:=(∀ i,0 < i->i < n->i≠j->f ((i-1) / 2)<=f i)/\∀ i,0 < i->i < n->(i-1) / 2=j->0 < j->f ((j-1) / 2)<=f i
def HDn (f:Nat->Int) (n i:Nat):Prop:=(∀ k,0 < k->k < n->(k-1) / 2≠i->f ((k-1) / 2)<=f k)/\∀ k,0 < k->k < n->(k-1) / 2=i->0 < i->f ((i-1) / 2)<=f k
def swp (f:Nat->Int) (i j:Nat):Nat->Int:=λ k=>if k=i then f j else if k=j then f i else f k
theorem HP.root {f:Nat->Int} {n:Nat} (h:HP f n):∀ i,i < n->f 0<=f i:=by
 intro i
 induction i using Nat.strongRecOn with
 | _ i ih =>
   intro hi
   rcases Nat.eq_zero_or_pos i with h0 | h0
   ·subst h0;exact Int.le_refl _
   ·exact Int.le_trans (ih ((i-1) / 2) (by omega) (by omega)) (h i h0 hi)
theorem HUp.stop {f:Nat->Int} {n j:Nat} (h:HUp f n j) (hs:j=0\/f ((j-1) / 2)<=f j):HP f n:=by
 intro i h0 hi
 by_cases e:i=j
 ·subst e
  rcases hs with hs | hs
  ·omega
  ·exact hs
 ·exact h.1 i h0 hi e
theorem HUp.step {f:Nat->Int} {n j:Nat} (h:HUp f n j) (h0:0 < j) (hj:j < n) (hs:f j<=f ((j-1) / 2)):HUp (swp f ((j-1) / 2) j) n ((j-1) / 2):=by
 obtain ⟨h1,h2⟩:=h
 have hp:(j-1) / 2≠j:=by omega
 constructor
 ·intro i i0 hi hne
  unfold swp
  by_cases e:i=j
  ·subst e
   rw [if_pos rfl,if_neg (Ne.symm hp),if_pos rfl]; exact hs
  ·rw [if_neg hne,if_neg e]
   by_cases e2:(i-1) / 2=(j-1) / 2
   ·rw [if_pos e2]
    have:=h1 i i0 hi e
    rw [e2] at this
    omega
   ·rw [if_neg e2]
    by_cases e3:(i-1) / 2=j
    ·rw [if_pos e3]; exact h2 i i0 hi e3 h0
    ·rw [if_neg e3]; exact h1 i i0 hi e
 ·intro i i0 hi he hp0
  unfold swp
  rw [if_neg (by omega),if_neg (by omega)]
  have k1:=h1 ((j-1) / 2) hp0 (by omega) hp
  by_cases e:i=j
  ·subst e
   rw [if_neg (Ne.symm hp),if_pos rfl]; exact k1
  ·rw [if_neg (by omega),if_neg e]
   have k2:=h1 i i0 hi e
   rw [he] at k2
   omega
theorem HP.push {f g:Nat->Int} {n:Nat} (h:HP f n) (hg:∀ i,i < n->g i=f i):HUp g (n+1) n:=by
 constructor
 ·intro i i0 hi hne
  rw [hg i (by omega),hg _ (by omega)]
  exact h i i0 (by omega)
 ·intro i i0 hi he h0
  omega
theorem HDn.stop {f:Nat->Int} {n i:Nat} (h:HDn f n i) (hs:∀ k,0 < k->k < n->(k-1) / 2=i->f i<=f k):HP f n:=by
 intro k h0 hk
 by_cases e:(k-1) / 2=i
 ·have:=hs k h0 hk e;rw [e]; exact this
 ·exact h.1 k h0 hk e
theorem HDn.step {f:Nat->Int} {n i j:Nat} (h:HDn f n i) (h0:0 < j) (hj:j < n) (he:(j-1) / 2=i) (hs:f j<=f i) (hm:∀ k,0 < k->k < n->(k-1) / 2=i->f j<=f k):HDn (swp f i j) n j:=by
 obtain ⟨h1,h2⟩:=h
 have hij:i≠j:=by omega
 constructor
 ·intro k k0 hk hne
  unfold swp
  by_cases e1:k=i
  ·subst e1
   rw [if_pos rfl,if_neg (by omega),if_neg hne]
   exact h2 j h0 hj he k0
  ·rw [if_neg e1]
   by_cases e2:k=j
   ·subst e2
    rw [if_pos rfl,if_pos he]; exact hs
   ·rw [if_neg e2]
    by_cases e3:(k-1) / 2=i
    ·rw [if_pos e3]; exact hm k k0 hk e3
    ·rw [if_neg e3,if_neg hne]; exact h1 k k0 hk e3
 ·intro k k0 hk hkj hj0
  unfold swp
  rw [if_pos he,if_neg (by omega),if_neg (by omega)]
  have:=h1 k k0 hk (by omega)
  rw [hkj] at this;exact this
theorem HP.pop {f:Nat->Int} {n:Nat} (h:HP f (n+1)):HDn (swp f 0 n) n 0:=by
 constructor
 ·intro k k0 hk hne
  unfold swp
  rw [if_neg hne,if_neg (by omega),if_neg (by omega),if_neg (by omega)]
  exact h k k0 (by omega)
 ·intro k k0 hk he h0
  omega
variable {α:Type}
def fT (t:α->Int) (l:List α):Nat->Int:=λ i=>if h:i < l.length then t l[i] else 0
theorem fT_at {t:α->Int} {l:List α} {i:Nat} (h:i < l.length):fT t l i=t l[i]:=by unfold fT;rw [dif_pos h]
def swpL (l:List α) (i j:Nat) (hi:i < l.length) (hj:j < l.length):List α:=(l.set i l[j]).set j l[i]
theorem swpL_len {l:List α} {i j:Nat} (hi:i < l.length) (hj:j < l.length):(swpL l i j hi hj).length=l.length:=by simp [swpL]
theorem swpL_perm {l:List α} {i j:Nat} (hi:i < l.length) (hj:j < l.length):(swpL l i j hi hj).Perm l:=List.set_set_perm hi hj
theorem fT_swp {t:α->Int} {l:List α} {i j:Nat} (hi:i < l.length) (hj:j < l.length):fT t (swpL l i j hi hj)=swp (fT t l) i j:=by
 funext k
 unfold swp
 by_cases hk:k < l.length
 ·rw [fT_at (by rw [swpL_len]; exact hk)]
  unfold swpL
  rw [List.getElem_set]
  by_cases e:j=k
  ·subst e
   rw [if_pos rfl]
   by_cases e2:j=i
   ·subst e2;rw [if_pos rfl,fT_at hj]
   ·rw [if_neg e2,if_pos rfl,fT_at hi]
  ·rw [if_neg e,List.getElem_set]
   by_cases e2:i=k
   ·subst e2;rw [if_pos rfl,if_pos rfl,fT_at hj]
   ·rw [if_neg e2,if_neg (Ne.symm e2),if_neg (Ne.symm e),fT_at hk]
 ·have h1:fT t (swpL l i j hi hj) k=0:=by unfold fT;rw [dif_neg (by rw [swpL_len]; exact hk)]
  have h2:fT t l k=0:=by unfold fT;rw [dif_neg hk]
  rw [h1,if_neg (by omega),if_neg (by omega),h2]
theorem fT_app {t:α->Int} {l m:List α}:∀ i,i < l.length->fT t (l++m) i=fT t l i:=λ i hi=>by
 rw [fT_at hi,fT_at (by rw [List.length_append]; omega),List.getElem_append_left hi]
theorem HP.first {t:α->Int} {l:List α} (h:HP (fT t l) l.length) (h0:0 < l.length):∀ x∈l,t l[0]<=t x:=λ x hx=>by
 obtain ⟨i,hi,rfl⟩:=List.mem_iff_getElem.1 hx
 have:=h.root i hi
 rwa [fT_at h0,fT_at hi] at this
theorem due_split (t:α->Int) (T:Int):∀ l:List α,(l.filter (λ x=>decide (t x<=T))++l.filter (λ x=>!decide (t x<=T))).Perm l
 | [] => .nil
 | x :: l => by
   have ih:=due_split t T l
   by_cases h:t x<=T
   ·rw [List.filter_cons,List.filter_cons,if_pos (by simp [h]),if_neg (by simp [h])]
    exact .cons x ih
   ·rw [List.filter_cons,List.filter_cons,if_neg (by simp [h]),if_pos (by simp [h])]
    exact List.perm_middle.trans (.cons x ih)
theorem due_told {t:α->Int} {T:Int} {l out rest:List α} (h:(out++rest).Perm l) (ho:∀ x∈out,t x<=T) (hr:∀ x∈rest,T < t x) :
 out.Perm (l.filter λ x=>decide (t x<=T))/\rest.Perm (l.filter λ x=>!decide (t x<=T)):=by
 have h1:=h.filter (λ x=>decide (t x<=T))
 have h2:=h.filter (λ x=>!decide (t x<=T))
 rw [List.filter_append] at h1 h2
 rw [List.filter_eq_self.2 (λ x hx=>by simpa using ho x hx),List.filter_eq_nil_iff.2 (λ x hx=>by have:=hr x hx;simp;omega),List.append_nil] at h1
 rw [List.filter_eq_nil_iff.2 (λ x hx=>by have:=ho x hx;simp;omega),List.filter_eq_self.2 (λ x hx=>by have:=hr x hx;simp;omega),List.nil_append] at h2
 exact ⟨h1,h2⟩
end Go.AM
namespace Go.AM
open Go
theorem powM_one {p:Int} (hk:known p=true) (n:Nat):powM p 1 n=1:=by
 unfold powM;rw [if_pos hk,Int.one_pow]
 rcases known_cases hk with rfl | rfl | rfl <;> decide
theorem invV_eq {p a:Int} (hk:known p=true) (h:red p a≠0):(invV p a).1=powM p a (p-2).toNat:=by
 unfold invV;rw [if_pos hk,if_neg h]
theorem back_eq {p o:Int} (h:(rootV p o).2=0):(backV p o).1=powM p (rootV p o).1 (p-2).toNat:=by
 obtain ⟨hk,h1,h2,h3,h4⟩:=root_ok h
 unfold backV
 rw [if_pos h]
 refine invV_eq hk ?_
 rw [h4]
 show red p (powM p _ _)≠0
 rw [red_powM hk]; exact gen_pow hk _
end Go.AM
namespace Go.AM
variable {α β:Type}
theorem turn_perm (A B:Nat):((List.range A).flatMap λ c=>(List.range B).map λ t=>c+A*t).Perm (List.range (A*B)):=by
 rw [List.perm_ext_iff_of_nodup ?_ List.nodup_range]
 ·intro x
  simp only [List.mem_flatMap,List.mem_map,List.mem_range]
  constructor
  ·rintro ⟨c,hc,t,ht,rfl⟩
   have : A*(t+1)<=A*B:=Nat.mul_le_mul_left _ ht
   rw [Nat.mul_succ] at this;omega
  ·intro hx
   have hA:0 < A:=by rcases Nat.eq_zero_or_pos A with h | h;(subst h;simp at hx); exact h
   exact ⟨x % A,Nat.mod_lt _ hA,x / A,Nat.div_lt_of_lt_mul hx,by rw [Nat.add_comm]; exact Nat.div_add_mod x A⟩
 ·unfold List.Nodup
  rw [List.pairwise_flatMap]
  refine ⟨λ c hc=>?_,?_⟩
  ·rw [List.pairwise_map]
   rw [List.mem_range] at hc
   refine List.nodup_range.imp ?_
   intro a b hab h
   have : A*a=A*b:=by omega
   exact hab (Nat.eq_of_mul_eq_mul_left (by omega) this)
  ·refine (List.Pairwise.imp_of_mem (R:=λ a b=>a≠b) ?_ List.nodup_range)
   intro a b ha hb hab x hx y hy
   rw [List.mem_range] at ha hb
   obtain ⟨s,hs,rfl⟩:=List.mem_map.1 hx
   obtain ⟨t,ht,rfl⟩:=List.mem_map.1 hy
   intro h
   have h1:(a+A*s) % A=(b+A*t) % A:=by rw [h]
   rw [Nat.add_mul_mod_self_left,Nat.add_mul_mod_self_left,Nat.mod_eq_of_lt ha,Nat.mod_eq_of_lt hb] at h1
   exact hab h1
theorem rows_eq (A:Nat):∀ B:Nat,((List.range B).flatMap λ a=>(List.range A).map λ b=>b+A*a)=List.range (A*B)
 | 0 => by simp
 | B + 1 => by
   rw [List.range_succ,List.flatMap_append,rows_eq A B,Nat.mul_succ]
   simp only [List.flatMap_cons,List.flatMap_nil,List.append_nil]
   rw [List.range_add]
   congr 1
   apply List.map_congr_left;intro b _;omega
structure GrN where
 i:List Nat
 f:List Nat
 o:List Nat
def lineN (inner d k i:Nat):Nat:=k / inner*d*inner+k % inner+i*inner
def stN (inner d n R L M:Nat):List GrN:=
 (List.range (n / d)).flatMap λ k=>(List.range M).flatMap λ a=>(List.range L).map λ b=>
   ⟨(List.range R).map λ t=>lineN inner d k (b+L*a+L*M*t),(List.range R).map λ t=>a*R+t,(List.range R).map λ t=>lineN inner d k (b+L*R*a+L*t)⟩
theorem flatMap_perm {l:List α} {f g:α->List β} (h:∀ x∈l,(f x).Perm (g x)):(l.flatMap f).Perm (l.flatMap g):=by
 induction l with
 | nil => exact .nil
 | cons x l ih =>
   rw [List.flatMap_cons,List.flatMap_cons]
   exact (h x (by simp)).append (ih λ y hy=>h y (by simp [hy]))
theorem flatMap_same {l:List α} {f g:α->List β} (h:∀ x∈l,f x=g x):l.flatMap f=l.flatMap g:=by
 induction l with
 | nil => rfl
 | cons x l ih =>
   rw [List.flatMap_cons,List.flatMap_cons,h x (by simp),ih λ y hy=>h y (by simp [hy])]
theorem lines_perm {inner d n m:Nat} (hn:n=m*(d*inner)) (hi:0 < inner) (hd:0 < d):((List.range (n / d)).flatMap λ k=>(List.range d).map λ i=>lineN inner d k i).Perm (List.range n):=by
 have e1:n / d=inner*m:=by rw [hn,<- Nat.mul_assoc,Nat.mul_right_comm,Nat.mul_div_cancel _ hd,Nat.mul_comm]
 have e3:n=(inner*d)*m:=by rw [hn,Nat.mul_comm d,Nat.mul_comm]
 rw [e1,<- rows_eq inner m,List.flatMap_assoc,e3,<- rows_eq (inner*d) m]
 refine flatMap_perm λ h _=>?_
 rw [List.flatMap_map]
 have e2:((List.range inner).flatMap λ lo=>(List.range d).map λ i=>lineN inner d (lo+inner*h) i)=((List.range inner).flatMap λ c=>(List.range d).map λ t=>c+inner*t).map (· + (inner*d)*h):=by
  rw [List.map_flatMap]
  refine flatMap_same λ lo hlo=>?_
  rw [List.map_map]
  refine List.map_congr_left λ i _=>?_
  rw [List.mem_range] at hlo
  unfold lineN
  have h1:(lo+inner*h) / inner=h:=by rw [Nat.add_mul_div_left _ _ hi,Nat.div_eq_of_lt hlo,Nat.zero_add]
  have h2:(lo+inner*h) % inner=lo:=by rw [Nat.add_mul_mod_self_left,Nat.mod_eq_of_lt hlo]
  rw [h1,h2]
  show h*d*inner+lo+i*inner=lo+inner*i+inner*d*h
  rw [Nat.mul_comm i,Nat.mul_comm h d,Nat.mul_assoc,Nat.mul_comm h inner,<- Nat.mul_assoc,Nat.mul_comm d inner]
  omega
 rw [e2]
 exact (turn_perm inner d).map _
theorem stN_out {inner d n m R L M:Nat} (hn:n=m*(d*inner)) (hi:0 < inner) (hd:d=L*(R*M)) (h0:0 < d):((stN inner d n R L M).flatMap GrN.o).Perm (List.range n):=by
 refine .trans ?_ (lines_perm hn hi h0)
 unfold stN
 rw [List.flatMap_assoc]
 refine flatMap_perm λ k _=>?_
 rw [List.flatMap_assoc]
 have e:∀ a,((List.range L).map λ b=>(⟨(List.range R).map λ t=>lineN inner d k (b+L*a+L*M*t),(List.range R).map λ t=>a*R+t,(List.range R).map λ t=>lineN inner d k (b+L*R*a+L*t)⟩:GrN)).flatMap GrN.o=(((List.range L).flatMap λ c=>(List.range R).map λ t=>c+L*t).map (· + L*R*a)).map (lineN inner d k):=by
  intro a
  rw [List.flatMap_map,List.map_map,List.map_flatMap]
  refine flatMap_same λ b _=>?_
  rw [List.map_map]
  refine List.map_congr_left λ t _=>?_
  show lineN inner d k _=lineN inner d k (b+L*t+L*R*a)
  congr 1;omega
 simp only [e]
 have hd':d=(L*R)*M:=by rw [hd,Nat.mul_assoc]
 rw [hd',<- rows_eq (L*R) M,List.map_flatMap]
 refine flatMap_perm λ a _=>?_
 rw [<- hd',List.map_map (g:=lineN inner d k) (f:=λ b=>b+L*R*a),<- List.map_map]
 exact ((turn_perm L R).map _).map _
theorem stN_in {inner d n m R L M:Nat} (hn:n=m*(d*inner)) (hi:0 < inner) (hd:d=L*(R*M)) (h0:0 < d):((stN inner d n R L M).flatMap GrN.i).Perm (List.range n):=by
 refine .trans ?_ (lines_perm hn hi h0)
 unfold stN
 rw [List.flatMap_assoc]
 refine flatMap_perm λ k _=>?_
 have e:(((List.range M).flatMap λ a=>(List.range L).map λ b=>(⟨(List.range R).map λ t=>lineN inner d k (b+L*a+L*M*t),(List.range R).map λ t=>a*R+t,(List.range R).map λ t=>lineN inner d k (b+L*R*a+L*t)⟩:GrN)).flatMap GrN.i)=((List.range (L*M)).flatMap λ c=>(List.range R).map λ t=>c+(L*M)*t).map (lineN inner d k):=by
  rw [<- rows_eq L M,List.flatMap_assoc,List.flatMap_assoc,List.map_flatMap]
  refine flatMap_same λ a _=>?_
  rw [List.flatMap_map,List.flatMap_map,List.map_flatMap]
  refine flatMap_same λ b _=>?_
  rw [List.map_map]
  exact List.map_congr_left λ t _=>rfl
 rw [e]
 have hd':d=(L*M)*R:=by rw [hd,Nat.mul_assoc,Nat.mul_comm R]
 rw [hd']
 have:=(turn_perm (L*M) R).map (lineN inner d k)
 rw [<- hd'] at this ⊢
 exact this
theorem stN_len {inner d n R L M:Nat} {g:GrN} (h:g∈stN inner d n R L M):g.i.length=R/\g.f.length=R/\g.o.length=R:=by
 unfold stN at h
 simp only [List.mem_flatMap,List.mem_map] at h
 obtain ⟨k,-,a,-,b,-,rfl⟩:=h
 simp
theorem stN_fac {inner d n R L M:Nat} {g:GrN} (h:g∈stN inner d n R L M):∀ x∈g.f,x < M*R:=by
 unfold stN at h
 simp only [List.mem_flatMap,List.mem_map,List.mem_range] at h
 obtain ⟨k,-,a,ha,b,-,rfl⟩:=h
 intro x hx
 simp only [List.mem_map,List.mem_range] at hx
 obtain ⟨t,ht,rfl⟩:=hx
 have : (a+1)*R<=M*R:=Nat.mul_le_mul_right _ ha
 rw [Nat.succ_mul] at this;omega
def sqP (p a:Int):Nat->Nat->Int
 | 0, _ => 1
 | k + 1, n => if n % 2 = 1 then sqP p a k (n / 2) * sqP p a k (n / 2) % p * a % p else sqP p a k (n / 2) * sqP p a k (n / 2) % p
theorem sqP_eq {p a:Int} (hk:known p=true):∀ (k n:Nat),n < 2 ^ k->sqP p a k n=powM p a n
 | 0, n, h => by
   have : n=0:=by simpa using h
   subst this;rw [powM_zero a hk]; rfl
 | k + 1, n, h => by
   have ih:=sqP_eq (a:=a) hk k (n / 2) (by rw [Nat.pow_succ] at h;omega)
   have e0:powM p a (n / 2)*powM p a (n / 2) % p=powM p a (n / 2+n / 2):=by
    have:=mulF_powM p a (n / 2) (n / 2)
    unfold mulF at this;rw [if_pos hk] at this;exact this
   have e1:∀ m,powM p a m*a % p=powM p a (m+1):=λ m=>by
    have:=mulF_powM1 p a m
    unfold mulF at this;rw [if_pos hk] at this;exact this
   unfold sqP
   rw [ih,e0,e1]
   split
   ·congr 1;omega
   ·congr 1;omega
theorem powM_val {p a v:Int} {n:Nat} (hk:known p=true) (h:n < 2 ^ 64) (hv:sqP p a 64 n=v):powM p a n=v:=by rw [<- sqP_eq hk 64 n h,hv]
theorem gen_one {p:Int} (hk:known p=true):powM p (genF p) (p-1).toNat=1:=by
 rcases known_cases hk with rfl | rfl | rfl <;> exact powM_val (by decide) (by decide +kernel) (by decide +kernel)
theorem gen_half {p:Int} (hk:known p=true):powM p (genF p) ((p-1) / 2).toNat=p-1:=by
 rcases known_cases hk with rfl | rfl | rfl <;> exact powM_val (by decide) (by decide +kernel) (by decide +kernel)
theorem gen_third {p:Int} (hk:known p=true) (h3:(p-1) % 3=0):(1+powM p (genF p) ((p-1) / 3).toNat+powM p (genF p) (2*((p-1) / 3).toNat)) % p=0:=by
 rcases known_cases hk with rfl | rfl | rfl
 ·rw [powM_val (v:=18446744065119617025) (by decide) (by decide +kernel) (by decide +kernel),powM_val (v:=4294967295) (by decide) (by decide +kernel) (by decide +kernel)]; decide
 ·exact absurd h3 (by decide)
 ·rw [powM_val (v:=sqP P2 (genF P2) 64 ((P2-1) / 3).toNat) (by decide) (by decide +kernel) rfl,powM_val (v:=sqP P2 (genF P2) 64 (2*((P2-1) / 3).toNat)) (by decide) (by decide +kernel) rfl]; decide +kernel
theorem addF_eq {p:Int} (hk:known p=true) (a b:Int):addF p a b=(a+b) % p:=by unfold addF;rw [if_pos hk]
theorem subF_eq {p:Int} (hk:known p=true) (a b:Int):subF p a b=(a-b) % p:=by unfold subF;rw [if_pos hk]
theorem mulF_eq {p:Int} (hk:known p=true) (a b:Int):mulF p a b=a*b % p:=by unfold mulF;rw [if_pos hk]
def Eqm (p a b:Int):Prop:=p ∣ a-b
theorem Eqm.refl {p a:Int}:Eqm p a a:=⟨0,by omega⟩
theorem Eqm.symm {p a b:Int} (h:Eqm p a b):Eqm p b a:=by obtain ⟨c,hc⟩:=h;exact ⟨-c,by rw [Int.mul_neg]; omega⟩
theorem Eqm.trans {p a b c:Int} (h:Eqm p a b) (k:Eqm p b c):Eqm p a c:=by
 obtain ⟨x,hx⟩:=h;obtain ⟨y,hy⟩:=k;exact ⟨x+y,by rw [Int.mul_add]; omega⟩
theorem Eqm.add {p a b c d:Int} (h:Eqm p a b) (k:Eqm p c d):Eqm p (a+c) (b+d):=by
 obtain ⟨x,hx⟩:=h;obtain ⟨y,hy⟩:=k;exact ⟨x+y,by rw [Int.mul_add]; omega⟩
theorem Eqm.sub {p a b c d:Int} (h:Eqm p a b) (k:Eqm p c d):Eqm p (a-c) (b-d):=by
 obtain ⟨x,hx⟩:=h;obtain ⟨y,hy⟩:=k;exact ⟨x-y,by rw [Int.mul_sub]; omega⟩
theorem Eqm.mul {p a b c d:Int} (h:Eqm p a b) (k:Eqm p c d):Eqm p (a*c) (b*d):=by
 obtain ⟨x,hx⟩:=h;obtain ⟨y,hy⟩:=k
 exact ⟨x*c+b*y,by grind⟩
theorem Eqm.pow {p a b:Int} (h:Eqm p a b):∀ n:Nat,Eqm p (a ^ n) (b ^ n)
 | 0 => by rw [Int.pow_zero, Int.pow_zero]; exact .refl
 | n + 1 => by rw [Int.pow_succ, Int.pow_succ]; exact (Eqm.pow h n).mul h
theorem Eqm.mod {p a:Int}:Eqm p (a % p) a:=⟨-(a / p),by have:=Int.emod_add_mul_ediv a p;rw [Int.mul_neg]; omega⟩
theorem Eqm.eq {p a b:Int} (h:Eqm p a b):a % p=b % p:=Int.emod_eq_emod_iff_emod_sub_eq_zero.2 (Int.emod_eq_zero_of_dvd h)
theorem Eqm.of {p a b:Int} (h:a % p=b % p):Eqm p a b:=Int.dvd_of_emod_eq_zero (Int.emod_eq_emod_iff_emod_sub_eq_zero.1 h)
theorem eqm_add {p:Int} (hk:known p=true) (a b:Int):Eqm p (addF p a b) (a+b):=by rw [addF_eq hk]; exact .mod
theorem eqm_sub {p:Int} (hk:known p=true) (a b:Int):Eqm p (subF p a b) (a-b):=by rw [subF_eq hk]; exact .mod
theorem eqm_mul {p:Int} (hk:known p=true) (a b:Int):Eqm p (mulF p a b) (a*b):=by rw [mulF_eq hk]; exact .mod
theorem eqm_pow {p:Int} (hk:known p=true) (a:Int) (n:Nat):Eqm p (powM p a n) (a ^ n):=by unfold powM;rw [if_pos hk]; exact .mod
def inP (p a:Int):Prop:=0<=a/\a < p
theorem inP_mod {p:Int} (hk:known p=true) (a:Int):inP p (a % p):=by
 have:=known_pos hk
 exact ⟨Int.emod_nonneg _ (by omega),Int.emod_lt_of_pos _ (by omega)⟩
theorem inP_add {p:Int} (hk:known p=true) (a b:Int):inP p (addF p a b):=by rw [addF_eq hk]; exact inP_mod hk _
theorem inP_sub {p:Int} (hk:known p=true) (a b:Int):inP p (subF p a b):=by rw [subF_eq hk]; exact inP_mod hk _
theorem inP_mul {p:Int} (hk:known p=true) (a b:Int):inP p (mulF p a b):=by rw [mulF_eq hk]; exact inP_mod hk _
theorem inP_red {p:Int} (hk:known p=true) (a:Int):inP p (red p a):=by unfold red;rw [if_pos hk]; exact inP_mod hk _
theorem inP_pow {p:Int} (hk:known p=true) (a:Int) (n:Nat):inP p (powM p a n):=by unfold powM;rw [if_pos hk]; exact inP_mod hk _
theorem inP_eq {p a b:Int} (ha:inP p a) (hb:inP p b) (h:Eqm p a b):a=b:=by
 have:=h.eq
 rwa [Int.emod_eq_of_lt ha.1 ha.2,Int.emod_eq_of_lt hb.1 hb.2] at this
def sumP (p:Int) (l:List Int):Int:=l.foldl (addF p) 0
theorem foldl_eqm {p:Int} (hk:known p=true):∀ (l:List Int) (a b:Int),Eqm p a b->Eqm p (l.foldl (addF p) a) (b+l.sum)
 | [], a, b, h => by simpa using h
 | x :: l, a, b, h => by
   rw [List.foldl_cons,List.sum_cons,<- Int.add_assoc]
   exact foldl_eqm hk l _ _ ((eqm_add hk a x).trans (h.add .refl))
theorem sumP_eqm {p:Int} (hk:known p=true) (l:List Int):Eqm p (sumP p l) l.sum:=by
 have:=foldl_eqm hk l 0 0 .refl
 rwa [Int.zero_add] at this
theorem foldl_in {p:Int} (hk:known p=true):∀ (l:List Int) (a:Int),inP p a->inP p (l.foldl (addF p) a)
 | [], a, h => h
 | x :: l, a, h => foldl_in hk l _ (inP_add hk a x)
theorem inP_zero {p:Int} (hk:known p=true):inP p 0:=by have:=known_pos hk;exact ⟨by omega,by omega⟩
theorem sumP_in {p:Int} (hk:known p=true) (l:List Int):inP p (sumP p l):=foldl_in hk l 0 (inP_zero hk)
def flyW (p:Int) (inv:Bool) (r:Int):Int:=if inv=true then (backV p r).1 else (rootV p r).1
theorem root_pow {p n:Int} (h:(rootV p n).2=0):(rootV p n).1=powM p (genF p) ((p-1) / n).toNat:=by
 obtain ⟨hk,h1,h2,h3,h4⟩:=root_ok h
 rw [h4]
theorem exp_split {p n:Int} (hk:known p=true) (h1:1<=n) (h3:(p-1) % n=0):((p-1) / n).toNat*n.toNat=(p-1).toNat:=by
 have hp:=known_pos hk
 have e:=Int.mul_ediv_cancel' (Int.dvd_of_emod_eq_zero h3)
 have h0:0<=(p-1) / n:=Int.ediv_nonneg (by omega) (by omega)
 have : ((((p-1) / n).toNat*n.toNat:Nat):Int)=p-1:=by
  rw [Int.natCast_mul,Int.toNat_of_nonneg h0,Int.toNat_of_nonneg (by omega),Int.mul_comm]; exact e
 omega
theorem root_one {p n:Int} (h:(rootV p n).2=0):Eqm p ((rootV p n).1 ^ n.toNat) 1:=by
 obtain ⟨hk,h1,h2,h3,h4⟩:=root_ok h
 rw [root_pow h]
 refine ((eqm_pow hk _ _).pow _).trans ?_
 rw [<- Int.pow_mul,exp_split hk h1 h3]
 exact (eqm_pow hk _ _).symm.trans (by rw [gen_one hk]; exact .refl)
theorem back_pow {p n:Int} (h:(rootV p n).2=0):Eqm p (backV p n).1 ((rootV p n).1 ^ (n.toNat-1)):=by
 obtain ⟨hk,h1,h2,h3,h4⟩:=root_ok h
 have hp:=known_pos hk
 rw [back_eq h]
 refine (eqm_pow hk _ _).trans ?_
 have g1:=root_one h
 have h5:Eqm p ((rootV p n).1 ^ (p-1).toNat) 1:=by
  rw [<- exp_split hk h1 h3,Nat.mul_comm,Int.pow_mul]
  have:=g1.pow ((p-1) / n).toNat
  rwa [Int.one_pow] at this
 have h6:Eqm p ((rootV p n).1 ^ (p-2).toNat) ((rootV p n).1 ^ (p-2).toNat*(rootV p n).1 ^ n.toNat):=by
  have:=(Eqm.refl (p:=p) (a:=(rootV p n).1 ^ (p-2).toNat)).mul g1.symm
  rwa [Int.mul_one] at this
 refine h6.trans ?_
 have h2p:2<=p:=by rcases known_cases hk with rfl | rfl | rfl <;> decide
 rw [<- Int.pow_add,show (p-2).toNat+n.toNat=(p-1).toNat+(n.toNat-1) by omega,Int.pow_add]
 have:=h5.mul (Eqm.refl (p:=p) (a:=(rootV p n).1 ^ (n.toNat-1)))
 rwa [Int.one_mul] at this
theorem half_root {p:Int} (hk:known p=true):(rootV p 2).2=0/\(rootV p 2).1=p-1:=by
 have h:(rootV p 2).2=0:=root_mk hk (by omega) (by omega) (by rcases known_cases hk with rfl | rfl | rfl <;> decide)
 exact ⟨h,by rw [root_pow h,gen_half hk]⟩
theorem root2 {p:Int} (hk:known p=true):Eqm p (rootV p 2).1 (-1):=by rw [(half_root hk).2]; exact ⟨1,by omega⟩
theorem root4 {p:Int} (h:(rootV p 4).2=0):Eqm p ((rootV p 4).1 ^ 2) (-1):=by
 obtain ⟨hk,h1,h2,h3,h4⟩:=root_ok h
 rw [root_pow h]
 refine ((eqm_pow hk _ _).pow _).trans ?_
 have e:((p-1) / 4).toNat*2=((p-1) / 2).toNat:=by omega
 rw [<- Int.pow_mul,e]
 exact (eqm_pow hk _ _).symm.trans (by rw [gen_half hk]; exact ⟨1,by omega⟩)
theorem root3 {p:Int} (h:(rootV p 3).2=0):Eqm p (1+(rootV p 3).1+(rootV p 3).1 ^ 2) 0:=by
 obtain ⟨hk,h1,h2,h3,h4⟩:=root_ok h
 rw [root_pow h]
 have h5:=gen_third hk h3
 have h6:Eqm p (1+powM p (genF p) ((p-1) / 3).toNat+powM p (genF p) (2*((p-1) / 3).toNat)) 0:=.of (by rw [h5]; simp)
 refine Eqm.trans (Eqm.add .refl ?_) h6
 refine ((eqm_pow hk _ _).pow _).trans ?_
 rw [<- Int.pow_mul,Nat.mul_comm]
 exact (eqm_pow hk _ _).symm
theorem fly2 {p:Int} {inv:Bool} (hk:known p=true):Eqm p (flyW p inv 2) (-1):=by
 unfold flyW
 cases inv with
 | false => simpa using root2 hk
 | true =>
   simp only [if_true]
   have:=back_pow (half_root hk).1
   refine this.trans ?_
   show Eqm p ((rootV p 2).1 ^ 1) (-1)
   rw [Int.pow_succ,Int.pow_zero,Int.one_mul]; exact root2 hk
theorem fly3 {p:Int} {inv:Bool} (h:(rootV p 3).2=0):Eqm p (1+flyW p inv 3+flyW p inv 3 ^ 2) 0:=by
 have g:=root3 h
 unfold flyW
 cases inv with
 | false => simpa using g
 | true =>
   simp only [if_true]
   have h1:=back_pow h
   have h2:=root_one h
   generalize (rootV p 3).1=w at g h1 h2
   have e1:Eqm p ((backV p 3).1 ^ 2) w:=by
    refine (h1.pow 2).trans ?_
    rw [<- Int.pow_mul]
    have:=h2.mul (Eqm.refl (p:=p) (a:=w))
    rw [Int.one_mul] at this
    refine Eqm.trans ?_ this
    show Eqm p (w ^ 4) (w ^ 3*w)
    rw [<- Int.pow_succ]; exact .refl
   refine ((Eqm.refl.add h1).add e1).trans ?_
   show Eqm p (1+w ^ 2+w) 0
   rw [Int.add_right_comm]; exact g
theorem fly4 {p:Int} {inv:Bool} (h:(rootV p 4).2=0):Eqm p (flyW p inv 4 ^ 2) (-1):=by
 have g:=root4 h
 unfold flyW
 cases inv with
 | false => simpa using g
 | true =>
   simp only [if_true]
   refine ((back_pow h).pow 2).trans ?_
   rw [<- Int.pow_mul]
   have h2:=root_one h
   generalize (rootV p 4).1=w at g h2 ⊢
   show Eqm p (w ^ 6) (-1)
   have:=h2.mul g
   rw [Int.one_mul] at this
   refine Eqm.trans ?_ this
   show Eqm p (w ^ 6) (w ^ 4*w ^ 2)
   rw [<- Int.pow_add]; exact .refl
def dftAt (p w:Int) (x:List Int) (u:Nat):Int:=(x.zipIdx.map λ e=>mulF p e.1 (powM p w (e.2*u % x.length))).foldl (addF p) 0
def flyV (p:Int) (inv:Bool) (x:List Int):List Int:=(List.range x.length).map λ u=>dftAt p (flyW p inv x.length) x u
theorem flyV_len (p:Int) (inv:Bool) (x:List Int):(flyV p inv x).length=x.length:=by simp [flyV]
theorem flyV_in {p:Int} (hk:known p=true) {inv:Bool} {x:List Int}:∀ y∈flyV p inv x,inP p y:=by
 intro y hy
 unfold flyV at hy
 obtain ⟨u,-,rfl⟩:=List.mem_map.1 hy
 exact sumP_in hk _
theorem sum_eqm {α:Type} {p:Int} {f g:α->Int}:∀ {l:List α},(∀ e∈l,Eqm p (f e) (g e))->Eqm p (l.map f).sum (l.map g).sum
 | [], _ => .refl
 | x :: l, h => by
   rw [List.map_cons,List.map_cons,List.sum_cons,List.sum_cons]
   exact (h x (by simp)).add (sum_eqm λ e he=>h e (by simp [he]))
theorem dftAt_eqm {p:Int} (hk:known p=true) (w:Int) (x:List Int) (u:Nat):Eqm p (dftAt p w x u) ((x.zipIdx.map λ e=>e.1*w ^ (e.2*u % x.length)).sum):=
 (sumP_eqm hk _).trans (sum_eqm λ e _=>(eqm_mul hk _ _).trans (Eqm.refl.mul (eqm_pow hk _ _)))
theorem dftAt_in {p:Int} (hk:known p=true) (w:Int) (x:List Int) (u:Nat):inP p (dftAt p w x u):=sumP_in hk _
theorem dft_is {p v:Int} (hk:known p=true) {w:Int} {x:List Int} {u:Nat} {a:Int} (hv:inP p v) (h1:Eqm p v a) (h2:Eqm p ((x.zipIdx.map λ e=>e.1*w ^ (e.2*u % x.length)).sum) a):dftAt p w x u=v:=
 inP_eq (dftAt_in hk _ _ _) hv ((dftAt_eqm hk w x u).trans (h2.trans h1.symm))
def addL (p:Int) (l:List Int):Int:=l.foldl (addF p) 0
def twoV (p:Int) (x0 x1:Int):List Int:=[addL p [x0,x1],subF p x0 x1]
def threeV (p w1:Int) (x0 x1 x2:Int):List Int:=
 [addL p [x0,x1,x2],addL p [subF p x0 x2,mulF p (subF p x1 x2) w1],subF p (subF p x0 x1) (mulF p (subF p x1 x2) w1)]
def fourV (p w1:Int) (x0 x1 x2 x3:Int):List Int:=
 [addL p [addL p [x0,x2],addL p [x1,x3]],addL p [subF p x0 x2,mulF p (subF p x1 x3) w1],subF p (addL p [x0,x2]) (addL p [x1,x3]),subF p (subF p x0 x2) (mulF p (subF p x1 x3) w1)]
def fiveAt (p w:Int) (x:List Int) (u:Nat):Int:=((List.range 4).map λ t=>mulF p (x.getD (t+1) 0) (powM p w ((t+1)*u % 5))).foldl (λ s y=>addL p [s,y]) (x.getD 0 0)
def fiveV (p w:Int) (x:List Int):List Int:=addL p x :: (List.range 4).map λ u=>fiveAt p w x (u+1)
theorem addL_eqm {p:Int} (hk:known p=true) (l:List Int):Eqm p (addL p l) l.sum:=sumP_eqm hk l
theorem addL_in {p:Int} (hk:known p=true) (l:List Int):inP p (addL p l):=sumP_in hk l
theorem two_is {p:Int} (hk:known p=true) {inv:Bool} {x0 x1:Int}:flyV p inv [x0,x1]=twoV p x0 x1:=by
 have h2:=fly2 (inv:=inv) hk
 unfold flyV twoV
 show [dftAt p _ _ 0,dftAt p _ _ 1]=_
 generalize hw:flyW p inv (([x0,x1]:List Int).length:Int)=w
 have hw':Eqm p w (-1):=by rw [<- hw]; exact h2
 congr 1
 ·refine dft_is hk (a:=x0+x1) (addL_in hk _) ((addL_eqm hk _).trans (by simp;exact .refl)) ?_
  simp;exact .refl
 congr 1
 ·refine dft_is hk (a:=x0-x1) (inP_sub hk _ _) (eqm_sub hk _ _) ?_
  simp
  obtain ⟨c,hc⟩:=hw'
  exact ⟨x1*c,by grind⟩
theorem three_is {p:Int} {inv:Bool} (h:(rootV p 3).2=0) {x0 x1 x2:Int}:flyV p inv [x0,x1,x2]=threeV p (powM p (flyW p inv 3) 1) x0 x1 x2:=by
 obtain ⟨hk,-⟩:=root_ok h
 have h3:=fly3 (inv:=inv) h
 unfold flyV threeV
 show [dftAt p _ _ 0,dftAt p _ _ 1,dftAt p _ _ 2]=_
 generalize hw:flyW p inv (([x0,x1,x2]:List Int).length:Int)=w
 have hw':flyW p inv 3=w:=hw
 rw [hw'] at h3
 have e1:Eqm p (powM p w 1) w:=(eqm_pow hk w 1).trans (by rw [Int.pow_succ,Int.pow_zero,Int.one_mul]; exact .refl)
 have et:Eqm p (mulF p (subF p x1 x2) (powM p w 1)) ((x1-x2)*w):=(eqm_mul hk _ _).trans ((eqm_sub hk _ _).mul e1)
 congr 1
 ·refine dft_is hk (a:=x0+x1+x2) (addL_in hk _) ((addL_eqm hk _).trans (by simp [Int.add_assoc]; exact .refl)) ?_
  simp [Int.add_assoc]; exact .refl
 congr 1
 ·refine dft_is hk (a:=(x0-x2)+(x1-x2)*w) (addL_in hk _) ((addL_eqm hk _).trans (by simp;exact (eqm_sub hk _ _).add et)) ?_
  simp
  obtain ⟨c,hc⟩:=h3
  exact ⟨x2*c,by grind⟩
 congr 1
 ·refine dft_is hk (a:=(x0-x1)-(x1-x2)*w) (inP_sub hk _ _) ((eqm_sub hk _ _).trans ((eqm_sub hk _ _).sub et)) ?_
  simp
  obtain ⟨c,hc⟩:=h3
  exact ⟨x1*c,by grind⟩
theorem four_is {p:Int} {inv:Bool} (h:(rootV p 4).2=0) {x0 x1 x2 x3:Int}:flyV p inv [x0,x1,x2,x3]=fourV p (powM p (flyW p inv 4) 1) x0 x1 x2 x3:=by
 obtain ⟨hk,-⟩:=root_ok h
 have h3:=fly4 (inv:=inv) h
 unfold flyV fourV
 show [dftAt p _ _ 0,dftAt p _ _ 1,dftAt p _ _ 2,dftAt p _ _ 3]=_
 generalize hw:flyW p inv (([x0,x1,x2,x3]:List Int).length:Int)=w
 have hw':flyW p inv 4=w:=hw
 rw [hw'] at h3
 have e1:Eqm p (powM p w 1) w:=(eqm_pow hk w 1).trans (by rw [Int.pow_succ,Int.pow_zero,Int.one_mul]; exact .refl)
 have et:Eqm p (mulF p (subF p x1 x3) (powM p w 1)) ((x1-x3)*w):=(eqm_mul hk _ _).trans ((eqm_sub hk _ _).mul e1)
 have e2:∀ a b:Int,Eqm p (addL p [a,b]) (a+b):=λ a b=>(addL_eqm hk _).trans (by simp;exact .refl)
 congr 1
 ·refine dft_is hk (a:=(x0+x2)+(x1+x3)) (addL_in hk _) ((addL_eqm hk _).trans (by simp;exact (e2 _ _).add (e2 _ _))) ?_
  simp;exact ⟨0,by omega⟩
 congr 1
 ·refine dft_is hk (a:=(x0-x2)+(x1-x3)*w) (addL_in hk _) ((addL_eqm hk _).trans (by simp;exact (eqm_sub hk _ _).add et)) ?_
  simp
  obtain ⟨c,hc⟩:=h3
  exact ⟨(x2+x3*w)*c,by grind⟩
 congr 1
 ·refine dft_is hk (a:=(x0+x2)-(x1+x3)) (inP_sub hk _ _) ((eqm_sub hk _ _).trans ((e2 _ _).sub (e2 _ _))) ?_
  simp
  obtain ⟨c,hc⟩:=h3
  exact ⟨(x1+x3)*c,by grind⟩
 congr 1
 ·refine dft_is hk (a:=(x0-x2)-(x1-x3)*w) (inP_sub hk _ _) ((eqm_sub hk _ _).trans ((eqm_sub hk _ _).sub et)) ?_
  simp
  obtain ⟨c,hc⟩:=h3
  exact ⟨(x2+x1*w)*c,by grind⟩
theorem five_is {p:Int} {inv:Bool} (h:(rootV p 5).2=0) {x0 x1 x2 x3 x4:Int} (h0:inP p x0):flyV p inv [x0,x1,x2,x3,x4]=fiveV p (flyW p inv 5) [x0,x1,x2,x3,x4]:=by
 obtain ⟨hk,-⟩:=root_ok h
 unfold flyV fiveV
 show [dftAt p _ _ 0,dftAt p _ _ 1,dftAt p _ _ 2,dftAt p _ _ 3,dftAt p _ _ 4]=_
 generalize hw:flyW p inv (([x0,x1,x2,x3,x4]:List Int).length:Int)=w
 have hw':flyW p inv 5=w:=hw
 skip
 have e2:∀ a b:Int,Eqm p (addL p [a,b]) (a+b):=λ a b=>(addL_eqm hk _).trans (by simp;exact .refl)
 have key:∀ u,dftAt p w [x0,x1,x2,x3,x4] u=fiveAt p w [x0,x1,x2,x3,x4] u:=by
  intro u
  refine dft_is hk (a:=x0+(x1*w ^ (1*u % 5)+(x2*w ^ (2*u % 5)+(x3*w ^ (3*u % 5)+x4*w ^ (4*u % 5))))) ?_ ?_ ?_
  ·show inP p (addL p [_,_]); exact addL_in hk _
  ·show Eqm p (addL p [addL p [addL p [addL p [x0,mulF p x1 (powM p w (1*u % 5))],mulF p x2 (powM p w (2*u % 5))],mulF p x3 (powM p w (3*u % 5))],mulF p x4 (powM p w (4*u % 5))]) _
   have em:∀ (a:Int) (n:Nat),Eqm p (mulF p a (powM p w n)) (a*w ^ n):=λ a n=>(eqm_mul hk _ _).trans (Eqm.refl.mul (eqm_pow hk _ _))
   refine ((e2 _ _).trans (((e2 _ _).trans (((e2 _ _).trans (((e2 _ _).trans (Eqm.refl.add (em _ _))).add (em _ _))).add (em _ _))).add (em _ _))).trans ?_
   exact ⟨0,by omega⟩
  ·simp;exact .refl
 show _=addL p _ :: [fiveAt p w _ 1,fiveAt p w _ 2,fiveAt p w _ 3,fiveAt p w _ 4]
 rw [key 1,key 2,key 3,key 4]
 congr 1
 refine dft_is hk (a:=x0+(x1+(x2+(x3+x4)))) (addL_in hk _) ((addL_eqm hk _).trans (by simp;exact .refl)) ?_
 simp;exact .refl
def csum (c:Nat->Int):Nat->List Int->Int
 | _, [] => 0
 | k, x :: l => x * c k + csum c (k + 1) l
theorem csum_set (c:Nat->Int):∀ (l:List Int) (k i:Nat) (v:Int),i < l.length->csum c k (l.set i v)=csum c k l+(v-l.getD i 0)*c (k+i)
 | [], k, i, v, h => by simp at h
 | x :: l, k, 0, v, h => by
   simp only [List.set_cons_zero,csum,Nat.add_zero,List.getD_cons_zero]; rw [Int.sub_mul]; omega
 | x :: l, k, i + 1, v, h => by
   simp only [List.set_cons_succ,csum,List.getD_cons_succ]
   rw [csum_set c l (k+1) i v (by simpa using h),show k+1+i=k+(i+1) by omega]; omega
theorem csum_zero (c:Nat->Int):∀ n k,csum c k (List.replicate n 0)=0
 | 0, k => rfl
 | n + 1, k => by rw [List.replicate_succ]; simp only [csum, csum_zero c n]; simp
theorem csum_one:∀ (l:List Int) k,csum (λ _=>1) k l=l.sum
 | [], k => rfl
 | x :: l, k => by simp only [csum, csum_one l, List.sum_cons, Int.mul_one]
def scat (a:List Int) (l:List (Nat×Int)):List Int:=l.foldl (λ a e=>a.set e.1 e.2) a
theorem scat_len:∀ (l:List (Nat×Int)) (a:List Int),(scat a l).length=a.length
 | [], a => rfl
 | e :: l, a => by rw [scat, List.foldl_cons]; exact (scat_len l _).trans (by simp)
theorem scat_app (a:List Int) (l m:List (Nat×Int)):scat a (l++m)=scat (scat a l) m:=by unfold scat;rw [List.foldl_append]
theorem scat_other:∀ (l:List (Nat×Int)) (a:List Int) (i:Nat),i∉l.map (·.1)->(scat a l)[i]? = a[i]?
 | [], a, i, h => rfl
 | e :: l, a, i, h => by
   rw [scat,List.foldl_cons]
   have h1:i≠e.1:=λ q=>h (by simp [q])
   have:=scat_other l (a.set e.1 e.2) i (λ q=>h (by simp only [List.map_cons]; exact List.mem_cons_of_mem _ q))
   exact this.trans (by rw [List.getElem?_set_ne (Ne.symm h1)])
theorem scat_at:∀ (l:List (Nat×Int)) (a:List Int),(l.map (·.1)).Nodup->∀ e∈l,e.1 < a.length->(scat a l)[e.1]? = some e.2
 | [], a, _, e, h, _ => by cases h
 | x :: l, a, hn, e, h, hl => by
   rw [List.map_cons,List.nodup_cons] at hn
   rw [scat,List.foldl_cons]
   rcases List.mem_cons.1 h with rfl | h
   ·have:=scat_other l (a.set e.1 e.2) e.1 hn.1
    exact this.trans (by rw [List.getElem?_set_self hl])
   ·exact scat_at l _ hn.2 e h (by simpa using hl)
theorem csum_scat (c:Nat->Int):∀ (l:List (Nat×Int)) (a:List Int),(l.map (·.1)).Nodup->(∀ e∈l,e.1 < a.length/\a.getD e.1 0=0)->csum c 0 (scat a l)=csum c 0 a+(l.map λ e=>e.2*c e.1).sum
 | [], a, _, _ => by simp [scat]
 | x :: l, a, hn, h => by
   rw [List.map_cons,List.nodup_cons] at hn
   obtain ⟨h1,h2⟩:=h x (by simp)
   have hs:scat a (x :: l)=scat (a.set x.1 x.2) l:=rfl
   rw [hs,csum_scat c l _ hn.2 ?_,csum_set c a 0 x.1 x.2 h1,h2,List.map_cons,List.sum_cons,Nat.zero_add]
   ·rw [Int.sub_zero]; omega
   ·intro e he
    obtain ⟨h3,h4⟩:=h e (by simp [he])
    refine ⟨by simpa using h3,?_⟩
    have hne:x.1≠e.1:=λ q=>hn.1 (by rw [q]; exact List.mem_map_of_mem he)
    rw [List.getD_eq_getElem?_getD,List.getElem?_set_ne hne,<- List.getD_eq_getElem?_getD]; exact h4
def sumsV (p:Int) (y:List Int):Int×Int:=(y.sum % p,csum (λ i=>(i:Int)+1) 0 y % p)
def gyV (p:Int) (inv tw:Bool) (w:List Int):List Int:=if tw=true then w else flyV p inv w
def gpairs (p:Int) (inv tw:Bool) (tab x:List Int) (g:GrN):List (Nat×Int):=
 g.o.zip (List.zipWith (mulF p) (gyV p inv tw (g.i.map λ i=>x.getD i 0)) (g.f.map λ i=>tab.getD i 0))
def doG (p:Int) (inv tw:Bool) (n:Nat) (gs:List GrN) (tab x:List Int):List Int:=scat (List.replicate n 0) (gs.flatMap (gpairs p inv tw tab x))
def wtV (p:Int) (tw:Bool) (y by_:List Int):Int:=if tw=true then mulF p (y.getD 0 0) (by_.getD 0 0) else addL p (List.zipWith (mulF p) y by_)
def predStep (p:Int) (inv tw:Bool) (tab x:List Int) (s:Int×Int) (g:GrN):Int×Int:=
 let y:=gyV p inv tw (g.i.map λ i=>x.getD i 0)
 let once:=g.f.map λ i=>tab.getD i 0
 let placed:=List.zipWith (λ f (o:Nat)=>mulF p f ((o:Int)+1)) once g.o
 (addF p s.1 (wtV p tw y once),addF p s.2 (wtV p tw y placed))
def predG (p:Int) (inv tw:Bool) (gs:List GrN) (tab x:List Int):Int×Int:=gs.foldl (predStep p inv tw tab x) (0,0)
structure GrN.ok (tw:Bool) (g:GrN):Prop where
 f:g.f.length=g.i.length
 o:g.o.length=g.i.length
 t:tw=true->g.i.length=1
theorem gyV_len (p:Int) (inv tw:Bool) (w:List Int):(gyV p inv tw w).length=w.length:=by
 unfold gyV;split
 ·rfl
 ·exact flyV_len _ _ _
theorem zip_sum_eqm {p:Int} (hk:known p=true) (c:Nat->Int):∀ (y f:List Int) (o:List Nat),Eqm p ((List.zipWith (mulF p) y (List.zipWith (λ f o=>mulF p f (c o)) f o)).sum) (((o.zip (List.zipWith (mulF p) y f)).map λ e=>e.2*c e.1).sum)
 | [], f, o => by simp; exact .refl
 | y, [], o => by simp; exact .refl
 | y, f, [] => by simp; exact .refl
 | a :: y, b :: f, o :: os => by
   simp only [List.zipWith_cons_cons,List.zip_cons_cons,List.map_cons,List.sum_cons]
   refine Eqm.add ?_ (zip_sum_eqm hk c y f os)
   refine (eqm_mul hk _ _).trans ((Eqm.refl.mul (eqm_mul hk _ _)).trans ?_)
   rw [<- Int.mul_assoc]
   exact ((eqm_mul hk _ _).symm).mul .refl
theorem wt_eqm {p:Int} (hk:known p=true) {tw:Bool} {y by_:List Int} (h1:tw=true->y.length=1/\by_.length=1):Eqm p (wtV p tw y by_) ((List.zipWith (mulF p) y by_).sum):=by
 unfold wtV
 cases tw with
 | false => exact sumP_eqm hk _
 | true =>
   obtain ⟨h2,h3⟩:=h1 rfl
   obtain ⟨a,rfl⟩:=List.length_eq_one_iff.1 h2
   obtain ⟨b,rfl⟩:=List.length_eq_one_iff.1 h3
   simp;exact .refl
theorem zw_one {p:Int} (hk:known p=true):∀ (y f:List Int) (o:List Nat),f.length=o.length->Eqm p ((List.zipWith (mulF p) y f).sum) (((o.zip (List.zipWith (mulF p) y f)).map λ e=>e.2*1).sum)
 | [], f, o, h => by simp; exact .refl
 | y, [], o, h => by simp; exact .refl
 | y, b :: f, [], h => by simp at h
 | a :: y, b :: f, o :: os, h => by
   simp only [List.zipWith_cons_cons,List.zip_cons_cons,List.map_cons,List.sum_cons,Int.mul_one]
   have:=zw_one hk y f os (by simpa using h)
   simp only [Int.mul_one] at this
   exact Eqm.refl.add this
theorem predStep_eqm {p:Int} (hk:known p=true) {inv tw:Bool} {tab x:List Int} {s:Int×Int} {g:GrN} (hg:g.ok tw) :
 Eqm p (predStep p inv tw tab x s g).1 (s.1+((gpairs p inv tw tab x g).map λ e=>e.2*1).sum)/\Eqm p (predStep p inv tw tab x s g).2 (s.2+((gpairs p inv tw tab x g).map λ e=>e.2*((e.1:Int)+1)).sum):=by
 have hl:(gyV p inv tw (g.i.map λ i=>x.getD i 0)).length=g.i.length:=by rw [gyV_len,List.length_map]
 constructor
 ·refine (eqm_add hk _ _).trans (Eqm.refl.add ?_)
  refine (wt_eqm hk λ h=>⟨by rw [hl,hg.t h],by rw [List.length_map,hg.f,hg.t h]⟩).trans ?_
  exact zw_one hk _ _ _ (by rw [List.length_map,hg.f,hg.o])
 ·refine (eqm_add hk _ _).trans (Eqm.refl.add ?_)
  refine (wt_eqm hk λ h=>⟨by rw [hl,hg.t h],by rw [List.length_zipWith,List.length_map,hg.f,hg.o,hg.t h]; rfl⟩).trans ?_
  exact zip_sum_eqm hk (λ o=>(o:Int)+1) _ _ _
theorem predG_eqm {p:Int} (hk:known p=true) {inv tw:Bool} {tab x:List Int}:∀ (gs:List GrN) (s:Int×Int),(∀ g∈gs,g.ok tw) ->
 Eqm p (gs.foldl (predStep p inv tw tab x) s).1 (s.1+((gs.flatMap (gpairs p inv tw tab x)).map λ e=>e.2*1).sum)/\Eqm p (gs.foldl (predStep p inv tw tab x) s).2 (s.2+((gs.flatMap (gpairs p inv tw tab x)).map λ e=>e.2*((e.1:Int)+1)).sum)
 | [], s, _ => by simp; exact ⟨.refl, .refl⟩
 | g :: gs, s, h => by
   obtain ⟨h1,h2⟩:=predG_eqm hk gs (predStep p inv tw tab x s g) (λ g' hg'=>h g' (by simp [hg']))
   obtain ⟨h3,h4⟩:=predStep_eqm (inv:=inv) (tab:=tab) (x:=x) (s:=s) hk (h g (by simp))
   rw [List.foldl_cons,List.flatMap_cons,List.map_append,List.map_append,List.sum_append,List.sum_append,<- Int.add_assoc,<- Int.add_assoc]
   exact ⟨h1.trans (h3.add .refl),h2.trans (h4.add .refl)⟩
theorem predG_in {p:Int} (hk:known p=true) {inv tw:Bool} {tab x:List Int}:∀ (gs:List GrN) (s:Int×Int),inP p s.1/\inP p s.2->inP p (gs.foldl (predStep p inv tw tab x) s).1/\inP p (gs.foldl (predStep p inv tw tab x) s).2
 | [], s, h => h
 | g :: gs, s, h => predG_in hk gs _ ⟨inP_add hk _ _, inP_add hk _ _⟩
theorem gpairs_fst {p:Int} {inv tw:Bool} {tab x:List Int} {g:GrN} (hg:g.ok tw):(gpairs p inv tw tab x g).map (·.1)=g.o:=by
 unfold gpairs
 rw [List.map_fst_zip]
 rw [List.length_zipWith,gyV_len,List.length_map,List.length_map,hg.f,hg.o]; omega
theorem gpairs_all {p:Int} {inv tw:Bool} {tab x:List Int}:∀ {gs:List GrN},(∀ g∈gs,g.ok tw)->(gs.flatMap (gpairs p inv tw tab x)).map (·.1)=gs.flatMap GrN.o
 | [], _ => rfl
 | g :: gs, h => by
   rw [List.flatMap_cons,List.flatMap_cons,List.map_append,gpairs_fst (h g (by simp)),gpairs_all λ g' hg'=>h g' (by simp [hg'])]
theorem pred_is {p:Int} (hk:known p=true) {inv tw:Bool} {n:Nat} {gs:List GrN} {tab x:List Int} (hg:∀ g∈gs,g.ok tw) (ho:(gs.flatMap GrN.o).Perm (List.range n)) :
 predG p inv tw gs tab x=sumsV p (doG p inv tw n gs tab x):=by
 obtain ⟨h1,h2⟩:=predG_eqm (inv:=inv) (tab:=tab) (x:=x) hk gs (0,0) hg
 obtain ⟨h3,h4⟩:=predG_in (inv:=inv) (tab:=tab) (x:=x) hk gs (0,0) ⟨inP_zero hk,inP_zero hk⟩
 have hfst:=gpairs_all (p:=p) (inv:=inv) (tab:=tab) (x:=x) hg
 have hnd:((gs.flatMap (gpairs p inv tw tab x)).map (·.1)).Nodup:=by rw [hfst]; exact ho.nodup_iff.2 List.nodup_range
 have hlt:∀ e∈gs.flatMap (gpairs p inv tw tab x),e.1 < (List.replicate n (0:Int)).length/\(List.replicate n (0:Int)).getD e.1 0=0:=by
  intro e he
  have : e.1∈gs.flatMap GrN.o:=by rw [<- hfst]; exact List.mem_map_of_mem he
  have:=List.mem_range.1 (ho.mem_iff.1 this)
  refine ⟨by simpa using this,?_⟩
  simp [List.getD_eq_getElem?_getD,this]
 have key:∀ c,csum c 0 (doG p inv tw n gs tab x)=((gs.flatMap (gpairs p inv tw tab x)).map λ e=>e.2*c e.1).sum:=by
  intro c
  unfold doG
  rw [csum_scat c _ _ hnd hlt,csum_zero,Int.zero_add]
 unfold sumsV
 rw [<- csum_one _ 0,key,key]
 simp only [Int.zero_add] at h1 h2
 exact Prod.ext (inP_eq h3 (inP_mod hk _) (h1.trans Eqm.mod.symm)) (inP_eq h4 (inP_mod hk _) (h2.trans Eqm.mod.symm))
end Go.AM
namespace Go.AM
open Go
theorem sA0 {S l:St} {o v:AObj}:List.set (S++o :: l) S.length v=S++v :: l:=by rw [List.set_append_right (h:=Nat.le_refl _),Nat.sub_self]; rfl
theorem sA1 {S l:St} {o p v:AObj}:List.set (S++o :: p :: l) (S.length+1) v=S++o :: v :: l:=by rw [List.set_append_right (h:=by omega),Nat.add_sub_cancel_left]; rfl
theorem sA2 {S l:St} {o p r v:AObj}:List.set (S++o :: p :: r :: l) (S.length+2) v=S++o :: p :: v :: l:=by rw [List.set_append_right (h:=by omega),Nat.add_sub_cancel_left]; rfl
theorem gA0 {S l:St} {o:AObj}:(S++o :: l)[S.length]? = some o:=by rw [List.getElem?_append_right (by omega),Nat.sub_self]; rfl
theorem gA1 {S l:St} {o p:AObj}:(S++o :: p :: l)[S.length+1]? = some p:=by rw [List.getElem?_append_right (by omega),Nat.add_sub_cancel_left]; rfl
theorem gA2 {S l:St} {o p r:AObj}:(S++o :: p :: r :: l)[S.length+2]? = some r:=by rw [List.getElem?_append_right (by omega),Nat.add_sub_cancel_left]; rfl
theorem gA {S l:St} {i:Nat}:(S++l)[S.length+i]? = l[i]?:=by rw [List.getElem?_append_right (by omega),Nat.add_sub_cancel_left]
theorem sA {S l:St} {i:Nat} {v:AObj}:List.set (S++l) (S.length+i) v=S++l.set i v:=by rw [List.set_append_right (h:=by omega),Nat.add_sub_cancel_left]
structure Mo (T:List Nat) (S:St) (T':List Nat) (S':St):Prop where
 kp:Kp T S S'
 own:∀ i∈T',i∈T\/S.length<=i
theorem Mo.refl {T:List Nat} {S:St}:Mo T S T S:=⟨.refl,λ _ h=>.inl h⟩
theorem Mo.trans {T T1 T2:List Nat} {S S1 S2:St} (h:Mo T S T1 S1) (k:Mo T1 S1 T2 S2):Mo T S T2 S2 where
 kp:=⟨Nat.le_trans h.kp.len k.kp.len,λ i hi hn=>by
  rw [k.kp.keep i (Nat.lt_of_lt_of_le hi h.kp.len) (λ hm=>by rcases h.own i hm with h' | h'; exact hn h'; omega),h.kp.keep i hi hn]⟩
 own:=λ i hi=>by
  rcases k.own i hi with h' | h'
  ·exact h.own i h'
  ·have:=h.kp.len;exact .inr (by omega)
theorem Mo.more {T T1:List Nat} {S S1 S2:St} (h:Mo T S T1 S1) (k:S1 <+: S2):Mo T S T1 S2:=⟨h.kp.more k,h.own⟩
theorem Mo.pre {T T1:List Nat} {S S1 S2:St} (h:S <+: S1) (k:Mo T S1 T1 S2):Mo T S T1 S2:=⟨.pre h k.kp,λ i hi=>(k.own i hi).imp id λ h'=>Nat.le_trans h.length_le h'⟩
theorem Mo.of {T:List Nat} {S S1:St} (h:S <+: S1):Mo T S T S1:=⟨.of h,λ _ h=>.inl h⟩
theorem Mo.get {T T':List Nat} {S S':St} (h:Mo T S T' S') {i:Nat} {o:AObj} (hi:S[i]? = some o) (hn:i∉T):S'[i]? = some o:=h.kp.get hi hn
theorem Mo.out {T T':List Nat} {S S':St} (h:Mo T S T' S') {i:Nat} (hn:i∉T) (hl:i < S.length):i∉T':=λ hm=>by
 rcases h.own i hm with h' | h'
 ·exact hn h'
 ·omega
theorem Mo.low {T T':List Nat} {S S' S0:St} (h:Mo T S T' S') (h0:S0 <+: S) (hT:∀ i∈T,S0.length<=i):S0 <+: S':=h.kp.low hT h0 (Nat.le_refl _)
theorem flat_id:∀ l:List Nat,(l.flatMap λ a=>[a])=l
 | [] => rfl
 | x :: l => by rw [List.flatMap_cons, flat_id l]; rfl
def prodN (l:List Nat):Nat:=l.foldr (· * ·) 1
theorem prodN_cons (a:Nat) (l:List Nat):prodN (a :: l)=a*prodN l:=rfl
theorem prodN_app:∀ a b:List Nat,prodN (a++b)=prodN a*prodN b
 | [], b => by simp [prodN]
 | x :: a, b => by rw [List.cons_append, prodN_cons, prodN_cons, prodN_app a b, Nat.mul_assoc]
theorem prodN_pos:∀ l:List Nat,(∀ x∈l,1<=x)->1<=prodN l
 | [], _ => Nat.le_refl _
 | x :: l, h => by
   rw [prodN_cons]
   exact Nat.mul_pos (h x (by simp)) (prodN_pos l λ y hy=>h y (by simp [hy]))
def ndOf (l:List Ax):List Nat:=l.map λ a=>a.N.toNat
theorem allGo_prod:∀ (l:List Int) (n:Nat),(allGo (n:Int) l).2=0->(∀ x∈l,1<=x/\x<=4096)/\(allGo (n:Int) l).1=((n*prodN (l.map Int.toNat):Nat):Int)
 | [], n, h => by simp [allGo, prodN]
 | d :: r, n, h => by
   unfold allGo at h ⊢
   split at h
   ·simp at h
   ·rename_i hc
    rw [if_neg hc]
    obtain ⟨e,he⟩:=Int.eq_ofNat_of_zero_le (show 0<=d by omega)
    have hx:(n:Int)*d=((n*e:Nat):Int):=by rw [he,Int.natCast_mul]
    rw [hx] at h ⊢
    obtain ⟨h1,h2⟩:=allGo_prod r (n*e) h
    refine ⟨λ x hx=>?_,?_⟩
    ·rcases List.mem_cons.1 hx with rfl | hx
     ·omega
     ·exact h1 x hx
    ·rw [h2,List.map_cons,prodN_cons,he,Int.toNat_natCast,Nat.mul_assoc]
theorem all_prod {l:List Ax} (h:(allV (dimsOf l)).2=0):(∀ x∈ndOf l,1<=x/\x<=4096)/\nV l=(prodN (ndOf l):Nat):=by
 obtain ⟨h1,h2,h3⟩:=allV_len h
 rw [h3] at h
 obtain ⟨h4,h5⟩:=allGo_prod (dimsOf l) 1 h
 have e:(dimsOf l).map Int.toNat=ndOf l:=by unfold dimsOf ndOf;rw [List.map_map]; rfl
 constructor
 ·intro x hx
  unfold ndOf at hx
  obtain ⟨a,ha,rfl⟩:=List.mem_map.1 hx
  have:=h4 a.N (List.mem_map_of_mem ha)
  omega
 ·unfold nV;rw [h3,show (1:Int)=((1:Nat):Int) from rfl,h5,e,Nat.one_mul]
def innN (nd:List Nat) (k:Nat):Nat:=prodN (nd.drop (k+1))
theorem split_prod {nd:List Nat} {k:Nat} (hk:k < nd.length):prodN nd=prodN (nd.take k)*(nd[k]*innN nd k):=by
 conv=>lhs;rw [<- List.take_append_drop k nd,prodN_app,List.drop_eq_getElem_cons hk,prodN_cons]
 rfl
def grpsV (l:List Ax) (s:Stp):List GrN:=
 if s.tw=true then (List.range (prodN (ndOf l))).map λ i=>⟨[i],[i / innN (ndOf l) s.ax.toNat % (ndOf l).getD s.ax.toNat 1],[i]⟩
 else stN (innN (ndOf l) s.ax.toNat) ((ndOf l).getD s.ax.toNat 1) (prodN (ndOf l)) s.st.R.toNat s.st.L.toNat s.st.M.toNat
structure Shp (l:List Ax) (s:Stp) (k d inner n m:Nat):Prop where
 kl:k < l.length
 ax:s.ax=(k:Int)
 dk:(ndOf l)[k]? = some d
 d1:1<=d/\d<=4096
 dN:(axAt l s.ax).N=(d:Int)
 inn:innN (ndOf l) k=inner
 i1:1<=inner
 np:prodN (ndOf l)=n
 nm:n=m*(d*inner)
 nn:nV l=(n:Int)
 n1:1<=n/\n<=4096
 all:∀ x∈ndOf l,1<=x/\x<=4096
 len:1<=l.length/\l.length<=4
 st:(s.tw=true/\s.st=⟨0,0,0⟩)\/(s.tw=false/\∃ R L M:Nat,s.st=⟨R,L,M⟩/\2<=R/\R<=5/\1<=L/\1<=M/\d=L*(R*M))
theorem step_shape {p:Int} {l:List Ax} {s:Stp} (h:stepV p l s=0):∃ k d inner n m,Shp l s k d inner n m:=by
 obtain ⟨hg,k,hk,hax,hst⟩:=stepV_inv h
 obtain ⟨hkn,hal,hall⟩:=grid_ok hg
 obtain ⟨h1,h2⟩:=all_prod hal
 have hkn':k < (ndOf l).length:=by simpa [ndOf] using hk
 have hd:=h1 _ (List.getElem_mem hkn')
 have hdN:((ndOf l)[k]:Int)=l[k].N:=by
  have h3:=(radV_facts (hall l[k] (List.getElem_mem hk)).1)
  simp only [ndOf,List.getElem_map]
  omega
 have hn:=nV_range hg
 have hlen:1<=l.length/\l.length<=4:=by have:=allV_len hal;simp [dimsOf] at this;omega
 refine ⟨k,(ndOf l)[k],innN (ndOf l) k,prodN (ndOf l),prodN ((ndOf l).take k),hk,hax,List.getElem?_eq_getElem hkn',hd,?_,rfl,?_,rfl,split_prod hkn',h2,by omega,h1,hlen,?_⟩
 ·rw [hax,axAt_nat l k hk,hdN]
 ·exact prodN_pos _ λ x hx=>(h1 x (List.mem_of_mem_drop hx)).1
 ·rcases hst with hst | ⟨ht,hst⟩
  ·exact .inl hst
  ·right
   obtain ⟨g1,g2,g3,g4,g5,g6⟩:=stages_ok (stages_facts (hall l[k] (List.getElem_mem hk)).1).1 hst
   refine ⟨ht,s.st.R.toNat,s.st.L.toNat,s.st.M.toNat,?_,by omega,by omega,by omega,by omega,?_⟩
   ·obtain ⟨sx,stw,⟨R,L,M⟩⟩:=s
    dsimp only at g1 g2 g3 g4 ⊢
    rw [Int.toNat_of_nonneg (by omega),Int.toNat_of_nonneg (by omega),Int.toNat_of_nonneg (by omega)]
   ·have : ((ndOf l)[k]:Int)=((s.st.L.toNat*(s.st.R.toNat*s.st.M.toNat):Nat):Int):=by
     rw [hdN,g5,Int.natCast_mul,Int.natCast_mul,Int.toNat_of_nonneg (by omega),Int.toNat_of_nonneg (by omega),Int.toNat_of_nonneg (by omega)]
    omega
section
variable {l:List Ax} {s:Stp} {k d inner n m:Nat}
theorem grps_tw (h:Shp l s k d inner n m) (ht:s.tw=true):grpsV l s=(List.range n).map λ i=>⟨[i],[i / inner % d],[i]⟩:=by
 unfold grpsV
 rw [if_pos ht,h.ax,Int.toNat_natCast,h.inn,h.np,List.getD_eq_getElem?_getD,h.dk]; rfl
theorem grps_st (h:Shp l s k d inner n m) (ht:s.tw=false) {R L M:Nat} (hs:s.st=⟨R,L,M⟩):grpsV l s=stN inner d n R L M:=by
 unfold grpsV
 rw [if_neg (by rw [ht]; simp),h.ax,Int.toNat_natCast,h.inn,h.np,List.getD_eq_getElem?_getD,h.dk,hs]; rfl
theorem grps_facts (h:Shp l s k d inner n m):(∀ g∈grpsV l s,g.ok s.tw)/\((grpsV l s).flatMap GrN.i).Perm (List.range n)/\((grpsV l s).flatMap GrN.o).Perm (List.range n) /\
 (∀ g∈grpsV l s,∀ i∈g.f,i < if s.tw=true then d else s.st.M.toNat*s.st.R.toNat)/\(∀ g∈grpsV l s,s.tw=false->g.i.length=s.st.R.toNat):=by
 rcases h.st with ⟨ht,_⟩ | ⟨ht,R,L,M,hs,r1,r2,l1,m1,hd⟩
 ·rw [grps_tw h ht]
  have hd0:=h.d1.1
  refine ⟨?_,?_,?_,?_,?_⟩
  ·intro g hg
   obtain ⟨i,-,rfl⟩:=List.mem_map.1 hg
   exact ⟨rfl,rfl,λ _=>rfl⟩
  ·rw [List.flatMap_map]
   show ((List.range n).flatMap λ a=>[a]).Perm _
   rw [flat_id]
  ·rw [List.flatMap_map]
   show ((List.range n).flatMap λ a=>[a]).Perm _
   rw [flat_id]
  ·intro g hg
   obtain ⟨i,-,rfl⟩:=List.mem_map.1 hg
   intro x hx
   rw [if_pos ht]
   simp only [List.mem_singleton] at hx
   rw [hx]; exact Nat.mod_lt _ hd0
  ·intro g hg hf;rw [ht] at hf;cases hf
 ·rw [grps_st h ht hs,hs]
  simp only [Int.toNat_natCast]
  refine ⟨?_,stN_in h.nm h.i1 hd h.d1.1,stN_out h.nm h.i1 hd h.d1.1,?_,?_⟩
  ·intro g hg
   obtain ⟨a,b,c⟩:=stN_len hg
   exact ⟨by omega,by omega,λ h=>by rw [ht] at h;cases h⟩
  ·intro g hg x hx
   rw [if_neg (by rw [ht]; simp)]
   exact stN_fac hg x hx
  ·intro g hg _;exact (stN_len hg).1
end
theorem rowsV_in {p w:Int} {R:Nat} (hk:known p=true):∀ m,∀ y∈rowsV p w R m,inP p y
 | 0, y, h => by simp [rowsV] at h
 | m + 1, y, h => by
   rw [rowsV] at h
   rcases List.mem_append.1 h with h | h
   ·exact rowsV_in hk m y h
   ·unfold powsV at h
    obtain ⟨i,_,rfl⟩:=List.mem_map.1 h
    exact inP_pow hk _ _
theorem powsV_in {p w:Int} {m:Nat} (hk:known p=true):∀ y∈powsV p w m,inP p y:=by
 intro y h
 unfold powsV at h
 obtain ⟨i,_,rfl⟩:=List.mem_map.1 h
 exact inP_pow hk _ _
theorem tab_in {p:Int} {l:List Ax} {inv:Bool} {s:Stp} (hk:known p=true):∀ y∈tabV p l inv s,inP p y:=by
 intro y h
 unfold tabV at h
 split at h
 ·split at h
  ·obtain ⟨z,_,rfl⟩:=List.mem_map.1 h
   exact inP_mul hk _ _
  ·exact powsV_in hk y h
 ·exact rowsV_in hk _ y h
theorem tab_length {p:Int} {l:List Ax} {inv:Bool} {s:Stp} {k d inner n m:Nat} (h:Shp l s k d inner n m):(tabV p l inv s).length=if s.tw=true then d else s.st.M.toNat*s.st.R.toNat:=by
 unfold tabV
 split
 ·rename_i ht
  have : (axAt l s.ax).N.toNat=d:=by rw [h.dN]; simp
  split
  ·rw [List.length_map,powsV_len,this]
  ·rw [powsV_len,this]
 ·rw [rowsV_len]
theorem step_known {p:Int} {l:List Ax} {s:Stp} (h:stepV p l s=0):known p=true:=(grid_ok (stepV_inv h).1).1
theorem root_R {p:Int} {l:List Ax} {s:Stp} (h:stepV p l s=0) (ht:s.tw=false):(rootV p s.st.R).2=0:=by
 obtain ⟨hg,k,hkl,h0,h1⟩:=stepV_inv h
 obtain ⟨hk,_,hall⟩:=grid_ok hg
 obtain ⟨hr,ho⟩:=hall l[k] (List.getElem_mem hkl)
 obtain ⟨n1,n2,_⟩:=radV_facts hr
 have wr:∀ n:Int,0<=n->n<=100000->IntKind.i64.wrap n=n:=λ n h1 h2=>by simp [IntKind.wrap,IntKind.bits,IntKind.signed]; omega
 rcases h1 with ⟨h1,_⟩ | ⟨_,h3⟩
 ·rw [ht] at h1;cases h1
 obtain ⟨g1,g2,g3,g4,g5,g6⟩:=stages_ok (stages_facts hr).1 h3
 have hN:(rootV p l[k].N).2=0:=by
  unfold ordW at ho
  by_cases ha:l[k].neg=true
  ·rw [if_pos ha,wr _ (by omega) (by omega)] at ho
   exact root_dvd ho n1 ⟨2,rfl⟩
  ·rw [if_neg ha] at ho;exact ho
 exact root_dvd hN (by omega) ⟨s.st.L*s.st.M,by rw [g5,<- Int.mul_assoc,<- Int.mul_assoc,Int.mul_comm s.st.L]⟩
theorem grp_root {p:Int} {l:List Ax} {s:Stp} {k d inner n m:Nat} (hs:Shp l s k d inner n m) (h:stepV p l s=0) {g:GrN} (hg:g∈grpsV l s) (ht:s.tw=false):2<=g.i.length/\g.i.length<=5/\(rootV p g.i.length).2=0:=by
 obtain ⟨_,_,_,_,h5⟩:=grps_facts hs
 have hr:=root_R h ht
 rcases hs.st with ⟨h1,_⟩ | ⟨_,R,L,M,hst,r1,r2,_⟩
 ·rw [ht] at h1;cases h1
 rw [h5 g hg ht,hst]
 rw [hst] at hr
 simp only [Int.toNat_natCast]
 exact ⟨r1,r2,hr⟩
theorem predG_app (p:Int) (inv tw:Bool) (pre:List GrN) (g:GrN) (tab x:List Int):predG p inv tw (pre++[g]) tab x=predStep p inv tw tab x (predG p inv tw pre tab x) g:=by
 unfold predG;rw [List.foldl_append]; rfl
end Go.AM
namespace Go.AM
structure Fx where
 ad:Int
 bad:Int
 good:Int
 deriving DecidableEq
def thrV (a b c:Int):(Int×List Nat)×Int:=
 if b=c then (if b=a then ((b,[]),0) else ((b,[0]),0))
 else if c=a then ((c,[1]),0)
 else if a=b then ((a,[2]),0)
 else ((0,[]),10)
def fxAt (t:List Int) (b:Nat) (w:Int) (l:List Nat):List Fx:=l.map λ k=>⟨((b+k:Nat):Int),t.getD (b+k) 0,w⟩
def cellsV (t:List Int):((Int×Int)×List Fx)×Int:=
 if (thrV (t.getD 0 0) (t.getD 1 0) (t.getD 2 0)).2≠0 then (((0,0),[]),10)
 else if (thrV (t.getD 3 0) (t.getD 4 0) (t.getD 5 0)).2≠0 then (((0,0),[]),10)
 else ((((thrV (t.getD 0 0) (t.getD 1 0) (t.getD 2 0)).1.1,(thrV (t.getD 3 0) (t.getD 4 0) (t.getD 5 0)).1.1),
  fxAt t 0 (thrV (t.getD 0 0) (t.getD 1 0) (t.getD 2 0)).1.1 (thrV (t.getD 0 0) (t.getD 1 0) (t.getD 2 0)).1.2++fxAt t 3 (thrV (t.getD 3 0) (t.getD 4 0) (t.getD 5 0)).1.1 (thrV (t.getD 3 0) (t.getD 4 0) (t.getD 5 0)).1.2),0)
def findV (p d0 d1:Int):Nat->Int->Nat->Option Nat
 | 0, _, _ => none
 | k + 1, s, i => if s = d1 then some i else findV p d0 d1 k (addF p s d0) (i + 1)
def badL (p:Int) (x:List Int):List Nat:=(List.range x.length).filter λ i=>!decide (x.getD i 0 < p)
def whichV (p:Int) (x:List Int) (d0 d1:Int):Option Nat:=
 if (badL p x).length=0 then (if d0=0 then none else findV p d0 d1 x.length d0 0) else (badL p x).head?
def wrongV (p:Int) (x:List Int) (want:Int×Int):(Int×Int)×Int:=
 if 1 < (badL p x).length then ((0,0),2)
 else if (badL p x).length=0/\sumsV p x=want then ((0,0),0)
 else match whichV p x (subF p want.1 (sumsV p x).1) (subF p want.2 (sumsV p x).2) with
  | none=>((0,0),2)
  | some i=>if mulF p (subF p want.1 (sumsV p x).1) ((i:Int)+1)≠subF p want.2 (sumsV p x).2 then ((0,0),2) else (((i:Int),addF p (x.getD i 0) (subF p want.1 (sumsV p x).1)),1)
abbrev sx (q:Int×Int):List Int:=[q.1,q.1,q.1,q.2,q.2,q.2]
def Fx.up (n:Int) (f:Fx):Fx:=⟨f.ad+n,f.bad,f.good⟩
def fixV (p:Int) (c:List Int):(List Int×List Fx)×Int:=
 if known p=false then (([],[]),2)
 else if c.length < 7\/4102 < c.length then (([],[]),6)
 else
  let x:=c.take (c.length-6)
  let q:=cellsV (c.drop (c.length-6))
  if q.2≠0 then (([],[]),10)
  else if ¬ (q.1.1.1 < p/\q.1.1.2 < p) then (([],[]),10)
  else
   let w:=wrongV p x q.1.1
   if 1 < w.2 then (([],[]),10)
   else if w.2=1 then ((x.set w.1.1.toNat w.1.2++sx q.1.1,⟨w.1.1,x.getD w.1.1.toNat 0,w.1.2⟩ :: q.1.2.map (Fx.up x.length)),0)
   else ((x++sx q.1.1,q.1.2.map (Fx.up x.length)),0)
theorem sumsV_set {p:Int} {x:List Int} {i:Nat} (hi:i < x.length) (v:Int):sumsV p (x.set i v)=((x.sum+(v-x.getD i 0)) % p,(csum (λ i=>(i:Int)+1) 0 x+(v-x.getD i 0)*((i:Int)+1)) % p):=by
 unfold sumsV
 rw [<- csum_one _ 0,csum_set _ _ _ _ _ hi,csum_one,csum_set _ _ _ _ _ hi]
 simp
theorem getD_inP {p:Int} {x:List Int} (hx:∀ y∈x,inP p y) {i:Nat} (hi:i < x.length):inP p (x.getD i 0):=by
 rw [List.getD_eq_getElem?_getD,List.getElem?_eq_getElem hi]; exact hx _ (List.getElem_mem _)
theorem badL_nil {p:Int} {x:List Int} (h:∀ j < x.length,x.getD j 0 < p):badL p x=[]:=by
 unfold badL
 rw [List.filter_eq_nil_iff]
 intro j hj
 have:=h j (List.mem_range.1 hj)
 rw [decide_eq_true this]; simp
theorem wrong_none {p:Int} {x:List Int} (hx:∀ y∈x,inP p y):wrongV p x (sumsV p x)=((0,0),0):=by
 have hb:=badL_nil (p:=p) (x:=x) λ j hj=>(getD_inP hx hj).2
 unfold wrongV
 rw [hb]; simp
theorem cells_ok (q:Int×Int):cellsV (sx q)=((q,[]),0):=by
 simp [cellsV,thrV,fxAt]
theorem fix_ok {p:Int} (hk:known p=true) {x:List Int} (hx:∀ y∈x,inP p y) (h1:1<=x.length/\x.length<=4096):fixV p (x++sx (sumsV p x))=((x++sx (sumsV p x),[]),0):=by
 have hl:(x++sx (sumsV p x)).length=x.length+6:=by simp
 have hq:(sumsV p x).1 < p/\(sumsV p x).2 < p:=⟨(inP_mod hk _).2,(inP_mod hk _).2⟩
 unfold fixV
 rw [if_neg (by rw [hk]; simp),if_neg (by rw [hl]; omega),hl]
 dsimp only
 rw [show x.length+6-6=x.length by omega,List.take_left,List.drop_left,cells_ok,wrong_none hx]
 simp [hq]
theorem mem_badL {p:Int} {x:List Int} {j:Nat}:j∈badL p x↔j < x.length/\¬ x.getD j 0 < p:=by
 simp [badL]
theorem findV_lt {p d0 d1:Int}:∀ (k:Nat) (s:Int) (j i:Nat),findV p d0 d1 k s j=some i->j<=i/\i < j+k
 | 0, s, j, i, h => by simp [findV] at h
 | k + 1, s, j, i, h => by
   unfold findV at h
   by_cases hc:s=d1
   ·rw [if_pos hc] at h;simp at h;omega
   ·rw [if_neg hc] at h
    have:=findV_lt k _ _ _ h
    omega
theorem wrong_sound {p:Int} (hk:known p=true) {x:List Int} (h0:∀ y∈x,0<=y) {w:Int×Int} (hw:inP p w.1/\inP p w.2) (h1:(wrongV p x w).2<=1) :
 ((wrongV p x w).2=0/\(∀ y∈x,inP p y)/\sumsV p x=w)\/((wrongV p x w).2=1/\∃ i:Nat,i < x.length/\(wrongV p x w).1.1=i/\inP p (wrongV p x w).1.2/\(∀ y∈x.set i (wrongV p x w).1.2,inP p y)/\sumsV p (x.set i (wrongV p x w).1.2)=w):=by
 have hall:∀ j:Nat,j < x.length->j∉badL p x->inP p (x.getD j 0):=λ j hj hn=>by
  have h2:x.getD j 0 < p:=Classical.byContradiction λ h=>hn (mem_badL.2 ⟨hj,h⟩)
  refine ⟨?_,h2⟩
  rw [List.getD_eq_getElem?_getD,List.getElem?_eq_getElem hj]
  exact h0 _ (List.getElem_mem _)
 by_cases c1:1 < (badL p x).length
 ·unfold wrongV at h1;rw [if_pos c1] at h1;simp at h1
 by_cases c2:(badL p x).length=0/\sumsV p x=w
 ·left
  have hb:=List.eq_nil_of_length_eq_zero c2.1
  refine ⟨by unfold wrongV;rw [if_neg c1,if_pos c2],λ y hy=>?_,c2.2⟩
  obtain ⟨j,hj,rfl⟩:=List.mem_iff_getElem.1 hy
  have:=hall j hj (by rw [hb]; simp)
  rw [List.getD_eq_getElem?_getD,List.getElem?_eq_getElem hj] at this
  exact this
 cases hi:whichV p x (subF p w.1 (sumsV p x).1) (subF p w.2 (sumsV p x).2) with
 | none => unfold wrongV at h1; rw [if_neg c1, if_neg c2, hi] at h1; simp at h1
 | some i =>
   by_cases c3:mulF p (subF p w.1 (sumsV p x).1) ((i:Int)+1)≠subF p w.2 (sumsV p x).2
   ·unfold wrongV at h1;rw [if_neg c1,if_neg c2,hi] at h1;dsimp only at h1;rw [if_pos c3] at h1;simp at h1
   right
   have hr:wrongV p x w=(((i:Int),addF p (x.getD i 0) (subF p w.1 (sumsV p x).1)),1):=by
    unfold wrongV;rw [if_neg c1,if_neg c2,hi]; dsimp only;rw [if_neg c3]
   have hil:i < x.length/\∀ j,j≠i->j∉badL p x:=by
    unfold whichV at hi
    by_cases c4:(badL p x).length=0
    ·rw [if_pos c4] at hi
     split at hi
     ·cases hi
     ·have:=findV_lt _ _ _ _ hi
      exact ⟨by omega,λ j _=>by rw [List.eq_nil_of_length_eq_zero c4]; simp⟩
    ·rw [if_neg c4] at hi
     obtain ⟨a,ha⟩:=List.length_eq_one_iff.1 (show (badL p x).length=1 by omega)
     rw [ha] at hi
     simp at hi
     subst hi
     have : a∈badL p x:=by rw [ha]; simp
     exact ⟨(mem_badL.1 this).1,λ j hj=>by rw [ha]; simpa using hj⟩
   have c3:mulF p (subF p w.1 (sumsV p x).1) ((i:Int)+1)=subF p w.2 (sumsV p x).2:=Classical.byContradiction c3
   rw [hr]
   refine ⟨rfl,i,hil.1,rfl,inP_add hk _ _,λ y hy=>?_,?_⟩
   ·obtain ⟨j,hj,rfl⟩:=List.mem_iff_getElem.1 hy
    rw [List.getElem_set]
    split
    ·exact inP_add hk _ _
    ·rename_i hne
     rw [List.length_set] at hj
     have:=hall j hj (hil.2 j (Ne.symm hne))
     rw [List.getD_eq_getElem?_getD,List.getElem?_eq_getElem hj] at this
     exact this
   ·rw [sumsV_set hil.1]
    dsimp only
    have g1:Eqm p (addF p (x.getD i 0) (subF p w.1 (sumsV p x).1)-x.getD i 0) (w.1-x.sum):=by
     refine ((eqm_add hk _ _).sub .refl).trans ?_
     rw [show ∀ a b:Int,a+b-a=b by intro a b;omega]
     refine (eqm_sub hk _ _).trans ?_
     exact Eqm.refl.sub Eqm.mod
    have g2:Eqm p ((addF p (x.getD i 0) (subF p w.1 (sumsV p x).1)-x.getD i 0)*((i:Int)+1)) (w.2-csum (λ i=>(i:Int)+1) 0 x):=by
     have a1:Eqm p (addF p (x.getD i 0) (subF p w.1 (sumsV p x).1)-x.getD i 0) (subF p w.1 (sumsV p x).1):=by
      refine ((eqm_add hk _ _).sub .refl).trans ?_
      rw [show ∀ a b:Int,a+b-a=b by intro a b;omega]; exact .refl
     refine (a1.mul .refl).trans ?_
     refine (eqm_mul hk _ _).symm.trans ?_
     rw [c3]
     refine (eqm_sub hk _ _).trans ?_
     exact Eqm.refl.sub Eqm.mod
    apply Prod.ext
    ·refine inP_eq (inP_mod hk _) hw.1 (Eqm.mod.trans ((Eqm.refl.add g1).trans ?_))
     rw [show ∀ a b:Int,a+(b-a)=b by intro a b;omega]; exact .refl
    ·refine inP_eq (inP_mod hk _) hw.2 (Eqm.mod.trans ((Eqm.refl.add g2).trans ?_))
     rw [show ∀ a b:Int,a+(b-a)=b by intro a b;omega]; exact .refl
def mend (c:List Int) (l:List Fx):List Int:=l.foldl (λ w f=>w.set f.ad.toNat f.good) c
theorem mend_up {x:List Int}:∀ (l:List Fx) (t:List Int),(∀ f∈l,0<=f.ad)->mend (x++t) (l.map (Fx.up x.length))=x++mend t l
 | [], t, _ => rfl
 | f :: l, t, h => by
   have h0:=h f (by simp)
   have e1:mend (x++t) ((f :: l).map (Fx.up x.length))=mend ((x++t).set (f.ad+(x.length:Int)).toNat f.good) (l.map (Fx.up x.length)):=rfl
   have e2:mend t (f :: l)=mend (t.set f.ad.toNat f.good) l:=rfl
   rw [e1,e2,<- mend_up l _ λ g hg=>h g (by simp [hg])]
   rw [List.set_append,if_neg (by omega),show (f.ad+(x.length:Int)).toNat-x.length=f.ad.toNat by omega]
theorem thr_sound {a b c w:Int} {l:List Nat} (h:thrV a b c=((w,l),0)):(l=[]/\a=w/\b=w/\c=w)\/(l=[0]/\b=w/\c=w)\/(l=[1]/\a=w/\c=w)\/(l=[2]/\a=w/\b=w):=by
 unfold thrV at h
 split at h
 ·rename_i h1
  split at h
  ·rename_i h2
   simp only [Prod.mk.injEq,and_true] at h;left;exact ⟨h.2.symm,by omega,h.1,by omega⟩
  ·simp only [Prod.mk.injEq,and_true] at h;right;left;exact ⟨h.2.symm,h.1,by omega⟩
 ·split at h
  ·rename_i h2
   simp only [Prod.mk.injEq,and_true] at h;right;right;left;exact ⟨h.2.symm,by omega,h.1⟩
  ·split at h
   ·rename_i h2
    simp only [Prod.mk.injEq,and_true] at h;right;right;right;exact ⟨h.2.symm,h.1,by omega⟩
   ·simp at h
theorem six_of {t:List Int} (h:t.length=6):∃ a b c d e f,t=[a,b,c,d,e,f]:=by
 match t,h with
 | [a, b, c, d, e, f], _ => exact ⟨a, b, c, d, e, f, rfl⟩
theorem cells_sound {t:List Int} (ht:t.length=6) {q:Int×Int} {l:List Fx} (h:cellsV t=((q,l),0)):l.length<=2/\(∀ f∈l,0<=f.ad/\f.ad < 6/\(f.good=q.1\/f.good=q.2))/\mend t l=sx q/\q.1∈t/\q.2∈t:=by
 obtain ⟨a,b,c,d,e,f,rfl⟩:=six_of ht
 unfold cellsV at h
 simp only [List.getD_cons_zero,List.getD_cons_succ] at h
 generalize ht1:thrV a b c=u1 at h
 generalize ht2:thrV d e f=u2 at h
 obtain ⟨⟨w1,l1⟩,e1⟩:=u1
 obtain ⟨⟨w2,l2⟩,e2⟩:=u2
 dsimp only at h
 split at h
 ·simp at h
 rename_i h1
 split at h
 ·simp at h
 rename_i h2
 have h1:e1=0:=Classical.byContradiction h1
 have h2:e2=0:=Classical.byContradiction h2
 subst h1 h2
 simp only [Prod.mk.injEq,and_true] at h
 obtain ⟨rfl,rfl⟩:=h
 rcases thr_sound ht1 with ⟨rfl,rfl,rfl,rfl⟩ | ⟨rfl,rfl,rfl⟩ | ⟨rfl,rfl,rfl⟩ | ⟨rfl,rfl,rfl⟩ <;> rcases thr_sound ht2 with ⟨rfl,rfl,rfl,rfl⟩ | ⟨rfl,rfl,rfl⟩ | ⟨rfl,rfl,rfl⟩ | ⟨rfl,rfl,rfl⟩ <;> simp [fxAt,mend]
theorem fix_sound {p:Int} {c:List Int} (hc:∀ y∈c,0<=y) {good:List Int} {fx:List Fx} (h:fixV p c=((good,fx),0)) :
 ∃ x:List Int,known p=true/\x.length+6=c.length/\1<=x.length/\x.length<=4096/\(∀ y∈x,inP p y)/\good=x++sx (sumsV p x)/\fx.length<=3/\(∀ f∈fx,0<=f.ad/\f.ad < c.length/\inP p f.good)/\mend c fx=good:=by
 unfold fixV at h
 split at h
 ·simp at h
 rename_i hk
 have hk:known p=true:=by simpa using hk
 split at h
 ·simp at h
 rename_i hl
 dsimp only at h
 have hx0:c.take (c.length-6)++c.drop (c.length-6)=c:=List.take_append_drop _ _
 have hxl:(c.take (c.length-6)).length+6=c.length:=by simp;omega
 have htl:(c.drop (c.length-6)).length=6:=by simp;omega
 have hx1:∀ y∈c.take (c.length-6),0<=y:=λ y hy=>hc y (List.mem_of_mem_take hy)
 generalize c.take (c.length-6)=x at h hx0 hxl hx1
 generalize c.drop (c.length-6)=t at h hx0 htl
 subst hx0
 have hlen:(x++t).length=x.length+6:=by simp [htl]
 generalize hq:cellsV t=Q at h
 obtain ⟨⟨q,l⟩,z⟩:=Q
 have hpt:∀ y∈t,0<=y:=λ y hy=>hc y (by simp [hy])
 dsimp only at h
 split at h
 ·simp at h
 rename_i hz
 have hz:z=0:=Classical.byContradiction hz
 subst hz
 split at h
 ·simp at h
 rename_i hin
 have hin:q.1 < p/\q.2 < p:=Classical.byContradiction hin
 obtain ⟨b1,b2,b3,b4,b5⟩:=cells_sound htl hq
 have hqp:inP p q.1/\inP p q.2:=⟨⟨hpt _ b4,hin.1⟩,⟨hpt _ b5,hin.2⟩⟩
 have hfx:∀ f∈l.map (Fx.up x.length),0<=f.ad/\f.ad < (x++t).length/\inP p f.good:=λ f hf=>by
  obtain ⟨g,hg,rfl⟩:=List.mem_map.1 hf
  obtain ⟨g1,g2,g3⟩:=b2 g hg
  refine ⟨by show 0<=g.ad+_;omega,by show g.ad+_ < _;rw [hlen]; omega,?_⟩
  show inP p g.good
  rcases g3 with g3 | g3 <;> rw [g3]
  ·exact hqp.1
  ·exact hqp.2
 split at h
 ·simp at h
 rename_i hm
 have hs:=wrong_sound hk hx1 hqp (by omega)
 split at h
 ·rename_i h1
  rcases hs with ⟨h2,_⟩ | ⟨_,i,hi,hi1,hi2,hi3,hi4⟩
  ·omega
  simp only [Prod.mk.injEq,and_true] at h
  obtain ⟨rfl,rfl⟩:=h
  rw [hi1]
  refine ⟨x.set i (wrongV p x q).1.2,hk,by rw [List.length_set,hlen],by rw [List.length_set]; omega,by rw [List.length_set]; omega,hi3,?_,by simp;omega,λ f hf=>?_,?_⟩
  ·rw [hi4,Int.toNat_natCast]
  ·rcases List.mem_cons.1 hf with rfl | hf
   ·exact ⟨by dsimp only;omega,by dsimp only;rw [hlen]; omega,hi2⟩
   ·exact hfx f hf
  ·show mend ((x++t).set _ _) _=_
   rw [Int.toNat_natCast,List.set_append,if_pos hi]
   have:=mend_up (x:=x.set i (wrongV p x q).1.2) l t λ f hf=>(b2 f hf).1
   rw [List.length_set] at this
   rw [this,b3]
 ·rename_i h1
  obtain ⟨_,h2,h3⟩:=hs.resolve_right λ h2=>h1 h2.1
  simp only [Prod.mk.injEq,and_true] at h
  obtain ⟨rfl,rfl⟩:=h
  refine ⟨x,hk,by rw [hlen],by omega,by omega,h2,by rw [h3],by simp;omega,hfx,?_⟩
  rw [mend_up _ _ λ f hf=>(b2 f hf).1,b3]
theorem getD_nn {l:List Int} (h:∀ y∈l,0<=y) (i:Nat):0<=l.getD i 0:=by
 rw [List.getD_eq_getElem?_getD]
 cases e:l[i]? with
 | none => exact Int.le_refl 0
 | some v => exact h v (List.mem_of_getElem? e)
theorem wrong_ne {p:Int} (hk:known p=true) {x:List Int} (h0:∀ y∈x,0<=y) {want:Int×Int} (h:(wrongV p x want).2=1):x.getD (wrongV p x want).1.1.toNat 0≠(wrongV p x want).1.2:=by
 have hp:=known_pos hk
 unfold wrongV at h ⊢
 by_cases c1:1 < (badL p x).length
 ·rw [if_pos c1] at h;simp at h
 rw [if_neg c1] at h ⊢
 by_cases c2:(badL p x).length=0/\sumsV p x=want
 ·rw [if_pos c2] at h;simp at h
 rw [if_neg c2] at h ⊢
 generalize hd:subF p want.1 (sumsV p x).1=d0 at h ⊢
 generalize subF p want.2 (sumsV p x).2=d1 at h ⊢
 cases hw:whichV p x d0 d1 with
 | none => rw [hw] at h; simp at h
 | some i =>
   rw [hw] at h
   dsimp only at h ⊢
   by_cases c3:mulF p d0 ((i:Int)+1)≠d1
   ·rw [if_pos c3] at h;simp at h
   rw [if_neg c3]
   dsimp only
   rw [Int.toNat_natCast]
   have hd0:0<=d0/\d0 < p:=by
    rw [<- hd]; unfold subF;rw [if_pos hk]
    exact ⟨Int.emod_nonneg _ (by omega),Int.emod_lt_of_pos _ (by omega)⟩
   unfold addF;rw [if_pos hk]
   unfold whichV at hw
   by_cases c4:(badL p x).length=0
   ·rw [if_pos c4] at hw
    by_cases c5:d0=0
    ·rw [if_pos c5] at hw;cases hw
    rw [if_neg c5] at hw
    have hi:=findV_lt _ _ _ _ hw
    have hx:x.getD i 0 < p:=by
     refine Decidable.byContradiction λ hn=>?_
     have : i∈badL p x:=mem_badL.2 ⟨by omega,hn⟩
     rw [List.length_eq_zero_iff.1 c4] at this;cases this
    have hx0:0<=x.getD i 0:=getD_nn h0 i
    intro e
    have he:(x.getD i 0+d0) % p=x.getD i 0:=e.symm
    by_cases c6:x.getD i 0+d0 < p
    ·rw [Int.emod_eq_of_lt (by omega) c6] at he;omega
    ·rw [show x.getD i 0+d0=(x.getD i 0+d0-p)+p by omega,Int.add_emod_right,Int.emod_eq_of_lt (by omega) (by omega)] at he;omega
   ·rw [if_neg c4] at hw
    have hm:i∈badL p x:=List.mem_of_head? hw
    have h1:=(mem_badL.1 hm).2
    have h2:=Int.emod_lt_of_pos (x.getD i 0+d0) (b:=p) (by omega)
    omega
theorem thr_ne {t:List Int} {b:Nat}:∀ f∈fxAt t b (thrV (t.getD b 0) (t.getD (b+1) 0) (t.getD (b+2) 0)).1.1 (thrV (t.getD b 0) (t.getD (b+1) 0) (t.getD (b+2) 0)).1.2,f.bad≠f.good:=by
 intro f hf
 unfold fxAt at hf
 obtain ⟨k,hk,rfl⟩:=List.mem_map.1 hf
 unfold thrV at hk ⊢
 dsimp only
 split at hk
 ·split at hk
  ·cases hk
  ·rename_i h1 h2
   rw [if_pos h1,if_neg h2]
   obtain rfl:=List.mem_singleton.1 hk
   exact λ e=>h2 e.symm
 ·split at hk
  ·rename_i h1 h2
   rw [if_neg h1,if_pos h2]
   obtain rfl:=List.mem_singleton.1 hk
   exact h1
  ·split at hk
   ·rename_i h1 h2 h3
    rw [if_neg h1,if_neg h2,if_pos h3]
    obtain rfl:=List.mem_singleton.1 hk
    exact h2
   ·cases hk
theorem cells_ne (t:List Int):∀ f∈(cellsV t).1.2,f.bad≠f.good:=by
 unfold cellsV
 split
 ·intro f hf;cases hf
 ·split
  ·intro f hf;cases hf
  ·intro f hf
   dsimp only at hf
   rcases List.mem_append.1 hf with hf | hf
   ·exact thr_ne (b:=0) f hf
   ·exact thr_ne (b:=3) f hf
theorem fix_ne {p:Int} {c:List Int} (h0:∀ y∈c,0<=y):∀ f∈(fixV p c).1.2,f.bad≠f.good:=by
 unfold fixV
 split
 ·intro f hf;cases hf
 ·rename_i hk
  have hk:known p=true:=by simpa using hk
  split
  ·intro f hf;cases hf
  ·dsimp only
   split
   ·intro f hf;cases hf
   ·split
    ·intro f hf;cases hf
    ·have hc:∀ f∈(cellsV (c.drop (c.length-6))).1.2.map (Fx.up (c.take (c.length-6)).length),f.bad≠f.good:=by
      intro f hf
      obtain ⟨g,hg,rfl⟩:=List.mem_map.1 hf
      exact cells_ne _ g hg
     split
     ·intro f hf;cases hf
     ·split
      ·rename_i h1
       intro f hf
       rcases List.mem_cons.1 hf with rfl | hf
       ·exact wrong_ne hk (λ y hy=>h0 y (List.mem_of_mem_take hy)) h1
       ·exact hc f hf
      ·exact hc
end Go.AM
