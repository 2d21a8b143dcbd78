/-
  Part of the proof of a law: plain mathematics, and rules of reasoning. Conditions: none.
-/
import Derived.Lib.TrailingZeros
import Derived.Lib.BitFns
import Derived.Lib.Zigzag
import Derived.Test.YtpecnaacgkgjmaaGreatDoorVA2
set_option linter.unusedVariables false
set_option linter.unusedSectionVars false
set_option linter.unusedSimpArgs false
set_option linter.deprecated false
namespace Go.AM
open Go
def P0:Int:=18446744069414584321
def P1:Int:=998244353
def P2:Int:=2013265921
def jt3 (p:Int):Bool:=p == P0 || p == P1 || p == P2
def red (p a:Int):Int:=if jt3 p=true then a % p else 0
def jxc (p a b:Int):Int:=if jt3 p=true then a*b % p else 0
def j1t (p a b:Int):Int:=if jt3 p=true then (a+b) % p else 0
def zbg (p a b:Int):Int:=if jt3 p=true then (a-b) % p else 0
def u64r (a:Int):Bool:=decide (0<=a/\a < 18446744073709551616)
theorem jt5 {p:Int} (h:jt3 p=true):p=P0\/p=P1\/p=P2:=by
 unfold jt3 at h
 simp only [Bool.or_eq_true,beq_iff_eq] at h
 omega
theorem z5f (p a:Int) (h:jt3 p=true):0<=red p a/\red p a < p:=by
 unfold red;rw [if_pos h]
 rcases jt5 h with rfl | rfl | rfl <;> simp only [P0,P1,P2] <;> omega
theorem jt7 {p:Int} (h:jt3 p=true):1<=p/\p < 18446744073709551616:=by
 rcases jt5 h with rfl | rfl | rfl <;> simp only [P0,P1,P2] <;> omega
def z34 (r:Nat):Nat->Nat->List Nat×Nat
 | 0, m => ([], m)
 | k + 1, m => if m % r = 0 then (r :: (z34 r k (m / r)).1, (z34 r k (m / r)).2) else ([], m)
theorem z38 (r:Nat) (hr:2<=r):∀ (b m k k':Nat),m<=b->0 < m->m<=k->m<=k'->z34 r k m=z34 r k' m
 | 0, m, _, _, h, h0, _, _ => by omega
 | b + 1, m, k, k', h, h0, hk, hk' => by
   obtain ⟨k,rfl⟩:∃ x,k=x+1:=⟨k-1,by omega⟩
   obtain ⟨k',rfl⟩:∃ x,k'=x+1:=⟨k'-1,by omega⟩
   unfold z34
   by_cases hm:m % r=0
   ·have hd:m / r < m:=Nat.div_lt_self h0 hr
    have hp:0 < m / r:=Nat.div_pos (Nat.le_of_dvd h0 (Nat.dvd_of_mod_eq_zero hm)) (by omega)
    rw [if_pos hm,if_pos hm,z38 r hr b (m / r) k k' (by omega) hp (by omega) (by omega)]
   ·rw [if_neg hm,if_neg hm]
def z35 (r m:Nat):List Nat×Nat:=z34 r m m
theorem z36 (r m:Nat) (hr:2<=r) (h0:0 < m) (hm:m % r=0):z35 r m=(r :: (z35 r (m / r)).1,(z35 r (m / r)).2):=by
 have hd:m / r < m:=Nat.div_lt_self h0 hr
 have hp:0 < m / r:=Nat.div_pos (Nat.le_of_dvd h0 (Nat.dvd_of_mod_eq_zero hm)) (by omega)
 unfold z35
 rw [z38 r hr m m m (m-1+1) (Nat.le_refl _) h0 (Nat.le_refl _) (by omega),z34,if_pos hm,z38 r hr m (m / r) (m-1) (m / r) (by omega) hp (by omega) (Nat.le_refl _)]
theorem z37 (r m:Nat) (h0:0 < m) (hm:¬ m % r=0):z35 r m=([],m):=by
 unfold z35
 obtain ⟨k,hk⟩:∃ x,m=x+1:=⟨m-1,by omega⟩
 rw [show z34 r m m=z34 r (k+1) m from by rw [<- hk],z34,if_neg hm]
def ju3 (m:Nat):List Nat:=if 1 < m then [m] else []
def z5s:Nat->Nat->List Nat
 | 0, m => (z35 3 m).1 ++ ((z35 5 (z35 3 m).2).1 ++ ju3 (z35 5 (z35 3 m).2).2)
 | 1, m => (z35 5 m).1 ++ ju3 (z35 5 m).2
 | _, m => ju3 m
def arJ:Nat->Nat
 | 0 => 3
 | _ => 5
theorem z5t (j m:Nat) (hj:j < 2) (h0:0 < m) (hm:m % arJ j=0):z5s j m=arJ j :: z5s j (m / arJ j):=by
 match j,hj with
 | 0, _ => have hm' : m % 3 = 0 := hm; show (z35 3 m).1 ++ _ = 3 :: ((z35 3 (m / 3)).1 ++ _); rw [z36 3 m (by omega) h0 hm']; rfl
 | 1, _ => have hm' : m % 5 = 0 := hm; show (z35 5 m).1 ++ _ = 5 :: ((z35 5 (m / 5)).1 ++ _); rw [z36 5 m (by omega) h0 hm']; rfl
theorem z5u (j m:Nat) (hj:j < 2) (h0:0 < m) (hm:¬ m % arJ j=0):z5s j m=z5s (j+1) m:=by
 match j,hj with
 | 0, _ => have hm' : ¬ m % 3 = 0 := hm; show (z35 3 m).1 ++ ((z35 5 (z35 3 m).2).1 ++ _) = _; rw [z37 3 m h0 hm']; rfl
 | 1, _ => have hm' : ¬ m % 5 = 0 := hm; show (z35 5 m).1 ++ ju3 (z35 5 m).2 = _; rw [z37 5 m h0 hm']; rfl
def z4h (t n:Nat):List Nat:=List.replicate (t / 2) 4++((if t % 2=1 then [2] else [])++z5s 0 (n / 2 ^ t))
def z4c (n:Nat):List Nat:=z4h (Lib.ctz 64 n) n
theorem j8b:∀ a,a < 65->∀ b,b < 64->1<=64*a+b->Lib.ctz 64 (64*a+b)<=12/\0 < (64*a+b) / 2 ^ Lib.ctz 64 (64*a+b)/\(z4c (64*a+b)).length<=4096:=by decide +kernel
theorem j8a (n:Nat) (h:n < 4097) (h1:1<=n):Lib.ctz 64 n<=12/\0 < n / 2 ^ Lib.ctz 64 n/\(z4c n).length<=4096:=by
 have:=j8b (n / 64) (by omega) (n % 64) (by omega) (by omega)
 rwa [Nat.div_add_mod] at this
def z4g (n:Nat):List Int×Int:=if (z4c n).all (λ r=>decide (r<=5)) then ((z4c n).map λ x:Nat=>(x:Int),0) else ([],4)
def jxt (l:List Nat):List Value:=l.map λ x:Nat=>Value.int .i64 ((x:Nat):Int)
def jdt (p:Int):Int:=if p=P0 then 7 else if p=P1 then 3 else if p=P2 then 31 else 0
variable {α β ρ:Type}
def WP (m:M α) (S:St) (Q:α->St->Prop):Prop:=∃ a S',m S=some (a,S')/\Q a S'
theorem WP.mono {m:M α} {S:St} {Q Q':α->St->Prop} (h:WP m S Q) (hq:∀ a S',Q a S'->Q' a S'):WP m S Q':=by
 obtain ⟨a,S',h1,h2⟩:=h
 exact ⟨a,S',h1,hq _ _ h2⟩
@[simp] theorem wp_ret {a:α} {S:St} {Q:α->St->Prop}:WP (M.ret a) S Q↔Q a S:=
 ⟨λ ⟨_,_,h,q⟩=>by cases h;exact q,λ q=>⟨_,_,rfl,q⟩⟩
@[simp] theorem zgo {i:Nat} {l:List Value} {S:St} {Q:Nat×List Value->St->Prop}:WP (z5w i l) S Q↔Q (i,l) S:=wp_ret
@[simp] theorem zg4 {m:M α} {k:α->M β} {S:St} {Q:β->St->Prop}:WP (M.bind m k) S Q↔WP m S λ a S'=>WP (k a) S' Q:=by
 constructor
 ·rintro ⟨b,S',h,q⟩
  obtain ⟨a,S1,h1,h2⟩:=M.bind_some h
  exact ⟨a,S1,h1,b,S',h2,q⟩
 ·rintro ⟨a,S1,h1,b,S',h2,q⟩
  exact ⟨b,S',by simp [M.bind,h1,h2],q⟩
@[simp] theorem zga {c:Prop} [Decidable c] {m:M α} {S:St} {Q:α->St->Prop}:WP (jr0 c m) S Q↔c/\WP m S Q:=by
 constructor
 ·rintro ⟨a,S',h,q⟩
  obtain ⟨h1,h2⟩:=jr1 h
  exact ⟨h1,a,S',h2,q⟩
 ·rintro ⟨h1,a,S',h2,q⟩
  exact ⟨a,S',by simp [jr0,h1,h2],q⟩
@[simp] theorem wp_cond {b:Bool} {m n:M α} {S:St} {Q:α->St->Prop}:WP (cond b m n) S Q↔(b=true->WP m S Q)/\(b=false->WP n S Q):=by
 cases b <;> simp
@[simp] theorem zg7 {S:St} {Q:α->St->Prop}:WP (M.fail:M α) S Q↔False:=⟨λ ⟨_,_,h,_⟩=>(by cases h),False.elim⟩
@[simp] theorem zg9 {S:St} {Q:Value->St->Prop}:WP jbv S Q↔False:=zg7
@[simp] theorem zg8 {S:St} {Q:Nat×List Value->St->Prop}:WP jbu S Q↔False:=zg7
@[simp] theorem zfz {k:IntKind} {n:Int} {S:St} {Q:Int->St->Prop}:WP (asI k (.int k n)) S Q↔Q n S:=by
 have : asI k (.int k n)=M.ret n:=by simp [asI]
 rw [this,wp_ret]
@[simp] theorem zfx {b:Bool} {S:St} {Q:Bool->St->Prop}:WP (asB (.bool b)) S Q↔Q b S:=wp_ret
@[simp] theorem zg2 {a:Option Addr} {n c:Nat} {S:St} {Q:Sl->St->Prop}:WP (asS (.slice a n c)) S Q↔Q ⟨a,n,c⟩ S:=wp_ret
@[simp] theorem zg1 {a:Option Addr} {S:St} {Q:Option Addr->St->Prop}:WP (asP (.pointer a)) S Q↔Q a S:=wp_ret
@[simp] theorem zg0 {a:Option Nat} {S:St} {Q:Option Nat->St->Prop}:WP (asM (.map a)) S Q↔Q a S:=wp_ret
@[simp] theorem zfw {l:List Value} {S:St} {Q:List Value->St->Prop}:WP (asA (.agg ⟨l⟩)) S Q↔Q l S:=wp_ret
@[simp] theorem zfy {t:TypeId} {v:Value} {S:St} {Q:TypeId×Value->St->Prop}:WP (asF (.iface t v)) S Q↔Q (t,v) S:=wp_ret
@[simp] theorem zg3 {l:List Value} {S:St} {Q:List Value->St->Prop}:WP (asT (.tuple ⟨l⟩)) S Q↔Q l S:=wp_ret
@[simp] theorem zgf {a:α} {K:α->M ρ} {S:St} {Q:ρ->St->Prop}:WP (jz2 (some a) K) S Q↔WP (K a) S Q:=Iff.rfl
@[simp] theorem zge {o:j00} {S:St} {Q:Nat->St->Prop}:WP (jxx o) S Q↔Q S.length (S++[o]):=
 ⟨λ ⟨_,_,h,q⟩=>by cases h;exact q,λ q=>⟨_,_,rfl,q⟩⟩
@[simp] theorem zgb {a:Addr} {S:St} {Q:Value->St->Prop}:WP (ld a) S Q↔∃ v,S.cell a=some v/\Q v S:=by
 constructor
 ·rintro ⟨v,S',h,q⟩
  obtain ⟨h1,rfl⟩:=jut h
  exact ⟨v,h1,q⟩
 ·rintro ⟨v,h,q⟩
  exact ⟨v,S,by simp [ld,h],q⟩
@[simp] theorem zgq {a:Addr} {vs:List Value} {S:St} {Q:Unit->St->Prop}:WP (stL a vs) S Q ↔
 ∃ c e g,S[a.block]? = some (.cells c e g)/\(a.spot=none/\a.off+vs.length<=c.length/\vs.all juu=true)/\Q () (S.set a.block (.cells (splice c a.off vs) e g)):=by
 constructor
 ·rintro ⟨u,S',h,q⟩
  unfold stL at h
  split at h
  ·rename_i c e g hc
   split at h
   ·cases h;exact ⟨c,e,g,hc,‹_›,q⟩
   ·cases h
  ·cases h
 ·rintro ⟨c,e,g,hc,h,q⟩
  refine ⟨(),_,?_,q⟩
  unfold stL
  rw [hc]
  dsimp only
  rw [if_pos h]
@[simp] theorem zgg {i:Nat} {v:Value} {S:St} {Q:Value->St->Prop}:WP (jzc (i,[v])) S Q↔Q v S:=wp_ret
@[simp] theorem z0u {i:Nat}:z0t ([]:List (M ρ)) i=M.fail:=by unfold z0t;rfl
@[simp] theorem z0v {m:M ρ} {i:Nat}:z0t [m] i=m:=by unfold z0t;rfl
@[simp] theorem z0x {m:M ρ} {l:List (M ρ)}:z0t (m :: l) 0=m:=by cases l <;> (unfold z0t;rfl)
@[simp] theorem z0w {m m':M ρ} {l:List (M ρ)} {i:Nat}:z0t (m :: m' :: l) (i+1)=z0t (m' :: l) i:=by conv=>lhs;unfold z0t
@[simp] theorem zgn {a:Option Addr} {S:St} {Q:List Value->St->Prop}:WP (rdN a 0) S Q↔Q [] S:=
 ⟨λ ⟨_,_,h,q⟩=>by cases h;exact q,λ q=>⟨_,_,rfl,q⟩⟩
theorem zgm {a:Addr} {k:Nat} {S:St} {Q:List Value->St->Prop} {c:List Value} {e:TypeId} {g:Option Nat} (hb:S[a.block]? = some (.cells c e g)) (hs:a.spot=none) (hl:a.off+k<=c.length)
 (q:Q ((c.drop a.off).take k) S):WP (rdN (some a) k) S Q:=by
 refine ⟨(c.drop a.off).take k,S,?_,q⟩
 unfold rdN
 by_cases h0:k=0
 ·subst h0;simp
 ·rw [if_neg h0]; dsimp only;rw [hb]; dsimp only;rw [if_pos ⟨hs,hl⟩]
theorem zgd {body:List Value->M (Nat×List Value)} {Q:Nat×List Value->St->Prop} (I:List Value->St->Nat->Prop)
 (hstep:∀ st S n,I st S n->WP (body st) S λ q S'=>match q.1 with
   | 0=>∃ n' < n,I q.2 S' n'
   | _+1=>Q q S'):∀ n st S,I st S n->WP (jw8 body st) S Q:=by
 intro n
 induction n using Nat.strongRecOn with
 | _ n ih =>
   intro st S hi
   obtain ⟨q,S',h1,h2⟩:=hstep st S n hi
   obtain ⟨i,l⟩:=q
   cases i with
   | zero=>
     obtain ⟨n',hn,hi'⟩:=h2
     obtain ⟨a,S2,h3,h4⟩:=ih n' hn _ _ hi'
     exact ⟨a,S2,by rw [jw9]; simp only [M.bind,h1]; exact h3,h4⟩
   | succ i=>exact ⟨(i+1,l),S',by rw [jw9]; simp only [M.bind,h1]; rfl,h2⟩
theorem zgp {body:List Value->M (Nat×List Value)} {st:List Value} {S:St} {Q:Nat×List Value->St->Prop}
 (h:WP (body st) S λ q S'=>match q.1 with
   | 0=>WP (jw8 body q.2) S' Q
   | _+1=>Q q S'):WP (jw8 body st) S Q:=by
 obtain ⟨⟨i,l⟩,S',h1,h2⟩:=h
 cases i with
 | zero => obtain ⟨a, S2, h3, h4⟩ := h2; exact ⟨a, S2, by rw [jw9]; simp only [M.bind, h1]; exact h3, h4⟩
 | succ i => exact ⟨(i + 1, l), S', by rw [jw9]; simp only [M.bind, h1]; rfl, h2⟩
def Sp (m:M α) (S:St) (R:α->St->Prop):Prop:=WP m S λ a S'=>S <+: S'/\R a S'
theorem Sp.use {m:M α} {S:St} {R Q:α->St->Prop} (h:Sp m S R) (k:∀ a S',S <+: S'->R a S'->Q a S'):WP m S Q:=
 WP.mono h λ a S' ⟨h1,h2⟩=>k a S' h1 h2
theorem z1w {S S':St} (h:S <+: S') {i:Nat} {o:j00} (ho:S[i]? = some o):S'[i]? = some o:=by
 obtain ⟨t,rfl⟩:=h
 have hl:i < S.length:=by
  rcases Nat.lt_or_ge i S.length with h | h
  ·exact h
  ·rw [List.getElem?_eq_none h] at ho;cases ho
 rw [List.getElem?_append_left hl]; exact ho
theorem z1v {S S':St} (h:S <+: S') {a:Addr} {v:Value} (hv:S.cell a=some v):S'.cell a=some v:=by
 unfold St.cell at hv ⊢
 cases hb:S[a.block]? with
 | none => rw [hb] at hv; cases hv
 | some o => rw [hb] at hv; rw [z1w h hb]; exact hv
theorem z23 {S S':St} (h:S <+: S') {b:Nat} {o:j00} (hb:b < S.length):S.set b o <+: S'.set b o:=by
 obtain ⟨t,rfl⟩:=h
 exact ⟨t,by rw [List.set_append_left _ _ hb]⟩
theorem z24 {S S':St} (h:S <+: S') {b:Nat} {o:j00} (hb:S.length<=b):S <+: S'.set b o:=by
 obtain ⟨t,rfl⟩:=h
 rw [List.set_append_right _ _ hb]
 exact ⟨_,rfl⟩
theorem z1t {S S':St} (h:S <+: S') (t:St):S <+: S'++t:=h.trans (List.prefix_append _ _)
theorem z20 {S S' t:St} (h:S++t <+: S'):S <+: S':=(List.prefix_append _ _).trans h
theorem jek {S:St} {o:j00}:(S++[o])[S.length]? = some o:=by simp
theorem jeh {S t:St} {i:Nat} {o:j00} (h:S[i]? = some o):(S++t)[i]? = some o:=z1w (List.prefix_append _ _) h
theorem z1y {S:St} {i:Nat} {o:j00} (h:S[i]? = some o):i < S.length:=by
 rcases Nat.lt_or_ge i S.length with h' | h'
 ·exact h'
 ·rw [List.getElem?_eq_none h'] at h;cases h
theorem z25 {S S':St} {o x:j00} (h:S++[o] <+: S'):S++[x] <+: S'.set S.length x:=by
 have:=z23 h (b:=S.length) (o:=x) (by simp)
 simpa using this
theorem z82 {S:St} {i:Nat} {o:j00} (h:S[i]? = some o):S.set i o=S:=by
 apply List.ext_getElem?
 intro j
 rw [List.getElem?_set]
 split
 ·rename_i e;subst e
  have:=z1y h
  rw [h,if_pos this]
 ·rfl
theorem j6u {S:St} {b:Nat} {c:List Value} {e:TypeId} {g:Option Nat} (h:S[b]? = some (.cells c e g)) (o:Nat):S.cell ⟨b,o,none⟩=c[o]?:=by
 simp [St.cell,h]
@[simp] theorem j6v {S:St} {c:List Value} {e:TypeId} {g:Option Nat} {o:Nat}:St.cell (S++[.cells c e g]) ⟨S.length,o,none⟩=c[o]?:=by
 simp [St.cell]
@[simp] theorem j23 {b o n:Nat}:(⟨b,o,none⟩:Addr).add n=⟨b,o+n,none⟩:=by
 unfold Addr.add;split
 ·rename_i h;subst h;simp
 ·rfl
theorem j25 (a:Addr):a.add 0=a:=by unfold Addr.add;simp
def Ar (S:St) (p:Option Addr) (n w:Nat) (e:α->List Value) (l:List α):Prop:=
 n=l.length/\∀ i (h:i < l.length),∃ a,p=some a/\∀ j v,(e l[i])[j]? = some v->S.cell ((a.add (i*w)).add j)=some v
theorem Ar.mono {S S':St} {p:Option Addr} {n w:Nat} {e:α->List Value} {l:List α} (h:Ar S p n w e l) (hs:S <+: S'):Ar S' p n w e l:=
 ⟨h.1,λ i hi=>by obtain ⟨a,h1,h2⟩:=h.2 i hi;exact ⟨a,h1,λ j v hv=>z1v hs (h2 j v hv)⟩⟩
theorem Ar.nil {S:St} {p:Option Addr} {w:Nat} {e:α->List Value}:Ar S p 0 w e []:=⟨rfl,λ i h=>by simp at h⟩
theorem Ar.set {S:St} {p:Option Addr} {n w b:Nat} {e:α->List Value} {l:List α} {o:j00} (h:Ar S p n w e l) (hb:∀ x,p=some x->x.block≠b):Ar (S.set b o) p n w e l:=by
 refine ⟨h.1,λ i hi=>?_⟩
 obtain ⟨x,h1,h2⟩:=h.2 i hi
 refine ⟨x,h1,λ j u hu=>?_⟩
 have h3:=h2 j u hu
 have hblk:((x.add (i*w)).add j).block=x.block:=by
  unfold Addr.add;split <;> split <;> rfl
 unfold St.cell at h3 ⊢
 rw [hblk] at h3 ⊢
 rw [List.getElem?_set_ne (λ e=>hb x h1 e.symm)]; exact h3
def eI (n:Int):List Value:=[.int .i64 n]
def eU (n:Int):List Value:=[.int .u64 n]
theorem Ar.getI {S:St} {p:Option Addr} {n:Nat} {l:List Int} (h:Ar S p n 1 eI l) {i:Nat} (hi:i < l.length) :
 ∃ a,p=some a/\S.cell (a.add i)=some (.int .i64 l[i]):=by
 obtain ⟨a,h1,h2⟩:=h.2 i hi
 exact ⟨a,h1,by have:=h2 0 _ rfl;rwa [j25,Nat.mul_one] at this⟩
theorem Ar.getU {S:St} {p:Option Addr} {n:Nat} {l:List Int} (h:Ar S p n 1 eU l) {i:Nat} (hi:i < l.length) :
 ∃ a,p=some a/\S.cell (a.add i)=some (.int .u64 l[i]):=by
 obtain ⟨a,h1,h2⟩:=h.2 i hi
 exact ⟨a,h1,by have:=h2 0 _ rfl;rwa [j25,Nat.mul_one] at this⟩
theorem Ar.blk {S:St} {b:Nat} {c:List Value} {t:TypeId} {g:Option Nat} (hb:S[b]? = some (.cells c t g)) {w:Nat} {e:α->List Value} {l:List α}
 (hw:∀ x∈l,(e x).length=w) (hc:c=l.flatMap e):Ar S (some ⟨b,0,none⟩) l.length w e l:=by
 refine ⟨rfl,λ i hi=>⟨_,rfl,λ j v hv=>?_⟩⟩
 simp only [j23]
 rw [j6u hb,hc]
 have key:∀ (l:List α) (i:Nat) (hi:i < l.length) (j:Nat) (v:Value),(∀ x∈l,(e x).length=w)->(e l[i])[j]? = some v->(l.flatMap e)[i*w+j]? = some v:=by
  intro l
  induction l with
  | nil=>intro i hi;simp at hi
  | cons x l ih=>
    intro i hi j v hw hv
    have hx:=hw x (by simp)
    rw [List.flatMap_cons]
    cases i with
    | zero=>
      have : j < (e x).length:=by
       rcases Nat.lt_or_ge j (e x).length with h | h
       ·exact h
       ·simp at hv;rw [List.getElem?_eq_none h] at hv;cases hv
      rw [Nat.zero_mul,Nat.zero_add,List.getElem?_append_left this]; exact hv
    | succ i=>
      rw [Nat.succ_mul,List.getElem?_append_right (by omega),show i*w+w+j-(e x).length=i*w+j by omega]
      exact ih i (by simpa using hi) j v (λ y hy=>hw y (by simp [hy])) (by simpa using hv)
 simpa using key l i hi j v hw hv
theorem z9v {c:List Value} {i:Nat} {v:Value} (h:i < c.length):splice c i [v]=c.set i v:=by
 unfold splice
 rw [List.set_eq_take_append_cons_drop]
 simp [h]
theorem zhy (n:Nat) (z:Value):zht n [z]=List.replicate n z:=by
 unfold zht
 simp only [List.length_singleton,Nat.mul_one,Nat.mod_one]
 exact List.map_const' ..|>.trans (by simp)
theorem wrap_i64 (n:Int) (h:-9223372036854775808<=n) (h2:n < 9223372036854775808):IntKind.i64.wrap n=n:=by
 simp [IntKind.wrap,IntKind.bits,IntKind.signed]
 omega
theorem wrap_u64 (n:Int):IntKind.u64.wrap n=n % 18446744073709551616:=by simp [IntKind.wrap,IntKind.bits,IntKind.signed]
theorem zgv (n:Int) (h:0<=n) (h2:n < 18446744073709551616):IntKind.u64.wrap n=n:=by rw [wrap_u64]; omega
structure Ap (S0:St) (a0:Option Addr) (S:St) (a:Option Addr) (n:Nat) (e:TypeId) (w:Nat) (cs:List Value):Prop where
 len:S0.length<=S.length
 keep:∀ i,i < S0.length->a0≠some ⟨i,0,none⟩->S[i]? = S0[i]?
 at_:a=a0\/∃ b,a=some ⟨b,0,none⟩/\S0.length<=b
 size:cs.length=n*w
 own:(a=none/\n=0)\/∃ b,a=some ⟨b,0,none⟩/\S[b]? = some (.cells cs e (some w))
 was:a0=none\/∃ b d t u,a0=some ⟨b,0,none⟩/\S0[b]? = some (.cells d t (some u))
section
variable {S0 S S':St} {a0 a a':Option Addr} {n n':Nat} {e:TypeId} {w:Nat} {cs cs':List Value}
theorem Ap.nil:Ap S none S none 0 e w []:=⟨Nat.le_refl _,λ _ _ _=>rfl,.inl rfl,by simp,.inl ⟨rfl,rfl⟩,.inl rfl⟩
theorem Ap.pre (h:Ap S0 none S a n e w cs):S0 <+: S:=by
 have hk:=h.keep
 refine ⟨S.drop S0.length,?_⟩
 have : S.take S0.length=S0:=by
  apply List.ext_getElem?
  intro i
  rw [List.getElem?_take]
  split
  ·rename_i hi;exact hk i hi (λ h=>by cases h)
  ·rename_i hi;rw [List.getElem?_eq_none (by omega)]
 conv=>lhs;arg 1;rw [<- this]
 exact List.take_append_drop _ _
theorem z1u (hs:S <+: S') {i:Nat} (hi:i < S.length):S'[i]? = S[i]?:=by
 obtain ⟨t,rfl⟩:=hs;exact List.getElem?_append_left hi
theorem Ap.more (h:Ap S0 a0 S a n e w cs) (hs:S <+: S'):Ap S0 a0 S' a n e w cs where
 len:=Nat.le_trans h.len hs.length_le
 keep:=λ i hi hne=>by rw [z1u hs (Nat.lt_of_lt_of_le hi h.len),h.keep i hi hne]
 at_:=h.at_
 size:=h.size
 own:=h.own.imp id λ ⟨b,h1,h2⟩=>⟨b,h1,z1w hs h2⟩
 was:=h.was
theorem Ap.start (h:Ap S0 a0 S a n e w cs):Ap S a S a n e w cs where
 len:=Nat.le_refl _
 keep:=λ _ _ _=>rfl
 at_:=.inl rfl
 size:=h.size
 own:=h.own
 was:=h.own.imp (·.1) λ ⟨b,h1,h2⟩=>⟨b,_,_,_,h1,h2⟩
theorem Ap.trans (h:Ap S0 a0 S a n e w cs) (k:Ap S a S' a' n' e w cs'):Ap S0 a0 S' a' n' e w cs' where
 len:=Nat.le_trans h.len k.len
 keep:=λ i hi hne=>by
  rw [k.keep i (Nat.lt_of_lt_of_le hi h.len) ?_,h.keep i hi hne]
  rcases h.at_ with h1 | ⟨b,h1,h2⟩
  ·rw [h1]; exact hne
  ·rw [h1]; intro q;cases q;omega
 at_:=by
  rcases k.at_ with h1 | ⟨b,h1,h2⟩
  ·rw [h1]; exact h.at_
  ·exact .inr ⟨b,h1,Nat.le_trans h.len h2⟩
 size:=k.size
 own:=k.own
 was:=h.was
theorem jcv {α:Type} {e:α->List Value} {w:Nat} (h:∀ x,(e x).length=w):∀ l:List α,(l.flatMap e).length=l.length*w
 | [] => by simp
 | x :: l => by rw [List.flatMap_cons, List.length_append, jcv h l, h, List.length_cons, Nat.succ_mul]; omega
theorem Ap.cnt {α:Type} {f:α->List Value} {l:List α} (h:Ap S0 a0 S a n e w (l.flatMap f)) (hw:∀ x,(f x).length=w) (h0:0 < w):n=l.length:=by
 have:=h.size
 rw [jcv hw] at this
 exact (Nat.eq_of_mul_eq_mul_right h0 this).symm
theorem Ap.ar {α:Type} {f:α->List Value} {l:List α} (h:Ap S0 a0 S a n e w (l.flatMap f)) (hw:∀ x,(f x).length=w) (h0:0 < w):Ar S a n w f l:=by
 have hn:=h.cnt hw h0
 rcases h.own with ⟨h3,h4⟩ | ⟨b,h3,h5⟩
 ·subst h4 h3
  have : l=[]:=List.eq_nil_of_length_eq_zero hn.symm
  subst this;exact .nil
 ·subst hn h3
  exact Ar.blk h5 (λ x _=>hw x) rfl
theorem Ap.get (h:Ap S0 a0 S a n e w cs) {i:Nat} {o:j00} (hi:S0[i]? = some o) (hne:a0≠some ⟨i,0,none⟩):S[i]? = some o:=by
 rw [h.keep i (z1y hi) hne]; exact hi
theorem Ap.cells (h:Ap S0 a0 S a n e w cs) {i:Nat} {d:List Value} {t:TypeId} (hi:S0[i]? = some (.cells d t none)):S[i]? = some (.cells d t none):=by
 refine h.get hi ?_
 rintro rfl
 rcases h.was with h1 | ⟨b,_,_,_,h1,h2⟩
 ·cases h1
 ·cases h1;rw [hi] at h2;cases h2
theorem Ap.kAr {α:Type} {f:α->List Value} {l:List α} {p:Option Addr} {m v:Nat} (h:Ap S0 a0 S a n e w cs) (k:Ar S0 p m v f l) (hne:∀ x,p=some x->a0≠some ⟨x.block,0,none⟩):Ar S p m v f l:=by
 refine ⟨k.1,λ i hi=>?_⟩
 obtain ⟨x,h1,h2⟩:=k.2 i hi
 refine ⟨x,h1,λ j u hu=>?_⟩
 have h3:=h2 j u hu
 have hblk:((x.add (i*v)).add j).block=x.block:=by
  unfold Addr.add;split <;> split <;> rfl
 unfold St.cell at h3 ⊢
 rw [hblk] at h3 ⊢
 rw [h.keep x.block ?_ (hne x h1)]; exact h3
 rcases Nat.lt_or_ge x.block S0.length with h' | h'
 ·exact h'
 ·rw [List.getElem?_eq_none h'] at h3;cases h3
theorem Ap.new (h:Ap S0 none S a n e w cs) {x:Addr} (hx:a=some x):S0.length<=x.block:=by
 rcases h.at_ with h1 | ⟨b,h1,h2⟩
 ·rw [h1] at hx;cases hx
 ·rw [h1] at hx;cases hx;exact h2
theorem Ap.lt (h:Ap S0 a0 S a n e w cs) {i:Nat} (hi:a=some ⟨i,0,none⟩):i < S.length:=by
 rcases h.own with ⟨h1,_⟩ | ⟨b,h1,h2⟩
 ·rw [h1] at hi;cases hi
 ·rw [h1] at hi;cases hi;exact z1y h2
theorem Ap.below (h:Ap S0 a0 S a n e w cs) {x:Addr} (hx:a=some x):x.block < S.length:=by
 rcases h.own with ⟨h1,_⟩ | ⟨b,h1,h2⟩
 ·rw [h1] at hx;cases hx
 ·rw [h1] at hx;cases hx;exact z1y h2
theorem zfr (h:Ap S0 a0 S a n e w cs) {bt m:Nat} {xs:List Value} {Q:Sl->St->Prop}
 (hm:xs.length=m*w) (hm0:0 < m) (hsz:(n+m)*bt<=140737488355328) (hbt:1<=bt) (hlf:xs.all juu=true)
 (q:∀ b S',Ap S0 a0 S' (some ⟨b,0,none⟩) (n+m) e w (cs++xs)->Q ⟨some ⟨b,0,none⟩,n+m,n+m⟩ S') :
 WP (j33 e w bt a n n m xs) S Q:=by
 have h2:=h.size
 have hsz2:n+m<=9223372036854775807:=by
  have:=Nat.mul_le_mul_left (n+m) hbt
  omega
 unfold j33
 rw [if_neg (by omega),if_pos ⟨hsz,hsz2⟩]
 rcases h.own with ⟨rfl,h3⟩ | ⟨b,rfl,hb⟩
 ·subst h3
  dsimp only
  rw [if_pos rfl]
  refine ⟨_,_,rfl,q _ _ ?_⟩
  have hc:cs=[]:=List.eq_nil_of_length_eq_zero (by rw [h2]; simp)
  subst hc
  refine ⟨by simp;have:=h.len;omega,λ i hi hne=>?_,.inr ⟨_,rfl,h.len⟩,by simp [hm],.inr ⟨_,rfl,by simp⟩,h.was⟩
  rw [List.getElem?_append_left (Nat.lt_of_lt_of_le hi h.len)]; exact h.keep i hi hne
 ·dsimp only
  rw [zg4]
  refine zgm hb rfl (by simp [h2]) ?_
  have e1:((cs.drop 0).take (n*w))=cs:=by rw [List.drop_zero,<- h2,List.take_length]
  dsimp only
  rw [e1]
  refine ⟨_,_,by dsimp only;rw [hb]; dsimp only;rw [if_pos ⟨rfl,rfl,rfl,hlf⟩],?_⟩
  refine q _ _ ⟨by simp;have:=h.len;omega,λ i hi hne=>?_,.inr ⟨_,rfl,h.len⟩,by rw [List.length_append,h2,hm,Nat.add_mul],.inr ⟨_,rfl,by simp⟩,h.was⟩
  rw [List.getElem?_append_left (by simp;exact Nat.lt_of_lt_of_le hi h.len),List.getElem?_set_ne ?_]
  ·exact h.keep i hi hne
  ·rintro rfl
   rcases h.at_ with h4 | ⟨c,h4,h5⟩
   ·exact hne h4.symm
   ·cases h4;omega
theorem zgh (h:Ap S0 a0 S a n e w cs) {bt:Nat} {x:List Value} {t:TypeId} {Q:Sl->St->Prop}
 (hx:x.length=w) (hsz:(n+1)*bt<=140737488355328) (hbt:1<=bt) (hlf:x.all juu=true)
 (q:∀ b S',Ap S0 a0 S' (some ⟨b,0,none⟩) (n+1) e w (cs++x)->Q ⟨some ⟨b,0,none⟩,n+1,n+1⟩ S') :
 WP (rdN (some ⟨S.length,0,none⟩) w) (S++[.cells x t none]) λ xs S1=>WP (j33 e w bt a n n 1 xs) S1 Q:=by
 refine zgm jek rfl (by simp [hx]) ?_
 have e1:(x.drop 0).take w=x:=by rw [List.drop_zero,<- hx,List.take_length]
 rw [e1]
 exact zfr (h.more (List.prefix_append _ _)) (by simp [hx]) (by omega) hsz hbt hlf q
end
theorem zfu {S:St} {b n c:Nat} {e w bt:Nat} {cs:List Value} {t:TypeId} {g:Option Nat} (hb:S[b]? = some (.cells cs t g)) {m:Nat} {xs:List Value} {Q:Sl->St->Prop}
 (hc:n+m<=c) (hl:n*w+xs.length<=cs.length) (hlf:xs.all juu=true) (q:Q ⟨some ⟨b,0,none⟩,n+m,c⟩ (S.set b (.cells (splice cs (n*w) xs) t g))) :
 WP (j33 e w bt (some ⟨b,0,none⟩) n c m xs) S Q:=by
 unfold j33
 rw [if_pos hc]
 simp only [j23,zg4,zgq,wp_ret]
 exact ⟨cs,t,g,hb,⟨by simp,by simpa using hl,hlf⟩,by simpa using q⟩
theorem gcz {α:Type} {a:α} {l:List α}:(a :: l)[0]? = some a:=rfl
theorem gcs {α:Type} {a:α} {l:List α} {i:Nat}:(a :: l)[i+1]? = l[i]?:=List.getElem?_cons_succ
end Go.AM
namespace Go.AM
open Go
variable {α β γ ρ:Type}
theorem jvw {q:Nat} {g:List Value->M Value} {l:List (Nat×(List Value->M Value))} {C:FuncId->List Value->M Value} {p:FuncId} {args:List Value} :
 jvv ((q,g) :: l) C p args=bif (q == p:Bool) then g args else jvv l C p args:=by
 simp only [jvv]
 cases h:Nat.beq q p with
 | true => have := Nat.eq_of_beq_eq_true h; subst this; simp
 | false =>
   have : (q == p)=false:=by
    cases h2:(q == p) with
    | false=>rfl
    | true=>have:=eq_of_beq h2;subst this;rw [Nat.beq_refl] at h;cases h
   rw [this]; rfl
theorem zg5 {m:M Value} {v:Value} {S:St} {Q:Unit->St->Prop}:WP (chk m v) S Q↔WP m S (λ a S'=>a=v/\S'=S)/\Q () S:=by
 constructor
 ·rintro ⟨u,S',h,q⟩
  unfold chk at h
  split at h
  ·rename_i h1;cases h;exact ⟨⟨_,_,h1,rfl,rfl⟩,q⟩
  ·cases h
 ·rintro ⟨⟨a,S',h1,rfl,rfl⟩,q⟩
  exact ⟨(),_,by unfold chk;rw [if_pos h1],q⟩
theorem wps :
 (∀ (α:Type) (a:α) (S:St) (Q:α->St->Prop),WP (M.ret a) S Q=Q a S) /\
 (∀ (i:Nat) (l:List Value) (S:St) (Q:Nat×List Value->St->Prop),WP (z5w i l) S Q=Q (i,l) S) /\
 (∀ (α β:Type) (m:M α) (k:α->M β) (S:St) (Q:β->St->Prop),WP (M.bind m k) S Q=WP m S λ a S'=>WP (k a) S' Q) /\
 (∀ (α:Type) (c:Prop) [Decidable c] (m:M α) (S:St) (Q:α->St->Prop),WP (jr0 c m) S Q=(c/\WP m S Q)) /\
 (∀ (α:Type) (b:Bool) (m n:M α) (S:St) (Q:α->St->Prop),WP (cond b m n) S Q=((b=true->WP m S Q)/\(b=false->WP n S Q))) /\
 (∀ (k:IntKind) (n:Int) (S:St) (Q:Int->St->Prop),WP (asI k (.int k n)) S Q=Q n S) /\
 (∀ (b:Bool) (S:St) (Q:Bool->St->Prop),WP (asB (.bool b)) S Q=Q b S) /\
 (∀ (a:Option Addr) (n c:Nat) (S:St) (Q:Sl->St->Prop),WP (asS (.slice a n c)) S Q=Q ⟨a,n,c⟩ S) /\
 (∀ (a:Option Addr) (S:St) (Q:Option Addr->St->Prop),WP (asP (.pointer a)) S Q=Q a S) /\
 (∀ (a:Option Nat) (S:St) (Q:Option Nat->St->Prop),WP (asM (.map a)) S Q=Q a S) /\
 (∀ (l:List Value) (S:St) (Q:List Value->St->Prop),WP (asA (.agg ⟨l⟩)) S Q=Q l S) /\
 (∀ (l:List Value) (S:St) (Q:List Value->St->Prop),WP (asT (.tuple ⟨l⟩)) S Q=Q l S) /\
 (∀ (t:TypeId) (v:Value) (S:St) (Q:TypeId×Value->St->Prop),WP (asF (.iface t v)) S Q=Q (t,v) S) /\
 (∀ (α ρ:Type) (a:α) (K:α->M ρ) (S:St) (Q:ρ->St->Prop),WP (jz2 (some a) K) S Q=WP (K a) S Q) /\
 (∀ (o:j00) (S:St) (Q:Nat->St->Prop),WP (jxx o) S Q=Q S.length (S++[o])) /\
 (∀ (a:Addr) (S:St) (Q:Value->St->Prop),WP (ld a) S Q = ∃ v,S.cell a=some v/\Q v S) /\
 (∀ (a:Addr) (vs:List Value) (S:St) (Q:Unit->St->Prop),WP (stL a vs) S Q =
   ∃ c e g,S[a.block]? = some (.cells c e g)/\(a.spot=none/\a.off+vs.length<=c.length/\vs.all juu=true)/\Q () (S.set a.block (.cells (splice c a.off vs) e g))) /\
 (∀ (i:Nat) (v:Value) (S:St) (Q:Value->St->Prop),WP (jzc (i,[v])) S Q=Q v S) /\
 (∀ (ρ:Type) (m:M ρ) (i:Nat),z0t [m] i=m) /\
 (∀ (ρ:Type) (m:M ρ) (l:List (M ρ)),z0t (m :: l) 0=m) /\
 (∀ (ρ:Type) (m m':M ρ) (l:List (M ρ)) (i:Nat),z0t (m :: m' :: l) (i+1)=z0t (m' :: l) i) /\
 (∀ (ρ:Type) (m m':M ρ) (l:List (M ρ)),z0t (m :: m' :: l) 1=z0t (m' :: l) 0) /\
 (∀ (ρ:Type) (m m':M ρ) (l:List (M ρ)),z0t (m :: m' :: l) 2=z0t (m' :: l) 1) /\
 (∀ (ρ:Type) (m m':M ρ) (l:List (M ρ)),z0t (m :: m' :: l) 3=z0t (m' :: l) 2) /\
 (∀ (x y:Nat) (l:List Value),(x,l).1=x/\(x,l).2=l) /\
 (∀ (a d:Value) (l:List Value),(a :: l).headD d=a) /\
 (∀ (a:Value) (l:List Value),(a :: l).tail=l) /\
 (∀ (a:Value) (l:List Value),(a :: l).length=l.length+1) /\
 (([]:List Value).length=0) /\
 (∀ (p:Prop),(True/\p)=p)/\(∀ (p:Prop),(p/\True)=p)/\(∀ (p:Prop),(False->p)=True)/\(∀ (p:Prop),(True->p)=p)/\(∀ (p:Prop),(p->True)=True)/\((¬ True)=False)/\((¬ False)=True) /\
 (∀ (p:Prop) [Decidable p],(decide p=true)=p)/\(∀ (p:Prop) [Decidable p],(decide p=false) = ¬ p) /\
 (∀ b:Bool,((!b)=true)=(b=false))/\(∀ b:Bool,((!b)=false)=(b=true))/\((true=false)=False)/\((false=true)=False) /\
 (∀ a b:Int,((a == b)=true)=(a=b))/\(∀ a b:Int,((a == b)=false)=(a≠b))/\(∀ a b:Int,((a != b)=true)=(a≠b))/\(∀ a b:Int,((a != b)=false)=(a=b)) /\
 (∀ (x:Value) (p:Value->Prop),(∃ v,some x=some v/\p v)=p x) /\
 (∀ (c0:List Value) (e0:TypeId) (g0:Option Nat) (p:List Value->TypeId->Option Nat->Prop),(∃ c e g,some (j00.cells c0 e0 g0)=some (j00.cells c e g)/\p c e g)=p c0 e0 g0) /\
 (∀ (α:Type) (a:α),((a=a)=True)) /\
 (∀ n:Nat,((n:Int)).toNat=n)/\(∀ n:Nat,(n+1-1)=n)/\(∀ (a:Addr),a.add 0=a) /\
 (∀ b o n:Nat,(⟨b,o,none⟩:Addr).add n=⟨b,o+n,none⟩) /\
 (∀ (S:St) (c:List Value) (e:TypeId) (g:Option Nat) (o:Nat),St.cell (S++[.cells c e g]) ⟨S.length,o,none⟩=c[o]?) /\
 (∀ (S:St) (o:j00),(S++[o])[S.length]? = some o) /\
 (∀ (S:St) (o x:j00),(S++[o]).set S.length x=S++[x]) /\
 (∀ n:Nat,n*1=n)/\(∀ n:Nat,0+n=n)/\(∀ n:Nat,n+0=n)/\(∀ n:Nat,(0<=(n:Int))=True) /\
 (∀ n:Nat,((0:Nat)=n+1)=False)/\(∀ n:Nat,(n+1=(0:Nat))=False)/\(∀ m n:Nat,(m+1=n+1)=(m=n)) /\
 (∀ (a:Value) (l:List Value),(a :: l)[0]? = some a)/\(∀ (a b:Value) (l:List Value),(a :: b :: l)[1]? = some b)/\(∀ (a b c:Value) (l:List Value),(a :: b :: c :: l)[2]? = some c) /\
 (∀ (a b c d:Value) (l:List Value),(a :: b :: c :: d :: l)[3]? = some d)/\(∀ (a b c d e:Value) (l:List Value),(a :: b :: c :: d :: e :: l)[4]? = some e) /\
 (∀ (a b c d e f:Value) (l:List Value),(a :: b :: c :: d :: e :: f :: l)[5]? = some f)/\(∀ (a b c d e f g:Value) (l:List Value),(a :: b :: c :: d :: e :: f :: g :: l)[6]? = some g) /\
 (∀ (a b c d e f g h:Value) (l:List Value),(a :: b :: c :: d :: e :: f :: g :: h :: l)[7]? = some h) /\
 (∀ (c vs:List Value),splice c 0 vs=vs++c.drop vs.length)/\(∀ (a:Value) (l:List Value) (n:Nat),(a :: l).drop (n+1)=l.drop n)/\(∀ (l:List Value),l.drop 0=l) /\
 (∀ (n:Nat),([]:List Value).drop n=[])/\(∀ (l:List Value),l++[]=l)/\(∀ (a:Value) (l m:List Value),(a :: l)++m=a :: (l++m))/\(∀ (l:List Value),[]++l=l) /\
 (∀ (k:IntKind) (n:Int) (l:List Value),(Value.int k n :: l).all juu=l.all juu)/\(∀ (b:Bool) (l:List Value),(Value.bool b :: l).all juu=l.all juu) /\
 (∀ (a:Option Addr) (n c:Nat) (l:List Value),(Value.slice a n c :: l).all juu=l.all juu)/\(∀ (a:Option Addr) (l:List Value),(Value.pointer a :: l).all juu=l.all juu) /\
 (∀ (a:Option Nat) (l:List Value),(Value.map a :: l).all juu=l.all juu)/\(∀ (fn:Fn) (f c:Array Value) (l:List Value),(Value.func fn f c :: l).all juu=l.all juu)/\(([]:List Value).all juu=true)/\(∀ n:Nat,(n<=n)=True)/\(∀ a:Int,(a≠a)=False)/\(∀ (m:M Value) (v:Value) (S:St) (Q:Unit->St->Prop),WP (chk m v) S Q=(WP m S (λ a S'=>a=v/\S'=S)/\Q () S)) /\
 (∀ (a:Value) (l vs:List Value),splice (a :: l) 1 vs=a :: splice l 0 vs)/\(∀ (a:Value) (l vs:List Value),splice (a :: l) 2 vs=a :: splice l 1 vs)/\(∀ (a:Value) (l vs:List Value),splice (a :: l) 3 vs=a :: splice l 2 vs)/\(∀ (a:Value) (l vs:List Value),splice (a :: l) 4 vs=a :: splice l 3 vs)/\(∀ (a:Value) (l vs:List Value),splice (a :: l) 5 vs=a :: splice l 4 vs)/\(∀ (a:Value) (l vs:List Value),splice (a :: l) 6 vs=a :: splice l 5 vs)/\(∀ (a:Value) (l vs:List Value),splice (a :: l) 7 vs=a :: splice l 6 vs) /\
 (∀ (a:Value) (l:List Value),(a :: l).take 1=a :: l.take 0)/\(∀ (a:Value) (l:List Value),(a :: l).take 2=a :: l.take 1)/\(∀ (a:Value) (l:List Value),(a :: l).take 3=a :: l.take 2)/\(∀ (a:Value) (l:List Value),(a :: l).take 4=a :: l.take 3)/\(∀ (a:Value) (l:List Value),(a :: l).take 5=a :: l.take 4)/\(∀ (a:Value) (l:List Value),(a :: l).take 6=a :: l.take 5)/\(∀ (a:Value) (l:List Value),(a :: l).take 7=a :: l.take 6)/\(∀ (a:Value) (l:List Value),(a :: l).take 8=a :: l.take 7)/\(∀ (l:List Value),l.take 0=[]) /\
 (∀ (a:Value) (l:List Value),(a :: l).drop 1=l.drop 0)/\(∀ (a:Value) (l:List Value),(a :: l).drop 2=l.drop 1)/\(∀ (a:Value) (l:List Value),(a :: l).drop 3=l.drop 2)/\(∀ (a:Value) (l:List Value),(a :: l).drop 4=l.drop 3)/\(∀ (a:Value) (l:List Value),(a :: l).drop 5=l.drop 4)/\(∀ (a:Value) (l:List Value),(a :: l).drop 6=l.drop 5)/\(∀ (a:Value) (l:List Value),(a :: l).drop 7=l.drop 6)/\(∀ (a:Value) (l:List Value),(a :: l).drop 8=l.drop 7)/\(∀ (a:Value) (l:List Value),(a :: l).drop 9=l.drop 8)/\(∀ (a:Value) (l:List Value),(a :: l).drop 10=l.drop 9)/\(∀ (a:Value) (l:List Value),(a :: l).drop 11=l.drop 10)/\(∀ (a:Value) (l:List Value),(a :: l).drop 12=l.drop 11) /\
 (Int.toNat 0=0)/\(Int.toNat 1=1)/\(Int.toNat 2=2)/\(Int.toNat 3=3) /\
 (∀ (C:FuncId->List Value->M Value) (k:FuncId) (f c args:List Value),j6k C (.func (.func k) ⟨f⟩ ⟨c⟩) args=C k (f++args++c)) /\
 (∀ (C:FuncId->List Value->M Value) (p:FuncId) (args:List Value),jvv [] C p args=C p args) /\
 (∀ (q:Nat) (g:List Value->M Value) (l:List (Nat×(List Value->M Value))) (C:FuncId->List Value->M Value) (p:FuncId) (args:List Value),jvv ((q,g) :: l) C p args=bif (q == p:Bool) then g args else jvv l C p args) /\
 (∀ (m n:M Value),(bif true then m else n)=m)/\(∀ (m n:M Value),(bif false then m else n)=n) /\
 (∀ (a:Addr) (n:Int) (w:Nat),ax a n w=a.add (n.toNat*w)) /\
 (∀ b o:Nat,(⟨b,o,none⟩:Addr).block=b/\(⟨b,o,none⟩:Addr).off=o/\(⟨b,o,none⟩:Addr).spot=none):=by
 repeat' apply And.intro
 all_goals intros
 all_goals try (simp;done)
 all_goals first
  | exact propext wp_ret
  | exact propext zg4
  | exact propext wp_cond
  | exact propext zgb
  | exact propext zg5
  | exact jvw
  | rfl
  | exact propext zgq
  | exact j25 _
  | (simp [and_assoc]; done)
  | (simp [splice]; done)
  | (simp [splice,Nat.add_right_comm,Nat.add_comm]; done)
  | (rename_i vs;unfold splice;rw [show ∀ k,(k+1)+vs.length=(k+vs.length)+1 from λ k=>by omega]; rfl)
  | (rename_i a l vs;unfold splice;simp [show ∀ k j:Nat,(k+1)+j=(k+j)+1 from λ k j=>by omega]; done)
  | (simp [juu]; done)
  | skip
theorem wI_ {n:Int} (h:-9223372036854775808<=n) (h2:n < 9223372036854775808):wI n=n:=wrap_i64 n h h2
theorem wU_ {n:Int} (h:0<=n) (h2:n < 18446744073709551616):wU n=n:=zgv n h h2
def Gv (m:M α) (S:St) (v:α):Prop:=m S=some (v,S)
theorem Gv.wp {m:M α} {S:St} {v:α} (h:Gv m S v) (Q:α->St->Prop):WP m S Q=Q v S:=
 propext ⟨λ ⟨_,_,h1,q⟩=>by rw [h] at h1;cases h1;exact q,λ q=>⟨_,_,h,q⟩⟩
theorem Gv.of {m:M α} {S:St} {v:α} (h:WP m S λ a S'=>a=v/\S'=S):Gv m S v:=by
 obtain ⟨a,S',h1,rfl,rfl⟩:=h
 exact h1
theorem j50 {S:St} {b:Nat} {l:List Int} {t:TypeId} {g:Option Nat} (hb:S[b]? = some (.cells (l.map (.int .i64)) t g)):Ar S (some ⟨b,0,none⟩) l.length 1 eI l:=
 Ar.blk hb (λ _ _=>rfl) (by rw [List.map_eq_flatMap]; rfl)
theorem j51 {S:St} {b:Nat} {l:List Int} {t:TypeId} {g:Option Nat} (hb:S[b]? = some (.cells (l.map (.int .u64)) t g)):Ar S (some ⟨b,0,none⟩) l.length 1 eU l:=
 Ar.blk hb (λ _ _=>rfl) (by rw [List.map_eq_flatMap]; rfl)
theorem zg6 {m:M α} {x:α} (h:∀ S,WP m S λ v S'=>v=x/\S'=S):m=M.ret x:=by
 funext S
 obtain ⟨a,S',h1,rfl,rfl⟩:=h S
 exact h1
end Go.AM
namespace Go.AM
open Go
structure Ax where
 N:Int
 neg:Bool
 deriving DecidableEq
structure Sg where
 R:Int
 L:Int
 M:Int
 deriving DecidableEq
structure Stp where
 ax:Int
 tw:Bool
 st:Sg
 deriving DecidableEq
def j9y (l:List Ax):List Int:=l.map (·.N)
def j2e:Int->List Int->Int×Int
 | n, [] => (n, 0)
 | n, d :: r => if d < 1 \/ 4096 < d \/ 4096 < n * d then (0, 3) else j2e (n * d) r
def allV (l:List Int):Int×Int:=if l.length < 1\/4 < l.length then (0,3) else j2e 1 l
def nV (l:List Ax):Int:=(allV (j9y l)).1
def z1g (p a:Int) (n:Nat):Int:=if jt3 p=true then a ^ n % p else 0
theorem z1i (p a:Int) (n:Nat):0<=z1g p a n/\z1g p a n < 18446744073709551616:=by
 unfold z1g
 cases hk:jt3 p with
 | false => simp
 | true =>
   have hp:=jt7 hk
   rw [if_pos rfl]
   exact ⟨Int.emod_nonneg _ (by omega),by have:=Int.emod_lt_of_pos (a ^ n) (b:=p) (by omega); omega⟩
theorem jxf (p a:Int) (m n:Nat):jxc p (z1g p a m) (z1g p a n)=z1g p a (m+n):=by
 unfold jxc z1g
 cases hk:jt3 p with
 | false => simp
 | true => simp only [if_true]; rw [<- Int.mul_emod, <- Int.pow_add]
theorem jxg (p a:Int) (m:Nat):jxc p (z1g p a m) a=z1g p a (m+1):=by
 unfold jxc z1g
 cases hk:jt3 p with
 | false => simp
 | true => simp only [if_true]; rw [Int.pow_succ, Int.mul_emod, Int.emod_emod_of_dvd _ (Int.dvd_refl p), <- Int.mul_emod]
theorem jxh (p a b:Int):0<=jxc p a b/\jxc p a b < 18446744073709551616:=by
 unfold jxc
 cases hk:jt3 p with
 | false => simp
 | true =>
   have hp:=jt7 hk
   rw [if_pos rfl]
   exact ⟨Int.emod_nonneg _ (by omega),by have:=Int.emod_lt_of_pos (a*b) (b:=p) (by omega); omega⟩
theorem jdv (p:Int):0<=jdt p/\jdt p < 18446744073709551616:=by
 unfold jdt;split
 ·omega
 ·split
  ·omega
  ·split <;> omega
def z57 (p n:Int):Int:=if jt3 p=true then (if n < 1\/8192 < n then 1 else 0) else 2
def z60 (p n:Int):Int×Int:=if z57 p n=0 then (if (p-1) % n > 0 then (0,5) else (z1g p (jdt p) ((p-1) / n).toNat,0)) else (0,z57 p n)
def js7 (p a:Int):Int×Int:=if jt3 p=true then (if red p a=0 then (0,9) else (z1g p a (p-2).toNat,0)) else (0,2)
def j5l (p n:Int):Int×Int:=if (z60 p n).2=0 then js7 p (z60 p n).1 else (0,(z60 p n).2)
theorem z61 (p n:Int):0<=(z60 p n).1/\(z60 p n).1 < 18446744073709551616:=by
 unfold z60
 split
 ·split
  ·simp
  ·exact z1i _ _ _
 ·simp
theorem js9 (p n:Int):0<=(js7 p n).1/\(js7 p n).1 < 18446744073709551616:=by
 unfold js7
 split
 ·split
  ·simp
  ·exact z1i _ _ _
 ·simp
theorem j63:∀ (f x:Nat),x < 2 ^ f->x < 2 ^ Lib.bitLenAux f x/\Lib.bitLenAux f x<=f
 | 0, x, h => by simpa [Lib.bitLenAux] using h
 | f + 1, x, h => by
   unfold Lib.bitLenAux
   by_cases h0:x=0
   ·rw [if_pos h0]; subst h0;simp
   ·rw [if_neg h0]
    obtain ⟨h1,h2⟩:=j63 f (x / 2) (by rw [Nat.pow_succ] at h;omega)
    refine ⟨?_,by omega⟩
    rw [Nat.add_comm,Nat.pow_succ]; omega
def z4j (n:Int):List Int×Int:=if 1<=n/\n<=4096 then z4g n.toNat else ([],4)
def z9f (n:Int):Bool:=(z4j n).2 == 0
def jzi (a:Ax):Int:=if a.neg=true then IntKind.i64.wrap (a.N*2) else a.N
def gGo (p:Int):Int->List Ax->Int
 | e, [] => e
 | e, a :: r => if z9f a.N = true then gGo p (if (z60 p (jzi a)).2 = 0 then e else 5) r else 4
def jqm (p:Int) (l:List Ax):Int:=if jt3 p=true then (if (allV (j9y l)).2=0 then gGo p 0 l else 3) else 2
def za4 (n:Int):Int->List Int->List Sg
 | _, [] => []
 | a, r :: l => ⟨r, a, n / a / r⟩ :: za4 n (a * r) l
def zah (n:Int):List Sg×Int:=if (z4j n).2=0 then (za4 n 1 (z4j n).1,0) else ([],(z4j n).2)
def j5j (l:List Ax) (k:Int):Ax:=l.getD k.toNat ⟨0,false⟩
def zam (p:Int) (l:List Ax) (s:Stp):Int:=
 if jqm p l=0 then (if 0<=s.ax/\s.ax < l.length then
  (if s.tw=true then (if s.st=⟨0,0,0⟩ then 0 else 1)
   else if (zah (j5j l s.ax).N).2=0 then (if s.st∈(zah (j5j l s.ax).N).1 then 0 else 1) else (zah (j5j l s.ax).N).2)
  else 1) else jqm p l
def tw (k:Int):Stp:=⟨k,true,⟨0,0,0⟩⟩
def stg (k:Int) (s:Sg):Stp:=⟨k,false,s⟩
def zau (inv:Bool):Int->List Ax->List Stp
 | _, [] => []
 | k, a :: l => ((if a.neg = true /\ inv = false then [tw k] else []) ++ (zah a.N).1.map (stg k) ++ (if inv = true then [tw k] else [])) ++ zau inv (k + 1) l
def zav (p:Int) (l:List Ax) (inv:Bool):List Stp×Int:=if jqm p l=0 then (zau inv 0 l,0) else ([],jqm p l)
def z1q (p a:Int) (m:Nat):List Int:=(List.range m).map λ i=>z1g p a i
def z1o (p a many:Int):List Int×Int:=if jt3 p=true then (if many < 0\/65536 < many then ([],1) else (z1q p a many.toNat,0)) else ([],2)
def j5v (p:Int) (a:Ax) (inv:Bool) (s:Stp):Int×Int:=
 if s.tw=true/\a.neg=false then (1,0) else
 let o:=if s.tw=true then IntKind.i64.wrap (2*a.N) else IntKind.i64.wrap (s.st.R*s.st.M)
 if inv=true then j5l p o else z60 p o
theorem z4e:∀ a,a < 65->∀ b,b < 64->1<=64*a+b->(z4c (64*a+b)).all (λ r=>decide (2<=r/\r<=4160))=true/\(z4c (64*a+b)).foldr (· * ·) 1=64*a+b:=by decide +kernel
theorem z4d (n:Nat) (h:n < 4097) (h1:1<=n):(z4c n).all (λ r=>decide (2<=r/\r<=4160))=true/\(z4c n).foldr (· * ·) 1=n/\(z4c n).length<=4096:=by
 have:=z4e (n / 64) (by omega) (n % 64) (by omega) (by omega)
 rw [Nat.div_add_mod] at this
 exact ⟨this.1,this.2,(j8a n h h1).2.2⟩
theorem jdf:∀ l:List Nat,((l.map λ x:Nat=>(x:Int)).foldr (· * ·) 1)=((l.foldr (· * ·) 1:Nat):Int)
 | [] => rfl
 | x :: l => by simp [jdf l]
theorem z4k {n:Int} (h:(z4j n).2=0):1<=n/\n<=4096/\(∀ r∈(z4j n).1,2<=r/\r<=5)/\(z4j n).1.foldr (· * ·) 1=n/\(z4j n).1.length<=4096:=by
 unfold z4j at h ⊢
 by_cases c:1<=n/\n<=4096
 ·rw [if_pos c] at h ⊢
  obtain ⟨m,rfl⟩:=Int.eq_ofNat_of_zero_le (show 0<=n by omega)
  rw [Int.toNat_natCast] at h ⊢
  unfold z4g at h ⊢
  obtain ⟨f1,f2,f3⟩:=z4d m (by omega) (by omega)
  split at h
  ·rename_i hg
   rw [if_pos hg]
   refine ⟨c.1,c.2,λ r hr=>?_,by rw [jdf,f2],by simpa using f3⟩
   obtain ⟨x,hx,rfl⟩:=List.mem_map.1 hr
   have g1:=of_decide_eq_true (List.all_eq_true.1 f1 x hx)
   have g2:=of_decide_eq_true (List.all_eq_true.1 hg x hx)
   omega
  ·simp at h
 ·rw [if_neg c] at h;simp at h
theorem jdp (p:Int):∀ l:List Ax,gGo p 5 l≠0
 | [] => by unfold gGo; decide
 | a :: r => by
   unfold gGo
   split
   ·split <;> exact jdp p r
   ·decide
theorem jdq (p:Int):∀ l:List Ax,gGo p 0 l=0->∀ a∈l,z9f a.N=true/\(z60 p (jzi a)).2=0
 | [], _, a, ha => by simp at ha
 | x :: r, h, a, ha => by
   unfold gGo at h
   split at h
   ·rename_i h1
    split at h
    ·rename_i h2
     rcases List.mem_cons.1 ha with rfl | ha
     ·exact ⟨h1,h2⟩
     ·exact jdq p r h a ha
    ·exact absurd h (jdp p r)
   ·simp at h
theorem jqn {p:Int} {l:List Ax} (h:jqm p l=0):jt3 p=true/\(allV (j9y l)).2=0/\∀ a∈l,(z4j a.N).2=0/\(z60 p (jzi a)).2=0:=by
 unfold jqm at h
 split at h
 ·rename_i hk
  split at h
  ·rename_i ha
   refine ⟨hk,ha,λ a hm=>?_⟩
   obtain ⟨h1,h2⟩:=jdq p l h a hm
   exact ⟨by unfold z9f at h1;exact beq_iff_eq.1 h1,h2⟩
  ·simp at h
 ·simp at h
theorem z59 {p n:Int} (h:z57 p n=0):jt3 p=true/\1<=n/\n<=8192:=by
 unfold z57 at h
 split at h
 ·split at h
  ·simp at h
  ·exact ⟨‹_›,by omega,by omega⟩
 ·simp at h
theorem z65 {p n:Int} (h:(z60 p n).2=0):jt3 p=true/\1<=n/\n<=8192/\(p-1) % n=0/\z60 p n=(z1g p (jdt p) ((p-1) / n).toNat,0):=by
 unfold z60 at h ⊢
 split at h
 ·rename_i hr
  obtain ⟨h1,h2,h3⟩:=z59 hr
  split at h
  ·simp at h
  ·rename_i h4
   have hn:=Int.emod_nonneg (p-1) (show n≠0 by omega)
   exact ⟨h1,h2,h3,by omega,by rw [if_pos hr,if_neg h4]⟩
 ·rename_i hr;exact absurd h hr
theorem z64 {p n:Int} (hk:jt3 p=true) (h1:1<=n) (h2:n<=8192) (h3:(p-1) % n=0):(z60 p n).2=0:=by
 have hr:z57 p n=0:=by unfold z57;rw [if_pos hk,if_neg (by omega)]
 unfold z60
 rw [if_pos hr,if_neg (by omega)]
theorem z63 {p n m:Int} (h:(z60 p n).2=0) (hm:1<=m) (hd:m ∣ n):(z60 p m).2=0:=by
 obtain ⟨hk,h1,h2,h3,_⟩:=z65 h
 have : m<=n:=Int.le_of_dvd (by omega) hd
 exact z64 hk hm (by omega) (Int.emod_eq_zero_of_dvd (Int.dvd_trans hd (Int.dvd_of_emod_eq_zero h3)))
def jel (p:Int):Int:=if p=P0 then 2635249152773512046 else if p=P1 then 332748118 else 64944062
theorem z1m {p x:Int} (hp:1 % p=1) (h:x % p=1):∀ e:Nat,x ^ e % p=1
 | 0 => by rw [Int.pow_zero]; exact hp
 | e + 1 => by rw [Int.pow_succ, Int.mul_emod, z1m hp h e, h, Int.one_mul]; exact hp
theorem je2 {p:Int} (hk:jt3 p=true) (e:Nat):z1g p (jdt p) e≠0:=by
 have h1:1 % p=1:=by rcases jt5 hk with rfl | rfl | rfl <;> decide
 have h2:jdt p*jel p % p=1:=by rcases jt5 hk with rfl | rfl | rfl <;> decide
 intro h
 unfold z1g at h
 rw [if_pos hk] at h
 have h3:=z1m h1 h2 e
 rw [Int.mul_pow,Int.mul_emod,h,Int.zero_mul,Int.zero_emod] at h3
 omega
theorem z5i {p:Int} (hk:jt3 p=true) (a:Int) (n:Nat):red p (z1g p a n)=z1g p a n:=by
 unfold red z1g;rw [if_pos hk,if_pos hk,Int.emod_emod_of_dvd _ (Int.dvd_refl p)]
def inU (x:Int):Prop:=0<=x/\x < 18446744073709551616
theorem jsf {p a:Int} (hk:jt3 p=true) (h:red p a≠0):(js7 p a).2=0/\inU (js7 p a).1:=by
 unfold js7;rw [if_pos hk,if_neg h]; exact ⟨rfl,z1i _ _ _⟩
theorem j5n {p n:Int} (h:(z60 p n).2=0):(j5l p n).2=0/\inU (j5l p n).1:=by
 obtain ⟨hk,h1,h2,h3,h4⟩:=z65 h
 unfold j5l
 rw [if_pos h]
 refine jsf hk ?_
 rw [h4]
 show red p (z1g p _ _)≠0
 rw [z5i hk]
 exact je2 hk _
theorem za5 (n:Int):∀ (rs:List Int) (a:Int),1<=a->(∀ r∈rs,1<=r)->n=a*rs.foldr (· * ·) 1->∀ s∈za4 n a rs,s.R∈rs/\1<=s.L/\1<=s.M/\n=s.L*(s.R*s.M)
 | [], _, _, _, _, s, h => by simp [za4] at h
 | r :: l, a, ha, hr, hn, s, h => by
   have hr0:=hr r List.mem_cons_self
   rw [List.foldr_cons] at hn
   have hpos:∀ l:List Int,(∀ r∈l,1<=r)->1<=l.foldr (· * ·) 1:=by
    intro l
    induction l with
    | nil=>intro _;simp
    | cons x l ih=>
      intro hx
      have h3:=ih (λ r hr=>hx r (List.mem_cons_of_mem _ hr))
      have h4:=hx x List.mem_cons_self
      rw [List.foldr_cons]
      have:=Int.mul_le_mul h4 h3 (by omega) (by omega)
      omega
   unfold za4 at h
   rcases List.mem_cons.1 h with rfl | h
   ·have e:n / a / r=l.foldr (· * ·) 1:=by
     rw [hn,Int.mul_ediv_cancel_left _ (by omega),Int.mul_ediv_cancel_left _ (by omega)]
    refine ⟨List.mem_cons_self,ha,?_,?_⟩
    ·show 1<=n / a / r;rw [e]; exact hpos l (λ r hr'=>hr r (List.mem_cons_of_mem _ hr'))
    ·show n=a*(r*(n / a / r)); rw [e]; exact hn
   ·obtain ⟨g1,g2⟩:=za5 n l (a*r) (by have:=Int.mul_le_mul ha hr0 (by omega) (by omega); omega) (λ r hr'=>hr r (List.mem_cons_of_mem _ hr')) (by rw [hn,Int.mul_assoc]) s h
    exact ⟨List.mem_cons_of_mem _ g1,g2⟩
theorem zak {n:Int} (h:(zah n).2=0) {s:Sg} (hs:s∈(zah n).1):2<=s.R/\s.R<=5/\1<=s.L/\1<=s.M/\n=s.L*(s.R*s.M)/\n<=4096:=by
 unfold zah at h hs
 by_cases c:(z4j n).2=0
 ·rw [if_pos c] at hs
  obtain ⟨h1,h2,h3,h4,h5⟩:=z4k c
  obtain ⟨g1,g2,g3,g4⟩:=za5 n (z4j n).1 1 (by omega) (λ r hr=>by have:=(h3 r hr).1;omega) (by rw [h4,Int.one_mul]) s hs
  exact ⟨(h3 _ g1).1,(h3 _ g1).2,g2,g3,g4,h2⟩
 ·rw [if_neg c] at hs;simp at hs
theorem z2w {n a b:Int} (ha:1<=a) (hb:1<=b) (h:n=a*b) (hn:n<=4096):b<=4096:=by
 have : 1*b<=a*b:=Int.mul_le_mul_of_nonneg_right ha (by omega)
 omega
theorem zai {n:Int} (h:(z4j n).2=0):(zah n).2=0/\(zah n).1.length<=4096:=by
 have key:∀ (l:List Int) (a:Int),(za4 n a l).length=l.length:=by
  intro l
  induction l with
  | nil=>intro a;rfl
  | cons r l ih=>intro a;simp [za4,ih]
 unfold zah
 rw [if_pos h]
 exact ⟨rfl,by rw [key]; exact (z4k h).2.2.2.2⟩
def j0o (l:List Ax) (s:Stp):Prop:=∃ k:Nat,∃ h:k < l.length,s.ax=(k:Int)/\(s.tw=true/\s.st=⟨0,0,0⟩\/s.tw=false/\s.st∈(zah l[k].N).1)
theorem j5k (l:List Ax) (k:Nat) (h:k < l.length):j5j l (k:Int)=l[k]:=by simp [j5j,h]
theorem zao (p:Int) (l:List Ax) (s:Stp) (hg:jqm p l=0) (h:j0o l s):zam p l s=0:=by
 obtain ⟨k,hk,h0,h1⟩:=h
 obtain ⟨_,_,hall⟩:=jqn hg
 have hs:=(zai (hall _ (List.getElem_mem hk)).1).1
 unfold zam
 rw [if_pos hg,h0,if_pos ⟨by omega,by omega⟩,j5k l k hk]
 rcases h1 with ⟨h1,h2⟩ | ⟨h1,h2⟩
 ·rw [if_pos h1,if_pos h2]
 ·rw [if_neg (by rw [h1]; simp),if_pos hs,if_pos h2]
theorem zan {p:Int} {l:List Ax} {s:Stp} (h:zam p l s=0):jqm p l=0/\j0o l s:=by
 unfold zam at h
 split at h
 ·rename_i hg
  refine ⟨hg,?_⟩
  obtain ⟨_,_,hall⟩:=jqn hg
  split at h
  ·rename_i hb
   obtain ⟨k,hk⟩:=Int.eq_ofNat_of_zero_le hb.1
   have hkl:k < l.length:=by omega
   have hs:=(zai (hall _ (List.getElem_mem hkl)).1).1
   rw [hk,j5k l k hkl,if_pos hs] at h
   refine ⟨k,hkl,hk,?_⟩
   split at h
   ·rename_i ht
    split at h
    ·exact .inl ⟨ht,‹_›⟩
    ·simp at h
   ·rename_i ht
    split at h
    ·exact .inr ⟨by simpa using ht,‹_›⟩
    ·simp at h
  ·simp at h
 ·rename_i hg;exact absurd h hg
def zck (p:Int) (l:List Ax) (inv:Bool) (s:Stp) (t:List Int):List Int:=if zam p l s=0 then t else []
theorem j5w {p:Int} {l:List Ax} {s:Stp} (hg:jqm p l=0) (hs:j0o l s) (inv:Bool):(j5v p (j5j l s.ax) inv s).2=0/\inU (j5v p (j5j l s.ax) inv s).1:=by
 obtain ⟨hk,_,hall⟩:=jqn hg
 obtain ⟨k,hkl,h0,h1⟩:=hs
 rw [h0,j5k l k hkl]
 obtain ⟨hr,ho⟩:=hall l[k] (List.getElem_mem hkl)
 obtain ⟨n1,n2,_⟩:=z4k hr
 unfold j5v
 have key:∀ o,(z60 p o).2=0->(if inv=true then j5l p o else z60 p o).2=0/\inU (if inv=true then j5l p o else z60 p o).1:=by
  intro o h
  cases inv with
  | true=>exact j5n h
  | false=>exact ⟨h,z61 p o⟩
 have wr:∀ n:Int,0<=n->n<=100000->IntKind.i64.wrap n=n:=λ n h1 h2=>by simp [IntKind.wrap,IntKind.bits,IntKind.signed]; omega
 dsimp only
 rcases h1 with ⟨h1,h2⟩ | ⟨h1,h3⟩
 ·cases ha:l[k].neg with
  | false=>rw [if_pos ⟨h1,rfl⟩]; exact ⟨rfl,by unfold inU;decide⟩
  | true=>
    rw [if_neg (by simp),if_pos h1]
    refine key _ ?_
    unfold jzi at ho
    rw [if_pos ha] at ho
    rw [Int.mul_comm]; exact ho
 ·rw [if_neg (show ¬ (s.tw=true/\l[k].neg=false) by rw [h1]; simp)]
  have e9:(if s.tw=true then IntKind.i64.wrap (2*l[k].N) else IntKind.i64.wrap (s.st.R*s.st.M))=IntKind.i64.wrap (s.st.R*s.st.M):=if_neg (by rw [h1]; simp)
  rw [e9]
  refine key _ ?_
  obtain ⟨g1,g2,g3,g4,g5,g6⟩:=zak (zai hr).1 h3
  have hp1:1<=s.st.R*s.st.M:=by have:=Int.mul_le_mul (show 1<=s.st.R by omega) g4 (by omega) (by omega); omega
  have hp2:=z2w g3 hp1 g5 g6
  rw [wr _ (by omega) (by omega)]
  have hN:(z60 p l[k].N).2=0:=by
   unfold jzi at ho
   by_cases ha:l[k].neg=true
   ·rw [if_pos ha,wr _ (by omega) (by omega)] at ho
    exact z63 ho n1 ⟨2,rfl⟩
   ·rw [if_neg ha] at ho;exact ho
  exact z63 hN hp1 ⟨s.st.L,by rw [Int.mul_comm]; exact g5⟩
def z6j (p w:Int) (R:Nat):Nat->List Int
 | 0 => []
 | m + 1 => z6j p w R m ++ z1q p (z1g p w m) R
theorem z1s (p a:Int) (m:Nat):(z1q p a m).length=m:=by simp [z1q]
theorem z6l (p w:Int) (R:Nat):∀ m,(z6j p w R m).length=m*R
 | 0 => by simp [z6j]
 | m + 1 => by rw [z6j, List.length_append, z6l p w R m, z1s, Nat.succ_mul]
theorem z1k {p:Int} (a:Int) (h:jt3 p=true):z1g p a 0=1:=by
 unfold z1g;rw [if_pos h,Int.pow_zero]
 rcases jt5 h with rfl | rfl | rfl <;> decide
def zcd (p:Int) (l:List Ax) (inv:Bool) (s:Stp):List Int:=
 if s.tw=true then (if inv=true then (z1q p (j5v p (j5j l s.ax) inv s).1 (j5j l s.ax).N.toNat).map λ x=>jxc p x (js7 p (j5j l s.ax).N).1 else z1q p (j5v p (j5j l s.ax) inv s).1 (j5j l s.ax).N.toNat)
 else z6j p (j5v p (j5j l s.ax) inv s).1 s.st.R.toNat s.st.M.toNat
theorem zcg {p:Int} {l:List Ax} (inv:Bool) {s:Stp} (hg:jqm p l=0) (hs:j0o l s):(zcd p l inv s).length<=4096:=by
 obtain ⟨hk,_,hall⟩:=jqn hg
 obtain ⟨k,hkl,h0,h1⟩:=hs
 obtain ⟨hr,ho⟩:=hall l[k] (List.getElem_mem hkl)
 obtain ⟨n1,n2,_⟩:=z4k hr
 unfold zcd
 rw [h0,j5k l k hkl]
 rcases h1 with ⟨h1,h2⟩ | ⟨h1,h3⟩
 ·rw [if_pos h1]
  split
  ·rw [List.length_map,z1s]; omega
  ·rw [z1s]; omega
 ·rw [if_neg (by rw [h1]; simp),z6l]
  obtain ⟨g1,g2,g3,g4,g5,g6⟩:=zak (zai hr).1 h3
  have hp1:1<=s.st.R*s.st.M:=by have:=Int.mul_le_mul (show 1<=s.st.R by omega) g4 (by omega) (by omega); omega
  have hp2:=z2w g3 hp1 g5 g6
  have e:((s.st.M.toNat*s.st.R.toNat:Nat):Int)=s.st.R*s.st.M:=by
   rw [Int.natCast_mul,Int.toNat_of_nonneg (by omega),Int.toNat_of_nonneg (by omega),Int.mul_comm]
  omega
theorem zax (inv:Bool) (l:List Ax) (hr:∀ a∈l,(z4j a.N).2=0):∀ (r:List Ax) (j:Nat),l.drop j=r->(∀ s∈zau inv j r,j0o l s)/\(zau inv j r).length<=r.length*4098
 | [], j, _ => by simp [zau]
 | a :: r, j, h => by
   have hj:j < l.length:=by
    rcases Nat.lt_or_ge j l.length with h' | h'
    ·exact h'
    ·rw [List.drop_eq_nil_of_le h'] at h;cases h
   rw [List.drop_eq_getElem_cons hj] at h
   injection h with h1 h2
   obtain ⟨i1,i2⟩:=zax inv l hr r (j+1) h2
   have hst:=(zai (hr _ (List.getElem_mem hj))).2
   rw [h1] at hst
   unfold zau
   refine ⟨λ s hs=>?_,?_⟩
   ·simp only [List.mem_append,List.mem_map] at hs
    rcases hs with ((hs | ⟨x,hx,rfl⟩) | hs) | hs
    ·split at hs
     ·rw [List.mem_singleton] at hs
      subst hs
      exact ⟨j,hj,rfl,.inl ⟨rfl,rfl⟩⟩
     ·cases hs
    ·exact ⟨j,hj,rfl,.inr ⟨rfl,by rw [h1]; exact hx⟩⟩
    ·split at hs
     ·rw [List.mem_singleton] at hs
      subst hs
      exact ⟨j,hj,rfl,.inl ⟨rfl,rfl⟩⟩
     ·cases hs
    ·exact i1 s hs
   ·simp only [List.length_append,List.length_map,List.length_cons]
    have e1:(if a.neg=true/\inv=false then [tw (j:Int)] else []).length<=1:=by split <;> simp
    have e2:(if inv=true then [tw (j:Int)] else []).length<=1:=by split <;> simp
    have e3:=i2
    have e4:((j:Int)+1)=((j+1:Nat):Int):=by omega
    rw [e4]
    omega
theorem j2k {l:List Int} (h:(allV l).2=0):1<=l.length/\l.length<=4/\allV l=j2e 1 l:=by
 unfold allV at h ⊢
 split at h
 ·simp at h
 ·rename_i hc;rw [if_neg hc]; exact ⟨by omega,by omega,rfl⟩
theorem jxs {p:Int} {l:List Ax} (hg:jqm p l=0):1<=nV l/\nV l<=4096:=by
 obtain ⟨hk,ha,_⟩:=jqn hg
 unfold nV
 have h2:=(j2k ha).2.2
 rw [h2] at ha ⊢
 have key:∀ (r:List Int) (n:Int),1<=n->n<=4096->(j2e n r).2=0->1<=(j2e n r).1/\(j2e n r).1<=4096:=by
  intro r
  induction r with
  | nil=>intro n h1 h2 _;exact ⟨h1,h2⟩
  | cons x r ih=>
    intro n h1 h2 h3
    unfold j2e at h3 ⊢
    split at h3
    ·simp at h3
    ·rename_i c1
     rw [if_neg c1]
     have : 1<=n*x:=by have:=Int.mul_le_mul h1 (show 1<=x by omega) (by omega) (by omega); omega
     exact ih _ this (by omega) h3
 exact key _ 1 (by omega) (by omega) ha
def jx7 (p:Int) (l:List Ax) (inv:Bool):Int->List Stp->Int
 | t, [] => t
 | t, s :: r => jx7 p l inv (if ((zcd p l inv s).length : Int) > t then ((zcd p l inv s).length : Int) else t) r
theorem jx8 {p:Int} {l:List Ax} (inv:Bool) (hg:jqm p l=0):∀ (r:List Stp) (t:Int),(∀ s∈r,j0o l s)->0<=t->t<=4096->0<=jx7 p l inv t r/\jx7 p l inv t r<=4096
 | [], t, _, h1, h2 => ⟨h1, h2⟩
 | s :: r, t, h, h1, h2 => by
   unfold jx7
   have:=zcg inv hg (h s (by simp))
   refine jx8 inv hg r _ (λ x hx=>h x (by simp [hx])) ?_ ?_ <;> split <;> omega
structure Pln where
 N:Int
 T:Int
 W:Int
 st:List Stp
def jwd (p:Int) (l:List Ax) (inv:Bool):Pln×Int:=
 if jqm p l=0 then (let t:=jx7 p l inv 0 (zau inv 0 l); ⟨nV l,t,2*(nV l+6)+t,zau inv 0 l⟩,0) else (⟨0,0,0,[]⟩,jqm p l)
def zbp:Int->List Int->Int
 | a, [] => a
 | a, x :: l => zbp (IntKind.i64.wrap (a + x)) l
def stV (n t:Int):Int×Int:=if n < 1\/4096 < n\/t < 0\/4096 < t then (0,1) else (6*n+12+2*t,0)
theorem zja (B:Int) (hB:0<=B):∀ (l:List Int) (a:Int),(∀ x∈l,0<=x/\x<=B)->0<=a->a+l.length*B<=4611686018427387904->zbp a l=a+l.sum
 | [], a, _, _, _ => by simp [zbp]
 | x :: l, a, h, h0, h1 => by
   have hx:=h x (by simp)
   have hB2:0<=(l.length:Int)*B:=Int.mul_nonneg (by omega) hB
   rw [List.length_cons,Int.natCast_add,Int.add_mul] at h1
   have e:IntKind.i64.wrap (a+x)=a+x:=by simp [IntKind.wrap,IntKind.bits,IntKind.signed]; omega
   rw [zbp,e,zja B hB l (a+x) (λ y hy=>h y (by simp [hy])) (by omega) (by omega),List.sum_cons]; omega
theorem zbr:∀ (B:Int) (r:List Int),(∀ x∈r,0<=x/\x<=B)->0<=r.sum/\r.sum<=r.length*B:=by
 intro B r
 induction r with
 | nil => intro _; simp
 | cons x r ih =>
   intro hx
   have h1:=ih (λ y hy=>hx y (List.mem_cons_of_mem _ hy))
   have h2:=hx x List.mem_cons_self
   rw [List.sum_cons,List.length_cons,Int.natCast_add,Int.add_mul]
   omega
theorem j81 {p:Int} {l:List Ax} (inv:Bool) (hg:jqm p l=0) {st:List Stp} (hs:∀ s∈st,j0o l s):∀ x∈(st.map λ s=>6*nV l+12+2*((zcd p l inv s).length:Int)),18<=x/\x<=100000:=by
 intro x hx
 obtain ⟨s,hs1,rfl⟩:=List.mem_map.1 hx
 have:=zcg inv hg (hs s hs1)
 have:=jxs hg
 omega
def j80 (p:Int) (l:List Ax) (inv:Bool) (st:List Stp):List Int:=st.map λ s=>6*nV l+12+2*((zcd p l inv s).length:Int)
def zdo (p:Int) (l:List Ax) (inv:Bool):Int×Int:=if jqm p l=0 then ((j80 p l inv (zau inv 0 l)).sum+(3*nV l+12),0) else (0,jqm p l)
structure Req where
 P:Int
 axes:List Ax
 inv:Bool
 batch:Int
 X:List Int
 seeds:List Int
 retry:Int
 again:Int
def inV (p:Int) (l:List Int):Bool:=l.all (λ a=>decide (a < p)) && jt3 p
def j7c (q:Req):Int:=
 if 1<=q.batch/\q.batch<=16/\0<=q.retry/\q.retry<=8/\0<=q.again/\q.again<=8 then
  (if jqm q.P q.axes=0 then (if (q.X.length:Int)=nV q.axes*q.batch then (if inV q.P q.X=true then (if 1<=q.seeds.length/\q.seeds.length<=4 then 0 else 8) else 7) else 6) else jqm q.P q.axes)
 else 1
theorem j7d {q:Req} (h:j7c q=0):(1<=q.batch/\q.batch<=16/\0<=q.retry/\q.retry<=8/\0<=q.again/\q.again<=8)/\jqm q.P q.axes=0/\(q.X.length:Int)=nV q.axes*q.batch/\inV q.P q.X=true/\1<=q.seeds.length/\q.seeds.length<=4:=by
 unfold j7c at h
 split at h
 ·rename_i h1
  split at h
  ·rename_i h2
   split at h
   ·rename_i h3
    split at h
    ·rename_i h4
     split at h
     ·rename_i h5;exact ⟨h1,h2,h3,h4,h5⟩
     ·simp at h
    ·simp at h
   ·simp at h
  ·rename_i h2;exact absurd h h2
 ·simp at h
def zje (q:Req):Int:=(j80 q.P q.axes q.inv (zau q.inv 0 q.axes)).sum+3*(zau q.inv 0 q.axes).length+(2*nV q.axes+9)
def zj3 (q:Req):Int×Int:=if j7c q=0 then (q.batch*(q.again+1)*(nV q.axes+6+(q.retry+1)*zje q),0) else (0,j7c q)
theorem zb4 {l:List Ax} (hall:∀ a∈l,(z4j a.N).2=0) (inv:Bool):(∀ s∈zau inv 0 l,j0o l s)/\(zau inv 0 l).length<=l.length*4098:=zax inv l hall l 0 rfl
theorem j83 {q:Req} (hg:jqm q.P q.axes=0):0<=(j80 q.P q.axes q.inv (zau q.inv 0 q.axes)).sum/\(j80 q.P q.axes q.inv (zau q.inv 0 q.axes)).sum<=1639200000 /\
 (zau q.inv 0 q.axes).length<=16392/\(zdo q.P q.axes q.inv)=((j80 q.P q.axes q.inv (zau q.inv 0 q.axes)).sum+(3*nV q.axes+12),0):=by
 obtain ⟨hk,hal,hall⟩:=jqn hg
 obtain ⟨hst,hsl⟩:=zb4 (λ a ha=>(hall a ha).1) q.inv
 have h4:q.axes.length<=4:=by have:=(j2k hal).2.1;simpa [j9y] using this
 have hcr:=j81 q.inv hg hst
 have hsr:=zbr 100000 (j80 q.P q.axes q.inv (zau q.inv 0 q.axes)) (λ x hx=>by have:=hcr x hx;omega)
 have hlen:(j80 q.P q.axes q.inv (zau q.inv 0 q.axes)).length=(zau q.inv 0 q.axes).length:=by simp [j80]
 exact ⟨hsr.1,by omega,by omega,by unfold zdo;rw [if_pos hg]⟩
def jbz (l:List Ax) (m:Int):Bool:=decide (l.length<=10) && (decide ((allV (j9y l)).2≠0) || decide ((allV (j9y l)).1<=m))
def jbx (q:Req) (m:Int):Bool:=jbz q.axes m && decide ((q.X.length:Int)<=4*m) && decide (q.seeds.length<=10)
def z4t:Int->List Int->Int×Int
 | n, [] => if 4096 < n then (0, 3) else (n, 0)
 | n, d :: r => if d < 1 \/ 4096 < d then (0, 3) else z4t (n * d) r
theorem z4v:∀ (l:List Int) (n:Int),4096 < n->z4t n l=(0,3)
 | [], n, h => by unfold z4t; rw [if_pos h]
 | d :: r, n, h => by
   unfold z4t
   split
   ·rfl
   ·rename_i hd
    have : n*1<=n*d:=Int.mul_le_mul_of_nonneg_left (by omega) (by omega)
    exact z4v r _ (by omega)
theorem z4u:∀ (l:List Int) (n:Int),n<=4096->z4t n l=j2e n l
 | [], n, h => by unfold z4t j2e; rw [if_neg (by omega)]
 | d :: r, n, h => by
   unfold z4t j2e
   by_cases c1:d < 1\/4096 < d
   ·rw [if_pos c1,if_pos (by omega)]
   ·rw [if_neg c1]
    by_cases c:4096 < n*d
    ·rw [if_pos (by omega)]; exact z4v r _ c
    ·rw [if_neg (by omega)]; exact z4u r _ (by omega)
def eAx (a:Ax):List Value:=[.int .i64 a.N,.bool a.neg]
def eSg (s:Sg):List Value:=[.int .i64 s.R,.int .i64 s.L,.int .i64 s.M]
def jaj (s:Stp):List Value:=[.int .i64 s.ax,.bool s.tw,.int .i64 s.st.R,.int .i64 s.st.L,.int .i64 s.st.M]
theorem Ar.getAx {S:St} {p:Option Addr} {n:Nat} {l:List Ax} (h:Ar S p n 2 eAx l) {i:Nat} (hi:i < l.length) :
 ∃ a,p=some a/\S.cell (a.add (i*2))=some (.int .i64 l[i].N)/\S.cell ((a.add (i*2)).add 1)=some (.bool l[i].neg):=by
 obtain ⟨a,h1,h2⟩:=h.2 i hi
 exact ⟨a,h1,by have:=h2 0 _ rfl;rwa [j25] at this,h2 1 _ rfl⟩
theorem Ar.getSg {S:St} {p:Option Addr} {n:Nat} {l:List Sg} (h:Ar S p n 3 eSg l) {i:Nat} (hi:i < l.length) :
 ∃ a,p=some a/\S.cell (a.add (i*3))=some (.int .i64 l[i].R)/\S.cell ((a.add (i*3)).add 1)=some (.int .i64 l[i].L)/\S.cell ((a.add (i*3)).add 2)=some (.int .i64 l[i].M):=by
 obtain ⟨a,h1,h2⟩:=h.2 i hi
 exact ⟨a,h1,by have:=h2 0 _ rfl;rwa [j25] at this,h2 1 _ rfl,h2 2 _ rfl⟩
theorem Ar.getStp {S:St} {p:Option Addr} {n:Nat} {l:List Stp} (h:Ar S p n 5 jaj l) {i:Nat} (hi:i < l.length) :
 ∃ a,p=some a/\S.cell (a.add (i*5))=some (.int .i64 l[i].ax)/\S.cell ((a.add (i*5)).add 1)=some (.bool l[i].tw)/\S.cell ((a.add (i*5)).add 2)=some (.int .i64 l[i].st.R) /\
  S.cell ((a.add (i*5)).add 3)=some (.int .i64 l[i].st.L)/\S.cell ((a.add (i*5)).add 4)=some (.int .i64 l[i].st.M):=by
 obtain ⟨a,h1,h2⟩:=h.2 i hi
 exact ⟨a,h1,by have:=h2 0 _ rfl;rwa [j25] at this,h2 1 _ rfl,h2 2 _ rfl,h2 3 _ rfl,h2 4 _ rfl⟩
abbrev qv (q:Req) (a1:Option Addr) (c1:Nat) (a4:Option Addr) (c4:Nat) (a5:Option Addr) (c5:Nat):Value:=
 vA [vU q.P,.slice a1 q.axes.length c1,vB q.inv,vI q.batch,.slice a4 q.X.length c4,.slice a5 q.seeds.length c5,vI q.retry,vI q.again]
abbrev qc (q:Req) (a1:Option Addr) (c1:Nat) (a4:Option Addr) (c4:Nat) (a5:Option Addr) (c5:Nat):List Value:=
 [vU q.P,.slice a1 q.axes.length c1,vB q.inv,vI q.batch,.slice a4 q.X.length c4,.slice a5 q.seeds.length c5,vI q.retry,vI q.again]
structure QA (S:St) (q:Req) (a1 a4 a5:Option Addr):Prop where
 ax:Ar S a1 q.axes.length 2 eAx q.axes
 x:Ar S a4 q.X.length 1 eU q.X
 sd:Ar S a5 q.seeds.length 1 eU q.seeds
 b1:q.axes.length<=8796093022208
 b2:q.X.length<=140737488355328
 b3:q.seeds.length<=140737488355328
theorem QA.mono {S S':St} {q:Req} {a1 a4 a5:Option Addr} (h:QA S q a1 a4 a5) (hs:S <+: S'):QA S' q a1 a4 a5:=⟨h.ax.mono hs,h.x.mono hs,h.sd.mono hs,h.b1,h.b2,h.b3⟩
variable {α β ρ:Type}
theorem Ar.spot {S:St} {p:Option Addr} {n w:Nat} {e:α->List Value} {l:List α} (h:Ar S p n w e l) (hw:∀ x,(e x).length=w) (h0:0 < w) (hl:l≠[]):∃ b o,p=some ⟨b,o,none⟩:=by
 have hl':0 < l.length:=List.length_pos_iff.2 hl
 obtain ⟨a,h1,h2⟩:=h.2 0 hl'
 have h3:=h2 0 ((e l[0])[0]'(by rw [hw]; exact h0)) (List.getElem?_eq_getElem _)
 rw [j25,Nat.zero_mul,j25] at h3
 refine ⟨a.block,a.off,?_⟩
 rw [h1]
 obtain ⟨b,o,s⟩:=a
 cases s with
 | none => rfl
 | some s =>
   unfold St.cell at h3
   split at h3
   ·simp at h3
   ·simp at h3
   ·cases h3
theorem j8e {S:St} {p:Option Addr} {n c w:Nat} {e:α->List Value} {l:List α} {rest:Bool} (h:Ar S p n w e l) (hw:∀ x,(e x).length=w) (hw0:0 < w) {lo hi:Int} (h0:0<=lo) (h1:lo<=hi) (h2:hi<=n) (h3:n<=c) {Q:Sl->St->Prop}
 (q:∀ (a:Option Addr) (k:Nat),hi.toNat-lo.toNat<=k->Ar S a (hi.toNat-lo.toNat) w e ((l.drop lo.toNat).take (hi.toNat-lo.toNat))->Q ⟨a,hi.toNat-lo.toNat,k⟩ S) :
 WP (j8c true rest w p c lo hi (c:Int)) S Q:=by
 unfold j8c
 rw [zga,wp_ret]
 refine ⟨⟨rfl,h0,h1,by omega,by omega⟩,?_⟩
 have hn:=h.1
 by_cases e0:hi.toNat-lo.toNat=0
 ·have q0:∀ (a:Option Addr) (k:Nat),Q ⟨a,0,k⟩ S:=λ a k=>by
   have:=q a k (by omega)
   rw [e0] at this
   exact this (by simp only [List.take_zero]; exact .nil)
  cases hc:decide (lo=(c:Int)) && rest
  ·simp only [hc,cond_false]; rw [e0]; exact q0 _ _
  ·simp only [hc,cond_true]; exact q0 _ _
 ·have hc:decide (lo=(c:Int))=false:=by simp;omega
  rw [hc]
  simp only [Bool.false_and,cond_false,Int.toNat_natCast]
  have hlen:0 < l.length:=by omega
  obtain ⟨b,o,rfl⟩:=h.spot hw hw0 (List.length_pos_iff.1 hlen)
  refine q _ _ (by omega) ⟨by rw [List.length_take,List.length_drop]; omega,λ i hi'=>?_⟩
  rw [List.length_take,List.length_drop] at hi'
  obtain ⟨a,g1,g2⟩:=h.2 (lo.toNat+i) (by omega)
  cases g1
  refine ⟨_,rfl,λ j v hv=>?_⟩
  rw [List.getElem_take,List.getElem_drop] at hv
  have:=g2 j v hv
  simp only [j23] at this ⊢
  rw [<- this]
  congr 2
  rw [Nat.add_mul]; omega
theorem zgl {S:St} {p:Option Addr} {n w:Nat} {e:α->List Value} {l:List α} (h:Ar S p n w e l) (hw:∀ x,(e x).length=w) {Q:List Value->St->Prop} (q:Q (l.flatMap e) S):WP (rdN p (n*w)) S Q:=by
 have hn:=h.1
 have hfl:=jcv hw l
 by_cases h0:n*w=0
 ·refine ⟨[],S,by unfold rdN;rw [if_pos h0],?_⟩
  have : l.flatMap e=[]:=List.eq_nil_of_length_eq_zero (by rw [hfl,<- hn]; exact h0)
  rw [this] at q;exact q
 ·have hw0:0 < w:=by
   rcases Nat.eq_zero_or_pos w with h | h
   ·subst h;simp at h0
   ·exact h
  have hn0:0 < n:=by
   rcases Nat.eq_zero_or_pos n with h | h
   ·subst h;simp at h0
   ·exact h
  obtain ⟨b,o,rfl⟩:=h.spot hw hw0 (List.length_pos_iff.1 (by omega))
  have hcell:∀ i,i < n*w->S.cell ⟨b,o+i,none⟩=(l.flatMap e)[i]?:=by
   intro i hi
   have hq:i / w < l.length:=by rw [<- hn]; exact Nat.div_lt_of_lt_mul (by rwa [Nat.mul_comm])
   have hr:i % w < w:=Nat.mod_lt _ hw0
   obtain ⟨a,g1,g2⟩:=h.2 (i / w) hq
   cases g1
   have g3:=g2 (i % w) ((e l[i / w])[i % w]'(by rw [hw]; exact hr)) (List.getElem?_eq_getElem _)
   simp only [j23] at g3
   have e1:o+i / w*w+i % w=o+i:=by have:=Nat.div_add_mod i w;rw [Nat.mul_comm] at this;omega
   rw [e1] at g3
   rw [g3]
   have key:∀ (l:List α) (k j:Nat) (hk:k < l.length) (hj:j < w),(l.flatMap e)[k*w+j]? = some ((e l[k])[j]'(by rw [hw]; exact hj)):=by
    intro l
    induction l with
    | nil=>intro k j hk;simp at hk
    | cons x l ih=>
      intro k j hk hj
      rw [List.flatMap_cons]
      cases k with
      | zero=>rw [Nat.zero_mul,Nat.zero_add,List.getElem?_append_left (by rw [hw]; exact hj)]; exact List.getElem?_eq_getElem _
      | succ k=>
        rw [Nat.succ_mul,List.getElem?_append_right (by rw [hw]; omega),hw,show k*w+w+j-w=k*w+j by omega]
        exact ih k j (by simpa using hk) hj
   have:=key l (i / w) (i % w) hq hr
   rw [show i / w*w+i % w=i by have:=Nat.div_add_mod i w;rw [Nat.mul_comm] at this;omega] at this
   exact this.symm
  have hlast:=hcell (n*w-1) (by omega)
  have hsome:∃ v,S.cell ⟨b,o+(n*w-1),none⟩=some v:=by
   rw [hlast]; exact ⟨_,List.getElem?_eq_getElem (by rw [hfl,<- hn]; omega)⟩
  have fin:∀ c:List Value,(∀ i,S.cell ⟨b,i,none⟩=c[i]?)->o+n*w<=c.length/\(c.drop o).take (n*w)=l.flatMap e:=by
   intro c hc
   obtain ⟨v,hv⟩:=hsome
   rw [hc] at hv
   have hlt:o+(n*w-1) < c.length:=by
    rcases Nat.lt_or_ge (o+(n*w-1)) c.length with h | h
    ·exact h
    ·rw [List.getElem?_eq_none h] at hv;cases hv
   refine ⟨by omega,?_⟩
   apply List.ext_getElem?
   intro i
   rw [List.getElem?_take]
   split
   ·rename_i hi;rw [List.getElem?_drop,<- hc,hcell i hi]
   ·rename_i hi;rw [List.getElem?_eq_none (by rw [hfl,<- hn]; omega)]
  obtain ⟨v,hv⟩:=hsome
  cases hb:S[b]? with
  | none=>unfold St.cell at hv;rw [hb] at hv;cases hv
  | some ob=>
    cases ob with
    | cells c e' g=>
      obtain ⟨f1,f2⟩:=fin c (λ i=>j6u hb i)
      exact ⟨l.flatMap e,S,by unfold rdN;rw [if_neg h0]; dsimp only;rw [hb]; dsimp only;rw [if_pos ⟨rfl,f1⟩,f2],q⟩
    | ro c e' g=>
      obtain ⟨f1,f2⟩:=fin c (λ i=>by simp [St.cell,hb])
      exact ⟨l.flatMap e,S,by unfold rdN;rw [if_neg h0]; dsimp only;rw [hb]; dsimp only;rw [if_pos ⟨rfl,f1⟩,f2],q⟩
    | _=>unfold St.cell at hv;rw [hb] at hv;cases hv
end Go.AM
namespace Go.AM
open Go
section
variable {α:Type} (key:α->Int)
def j5f (t:Int) (l:List α):List α:=l.filter λ x=>decide (key x=t)
structure j18 (l r:List α):Prop where
 ord:r.Pairwise λ a b=>key a<=key b
 same:∀ t,j5f key t r=j5f key t l
variable {key}
theorem j5g (t:Int) (l r:List α):j5f key t (l++r)=j5f key t l++j5f key t r:=List.filter_append ..
theorem jwn {t:Int} {l:List α} {x:α}:x∈j5f key t l↔x∈l/\key x=t:=by unfold j5f;rw [List.mem_filter]; simp
theorem jwt {l r:List α} (h:∀ t,j5f key t r=j5f key t l) (x:α):x∈r↔x∈l:=by
 have h1:x∈j5f key (key x) r↔x∈j5f key (key x) l:=by rw [h]
 rw [jwn,jwn] at h1
 simpa using h1
theorem j5h {t:Int} {l:List α} (h:∀ x∈l,key x≠t):j5f key t l=[]:=by
 unfold j5f
 rw [List.filter_eq_nil_iff]
 intro x hx;simpa using h x hx
theorem j5i (t:Int) {u v:List α} (h:∀ x∈u,∀ y∈v,key x≠key y):j5f key t u++j5f key t v=j5f key t v++j5f key t u:=by
 by_cases hu:∃ x∈u,key x=t
 ·obtain ⟨x,hx,rfl⟩:=hu
  have : j5f key (key x) v=[]:=j5h λ y hy e=>h x hx y hy e.symm
  rw [this]; simp
 ·have : j5f key t u=[]:=j5h λ x hx e=>hu ⟨x,hx,e⟩
  rw [this]; simp
theorem j18.mem {l r:List α} (h:j18 key l r) (x:α):x∈r↔x∈l:=jwt h.same x
theorem jv3:∀ {l r:List α},(∀ t,j5f key t r=j5f key t l)->r.length=l.length
 | [], r, h => by
   cases r with
   | nil=>rfl
   | cons x r=>exact absurd ((jwt h x).1 (by simp)) (by simp)
 | x :: l, r, h => by
   have hx:x∈r:=(jwt h x).2 (by simp)
   obtain ⟨p,s,hp,hnot⟩:∃ p s,r=p++x :: s/\j5f key (key x) p=[]:=by
    have h1:j5f key (key x) r=x :: j5f key (key x) l:=by rw [h]; unfold j5f;simp
    have h2:=List.filter_eq_cons_iff.1 h1
    obtain ⟨p,s,e,hn,_,_⟩:=h2
    exact ⟨p,s,e,by unfold j5f;rw [List.filter_eq_nil_iff]; exact hn⟩
   subst hp
   have:=jv3 (l:=l) (r:=p++s) (λ t=>by
    have h1:=h t
    rw [j5g] at h1 ⊢
    unfold j5f at h1 hnot ⊢
    rw [List.filter_cons,List.filter_cons] at h1
    by_cases ht:key x=t
    ·subst ht
     rw [hnot] at h1 ⊢
     simpa using h1
    ·simpa [ht] using h1)
   simp at this ⊢; omega
theorem zae:∀ {r r':List α},(r.Pairwise λ a b=>key a<=key b)->(r'.Pairwise λ a b=>key a<=key b)->(∀ t,j5f key t r=j5f key t r')->r=r'
 | [], r', _, _, h => by
   have:=jv3 (l:=[]) (r:=r') λ t=>(h t).symm
   exact (List.length_eq_zero_iff.1 this).symm
 | x :: r, [], _, _, h => by
   have:=jv3 h
   simp at this
 | x :: r, y :: r', h1, h2, h => by
   obtain ⟨a1,a2⟩:=List.pairwise_cons.1 h1
   obtain ⟨b1,b2⟩:=List.pairwise_cons.1 h2
   have hxy:key x=key y:=by
    have m1:x∈y :: r':=(jwt h x).1 (by simp)
    have m2:y∈x :: r:=(jwt h y).2 (by simp)
    rcases List.mem_cons.1 m1 with e | e
    ·rw [e]
    rcases List.mem_cons.1 m2 with e' | e'
    ·rw [e']
    have:=a1 y e'
    have:=b1 x e
    omega
   have hx:x=y:=by
    have:=h (key x)
    unfold j5f at this
    rw [List.filter_cons,List.filter_cons] at this
    simp [hxy] at this
    exact this.1
   subst hx
   rw [zae a2 b2 λ t=>by
    have:=h t
    unfold j5f at this ⊢
    rw [List.filter_cons,List.filter_cons] at this
    by_cases ht:key x=t
    ·simpa [ht] using this
    ·simpa [ht] using this]
theorem j18.unique {l r r':List α} (h:j18 key l r) (h':j18 key l r'):r=r':=zae h.ord h'.ord λ t=>by rw [h.same,h'.same]
theorem j18.len {l r:List α} (h:j18 key l r):r.length=l.length:=jv3 h.same
theorem j18.self {l:List α} (h:l.Pairwise λ a b=>key a<=key b):j18 key l l:=⟨h,λ _=>rfl⟩
theorem j18.join {u1 u2 v1 v2 r1 r2:List α} (h1:j18 key (u1++v1) r1) (h2:j18 key (u2++v2) r2)
 (hu:(u1++u2).Pairwise λ a b=>key a<=key b) (hv:(v1++v2).Pairwise λ a b=>key a<=key b)
 (h12:∀ x∈u1,∀ y∈v2,key x<=key y) (h21:∀ y∈v1,∀ x∈u2,key y < key x):j18 key ((u1++u2)++(v1++v2)) (r1++r2):=by
 refine ⟨List.pairwise_append.2 ⟨h1.ord,h2.ord,λ a ha b hb=>?_⟩,λ t=>?_⟩
 ·have ha:=List.mem_append.1 ((h1.mem a).1 ha)
  have hb:=List.mem_append.1 ((h2.mem b).1 hb)
  rcases ha with ha | ha <;> rcases hb with hb | hb
  ·exact (List.pairwise_append.1 hu).2.2 a ha b hb
  ·exact h12 a ha b hb
  ·exact Int.le_of_lt (h21 a ha b hb)
  ·exact (List.pairwise_append.1 hv).2.2 a ha b hb
 ·rw [j5g,h1.same,h2.same]
  simp only [j5g,List.append_assoc]
  congr 1
  have : j5f key t v1++j5f key t u2=j5f key t u2++j5f key t v1:=j5i t λ x hx y hy=>by have:=h21 x hx y hy;omega
  rw [<- List.append_assoc,<- List.append_assoc,this]
end
theorem z9x {α:Type} (key:α->Int) (u v:List α) (a m b mid st lo hi:Nat) (hm:m=a+u.length) (hb:b=m+v.length) (hmid:mid=(a+b) / 2) (h2:1 < u.length) (h3:1 < v.length)
 (hlo:lo=if mid < m then mid+m-b else a) (hhi:hi=if mid < m then mid else m) (h4:lo<=st) (h5:st<=hi)
 (hu:u.Pairwise λ a b=>key a<=key b) (hv:v.Pairwise λ a b=>key a<=key b)
 (q1:∀ c (h:c-a < u.length) (h':mid+m-1-c-m < v.length),lo<=c->c < st->key u[c-a]<=key v[mid+m-1-c-m])
 (q2:∀ c (h:c-a < u.length) (h':mid+m-1-c-m < v.length),st<=c->c < hi->key v[mid+m-1-c-m] < key u[c-a]) :
 ∃ u1 u2 v1 v2,u=u1++u2/\v=v1++v2/\u1.length=st-a/\v1.length=mid+m-st-m/\a<=st/\st<=m/\m<=mid+m-st/\mid+m-st<=b/\(∀ x∈u1,∀ y∈v2,key x<=key y)/\(∀ y∈v1,∀ x∈u2,key y < key x):=by
 have hr:a<=lo/\hi<=m/\m<=mid+m-st/\mid+m-st<=b:=by
  by_cases h:mid < m
  ·rw [if_pos h] at hlo hhi;omega
  ·rw [if_neg h] at hlo hhi;omega
 refine ⟨u.take (st-a),u.drop (st-a),v.take (mid+m-st-m),v.drop (mid+m-st-m),(List.take_append_drop _ _).symm,(List.take_append_drop _ _).symm,by simp;omega,by simp;omega,by omega,by omega,hr.2.2.1,hr.2.2.2,?_,?_⟩
 ·intro x hx y hy
  obtain ⟨i,hi',rfl⟩:=List.mem_iff_getElem.1 hx
  obtain ⟨j,hj',rfl⟩:=List.mem_iff_getElem.1 hy
  simp only [List.length_take,List.length_drop] at hi' hj'
  rw [List.getElem_take,List.getElem_drop]
  have hst:lo < st:=by
   rcases Nat.lt_or_ge lo st with h | h
   ·exact h
   ·exfalso
    have : st=lo:=by omega
    rw [hlo] at this
    split at this <;> omega
  have h:=q1 (st-1) (by omega) (by omega) (by omega) (by omega)
  have e1:key u[i]<=key u[st-1-a]:=by
   rcases Nat.lt_or_ge i (st-1-a) with h | h
   ·exact List.pairwise_iff_getElem.1 hu _ _ (by omega) (by omega) h
   ·have : i=st-1-a:=by omega
    subst this;exact Int.le_refl _
  have e2:key v[mid+m-1-(st-1)-m]<=key v[mid+m-st-m+j]:=by
   rcases Nat.lt_or_ge (mid+m-1-(st-1)-m) (mid+m-st-m+j) with h | h
   ·exact List.pairwise_iff_getElem.1 hv _ _ (by omega) (by omega) h
   ·have : mid+m-1-(st-1)-m=mid+m-st-m+j:=by omega
    simp only [this]; exact Int.le_refl _
  omega
 ·intro y hy x hx
  obtain ⟨i,hi',rfl⟩:=List.mem_iff_getElem.1 hx
  obtain ⟨j,hj',rfl⟩:=List.mem_iff_getElem.1 hy
  simp only [List.length_take,List.length_drop] at hi' hj'
  rw [List.getElem_take,List.getElem_drop]
  have hst:st < hi:=by
   rcases Nat.lt_or_ge st hi with h | h
   ·exact h
   ·exfalso
    have : st=hi:=by omega
    rw [hhi] at this
    split at this <;> omega
  have h:=q2 st (by omega) (by omega) (by omega) (by omega)
  have e1:key u[st-a]<=key u[st-a+i]:=by
   rcases Nat.lt_or_ge 0 i with h | h
   ·exact List.pairwise_iff_getElem.1 hu _ _ (by omega) (by omega) (by omega)
   ·have : i=0:=by omega
    subst this;exact Int.le_refl _
  have e2:key v[j]<=key v[mid+m-1-st-m]:=by
   rcases Nat.lt_or_ge j (mid+m-1-st-m) with h | h
   ·exact List.pairwise_iff_getElem.1 hv _ _ (by omega) (by omega) h
   ·have : j=mid+m-1-st-m:=by omega
    subst this;exact Int.le_refl _
  omega
theorem zcr {α:Type} {l:List α} {j:Nat} (h:j < l.length):l.take (j+1)=l.take j++[l[j]]:=by
 rw [List.take_add_one,List.getElem?_eq_getElem h]; rfl
section
variable {α:Type} {key:α->Int}
theorem j18.ins {l r1 r2:List α} {x:α} (h:j18 key l (r1++r2)) (h1:∀ y∈r1,key y<=key x) (h2:∀ y∈r2,key x < key y):j18 key (l++[x]) (r1++x :: r2):=by
 obtain ⟨o1,o2,o3⟩:=List.pairwise_append.1 h.ord
 refine ⟨List.pairwise_append.2 ⟨o1,List.pairwise_cons.2 ⟨λ y hy=>Int.le_of_lt (h2 y hy),o2⟩,λ a ha b hb=>?_⟩,λ t=>?_⟩
 ·rcases List.mem_cons.1 hb with rfl | hb
  ·exact h1 a ha
  ·exact o3 a ha b hb
 ·have hs:=h.same t
  rw [j5g] at hs
  rw [j5g,j5g,<- hs]
  unfold j5f
  rw [List.filter_cons]
  by_cases hx:key x=t
  ·have : r2.filter (λ y=>decide (key y=t))=[]:=by
    rw [List.filter_eq_nil_iff]
    intro y hy;have:=h2 y hy;simp;omega
   simp [this,hx]
  ·simp [hx]
theorem j18.front {v1 v2:List α} {x:α} (h:(v1++v2).Pairwise λ a b=>key a<=key b) (h1:∀ y∈v1,key y < key x) (h2:∀ y∈v2,key x<=key y):j18 key ([x]++(v1++v2)) (v1++x :: v2):=by
 obtain ⟨o1,o2,o3⟩:=List.pairwise_append.1 h
 refine ⟨List.pairwise_append.2 ⟨o1,List.pairwise_cons.2 ⟨h2,o2⟩,λ a ha b hb=>?_⟩,λ t=>?_⟩
 ·rcases List.mem_cons.1 hb with rfl | hb
  ·exact Int.le_of_lt (h1 a ha)
  ·exact o3 a ha b hb
 ·rw [j5g,j5g,j5g]
  unfold j5f
  have e1:∀ f:α->Bool,[x].filter f=if f x then [x] else []:=λ f=>by rw [List.filter_cons]; rfl
  have e2:∀ f:α->Bool,(x :: v2).filter f=if f x then x :: v2.filter f else v2.filter f:=λ f=>by rw [List.filter_cons]
  rw [e1,e2]
  by_cases hx:key x=t
  ·have : v1.filter (λ y=>decide (key y=t))=[]:=by
    rw [List.filter_eq_nil_iff]
    intro y hy;have:=h1 y hy;simp;omega
   simp [this,hx]
  ·simp [hx]
def Chk (key:α->Int) (b:Nat) (l:List α):Prop:=∀ k,((l.drop (k*b)).take b).Pairwise λ x y=>key x<=key y
theorem Chk.snoc {b q:Nat} {d w:List α} (h:Chk key b d) (hd:d.length=q*b) (hw:w.Pairwise λ x y=>key x<=key y) (hl:w.length<=b):Chk key b (d++w):=by
 intro k
 rcases Nat.lt_trichotomy k q with hk | hk | hk
 ·have h1:k*b+b<=q*b:=by rw [<- Nat.succ_mul]; exact Nat.mul_le_mul_right b hk
  rw [List.drop_append_of_le_length (by omega),List.take_append_of_le_length (by rw [List.length_drop]; omega)]
  exact h k
 ·subst hk
  rw [List.drop_append_of_le_length (by omega),List.drop_of_length_le (by omega),List.nil_append,List.take_of_length_le hl]
  exact hw
 ·have h1:q*b+b<=k*b:=by rw [<- Nat.succ_mul]; exact Nat.mul_le_mul_right b hk
  rw [List.drop_of_length_le (by rw [List.length_append]; omega)]
  simp
theorem Chk.nil {b:Nat}:Chk key b ([]:List α):=λ k=>by simp
theorem Chk.all {b:Nat} {l:List α} (h:Chk key b l) (hl:l.length<=b):l.Pairwise λ x y=>key x<=key y:=by
 have:=h 0
 rwa [Nat.zero_mul,List.drop_zero,List.take_of_length_le hl] at this
end
variable {α:Type}
structure Ob (e:α->List Value) (S:St) (b:Nat) (t:TypeId) (g:Option Nat) (l:List α) (S':St):Prop where
 len:S.length<=S'.length
 keep:∀ i,i < S.length->i≠b->S'[i]? = S[i]?
 at_:S'[b]? = some (.cells (l.flatMap e) t g)
theorem jct {e:α->List Value} {w:Nat} (hw:∀ x,(e x).length=w):∀ (l:List α) (i j:Nat) (hi:i < l.length) (v:Value),(e l[i])[j]? = some v->(l.flatMap e)[i*w+j]? = some v
 | [], i, j, hi, v, h => by simp at hi
 | x :: l, 0, j, hi, v, h => by
   have hj:j < (e x).length:=by
    rcases Nat.lt_or_ge j (e x).length with h' | h'
    ·exact h'
    ·simp at h;rw [List.getElem?_eq_none h'] at h;cases h
   rw [List.flatMap_cons,Nat.zero_mul,Nat.zero_add,List.getElem?_append_left hj]; exact h
 | x :: l, i + 1, j, hi, v, h => by
   rw [List.flatMap_cons,List.getElem?_append_right (by rw [hw,Nat.succ_mul]; omega),hw,show (i+1)*w+j-w=i*w+j by rw [Nat.succ_mul]; omega]
   exact jct hw l i j (by simpa using hi) v (by simpa using h)
theorem jcx {e:α->List Value} {w:Nat} (hw:∀ x,(e x).length=w):∀ (l:List α) (i:Nat) (x:α),i < l.length->splice (l.flatMap e) (i*w) (e x)=(l.set i x).flatMap e
 | [], i, x, h => by simp at h
 | y :: l, 0, x, h => by
   rw [List.set_cons_zero,List.flatMap_cons,List.flatMap_cons,Nat.zero_mul]
   unfold splice
   have : (e x).length=(e y).length:=by rw [hw,hw]
   simp [this]
 | y :: l, i + 1, x, h => by
   have ih:=jcx hw l i x (by simpa using h)
   rw [List.set_cons_succ,List.flatMap_cons,List.flatMap_cons,<- ih]
   unfold splice
   rw [show (i+1)*w=(e y).length+i*w by rw [hw,Nat.succ_mul]; omega,List.take_length_add_append,Nat.add_assoc,List.drop_length_add_append]
   simp
section
variable {e:α->List Value} {S S1 S2:St} {b:Nat} {t:TypeId} {g:Option Nat} {l l':List α}
theorem Ob.refl (h:S[b]? = some (.cells (l.flatMap e) t g)):Ob e S b t g l S:=⟨Nat.le_refl _,λ _ _ _=>rfl,h⟩
theorem Ob.put {w:Nat} (h:Ob e S b t g l S1) (hw:∀ x,(e x).length=w) {i:Nat} (hi:i < l.length) (x:α):Ob e S b t g (l.set i x) (S1.set b (.cells (splice (l.flatMap e) (i*w) (e x)) t g)):=
 ⟨by rw [List.length_set]; exact h.len,λ j hj hne=>by rw [List.getElem?_set_ne (λ e=>hne e.symm),h.keep j hj hne],by rw [List.getElem?_set_self (z1y h.at_),jcx hw l i x hi]⟩
theorem Ob.ar {w:Nat} (h:Ob e S b t g l S1) (hw:∀ x,(e x).length=w):Ar S1 (some ⟨b,0,none⟩) l.length w e l:=Ar.blk h.at_ (λ x _=>hw x) rfl
end
theorem Ob.u {S S1:St} {b:Nat} {t:TypeId} {g:Option Nat} {l:List Int} (h:Ob eU S b t g l S1) {i:Nat} (hi:i < l.length):S1.cell ⟨b,i,none⟩=some (.int .u64 l[i]):=by
 rw [j6u h.at_]
 have:=jct (e:=eU) (w:=1) (λ _=>rfl) l i 0 hi _ rfl
 simpa using this
theorem jak (l:List Int):(l.flatMap eU).all juu=true:=by
 induction l with
 | nil => rfl
 | cons x l ih => rw [List.flatMap_cons, List.all_append, ih]; rfl
end Go.AM
namespace Go.AM
open Go
structure Kp (M:List Nat) (S S':St):Prop where
 len:S.length<=S'.length
 keep:∀ i,i < S.length->i∉M->S'[i]? = S[i]?
section
variable {M:List Nat} {S S1 S2:St}
theorem Kp.refl:Kp M S S:=⟨Nat.le_refl _,λ _ _ _=>rfl⟩
theorem Kp.of (h:S <+: S1):Kp M S S1:=⟨h.length_le,λ i hi _=>z1u h hi⟩
theorem Kp.trans (h:Kp M S S1) (k:Kp M S1 S2):Kp M S S2:=⟨Nat.le_trans h.len k.len,λ i hi hn=>by rw [k.keep i (Nat.lt_of_lt_of_le hi h.len) hn,h.keep i hi hn]⟩
theorem Kp.more (h:Kp M S S1) (k:S1 <+: S2):Kp M S S2:=h.trans (.of k)
theorem Kp.pre (h:S <+: S1) (k:Kp M S1 S2):Kp M S S2:=(Kp.of h).trans k
theorem Kp.get (h:Kp M S S1) {i:Nat} {o:j00} (hi:S[i]? = some o) (hn:i∉M):S1[i]? = some o:=by
 rw [h.keep i (z1y hi) hn]; exact hi
theorem Kp.mono {N:List Nat} (h:Kp M S S1) (hs:∀ i∈M,i∈N):Kp N S S1:=⟨h.len,λ i hi hn=>h.keep i hi λ hm=>hn (hs i hm)⟩
theorem Kp.ar {β:Type} {f:β->List Value} {m:List β} {p:Option Addr} {n v:Nat} (h:Kp M S S1) (k:Ar S p n v f m) (hne:m≠[]->∀ x,p=some x->x.block∉M):Ar S1 p n v f m:=by
 refine ⟨k.1,λ i hi=>?_⟩
 obtain ⟨x,h1,h2⟩:=k.2 i hi
 refine ⟨x,h1,λ j u hu=>?_⟩
 have h3:=h2 j u hu
 have hblk:((x.add (i*v)).add j).block=x.block:=by
  unfold Addr.add;split <;> split <;> rfl
 unfold St.cell at h3 ⊢
 rw [hblk] at h3 ⊢
 rw [h.keep x.block ?_ (hne (by rintro rfl;simp at hi) x h1)]; exact h3
 rcases Nat.lt_or_ge x.block S.length with h' | h'
 ·exact h'
 ·rw [List.getElem?_eq_none h'] at h3;cases h3
theorem Ar.low {β:Type} {f:β->List Value} {m:List β} {p:Option Addr} {n v:Nat} (k:Ar S p n v f m) (hf:∀ x,∃ v,(f x)[0]? = some v) (hm:m≠[]) (x:Addr) (hx:p=some x):x.block < S.length:=by
 have hl:0 < m.length:=List.length_pos_iff.2 hm
 obtain ⟨y,h1,h2⟩:=k.2 0 hl
 rw [hx] at h1
 injection h1 with h1
 subst h1
 obtain ⟨u,hu⟩:=hf m[0]
 have h3:=h2 0 u hu
 have hblk:((x.add (0*v)).add 0).block=x.block:=by
  unfold Addr.add;split <;> split <;> rfl
 unfold St.cell at h3
 rw [hblk] at h3
 rcases Nat.lt_or_ge x.block S.length with h' | h'
 ·exact h'
 ·rw [List.getElem?_eq_none h'] at h3;cases h3
theorem Kp.low {L:Nat} (h:Kp M S S1) (hl:∀ i∈M,L<=i) {T:St} (hT:T <+: S) (hL:T.length<=L):T <+: S1:=by
 rw [List.prefix_iff_getElem?]
 intro i hi
 have h1:i < S.length:=Nat.lt_of_lt_of_le hi hT.length_le
 rw [h.keep i h1 λ hm=>by have:=hl i hm;omega]
 rw [z1u hT hi,List.getElem?_eq_getElem hi]
end
variable {z l:List Value} {S S':St} {r n:Nat} {f:List Value->Int}
end Go.AM
namespace Go.AM
def HP (f:Nat->Int) (n:Nat):Prop:=∀ i,0 < i->i < n->f ((i-1) / 2)<=f i
def HUp (f:Nat->Int) (n j:Nat):Prop:=(∀ i,0 < i->i < n->i≠j->f ((i-1) / 2)<=f i)/\∀ i,0 < i->i < n->(i-1) / 2=j->0 < j->f ((j-1) / 2)<=f i
def HDn (f:Nat->Int) (n i:Nat):Prop:=(∀ k,0 < k->k < n->(k-1) / 2≠i->f ((k-1) / 2)<=f k)/\∀ k,0 < k->k < n->(k-1) / 2=i->0 < i->f ((i-1) / 2)<=f k
def swp (f:Nat->Int) (i j:Nat):Nat->Int:=λ k=>if k=i then f j else if k=j then f i else f k
theorem HP.root {f:Nat->Int} {n:Nat} (h:HP f n):∀ i,i < n->f 0<=f i:=by
 intro i
 induction i using Nat.strongRecOn with
 | _ i ih =>
   intro hi
   rcases Nat.eq_zero_or_pos i with h0 | h0
   ·subst h0;exact Int.le_refl _
   ·exact Int.le_trans (ih ((i-1) / 2) (by omega) (by omega)) (h i h0 hi)
theorem HUp.stop {f:Nat->Int} {n j:Nat} (h:HUp f n j) (hs:j=0\/f ((j-1) / 2)<=f j):HP f n:=by
 intro i h0 hi
 by_cases e:i=j
 ·subst e
  rcases hs with hs | hs
  ·omega
  ·exact hs
 ·exact h.1 i h0 hi e
theorem HUp.step {f:Nat->Int} {n j:Nat} (h:HUp f n j) (h0:0 < j) (hj:j < n) (hs:f j<=f ((j-1) / 2)):HUp (swp f ((j-1) / 2) j) n ((j-1) / 2):=by
 obtain ⟨h1,h2⟩:=h
 have hp:(j-1) / 2≠j:=by omega
 constructor
 ·intro i i0 hi hne
  unfold swp
  by_cases e:i=j
  ·subst e
   rw [if_pos rfl,if_neg (Ne.symm hp),if_pos rfl]; exact hs
  ·rw [if_neg hne,if_neg e]
   by_cases e2:(i-1) / 2=(j-1) / 2
   ·rw [if_pos e2]
    have:=h1 i i0 hi e
    rw [e2] at this
    omega
   ·rw [if_neg e2]
    by_cases e3:(i-1) / 2=j
    ·rw [if_pos e3]; exact h2 i i0 hi e3 h0
    ·rw [if_neg e3]; exact h1 i i0 hi e
 ·intro i i0 hi he hp0
  unfold swp
  rw [if_neg (by omega),if_neg (by omega)]
  have k1:=h1 ((j-1) / 2) hp0 (by omega) hp
  by_cases e:i=j
  ·subst e
   rw [if_neg (Ne.symm hp),if_pos rfl]; exact k1
  ·rw [if_neg (by omega),if_neg e]
   have k2:=h1 i i0 hi e
   rw [he] at k2
   omega
theorem HP.push {f g:Nat->Int} {n:Nat} (h:HP f n) (hg:∀ i,i < n->g i=f i):HUp g (n+1) n:=by
 constructor
 ·intro i i0 hi hne
  rw [hg i (by omega),hg _ (by omega)]
  exact h i i0 (by omega)
 ·intro i i0 hi he h0
  omega
theorem HDn.stop {f:Nat->Int} {n i:Nat} (h:HDn f n i) (hs:∀ k,0 < k->k < n->(k-1) / 2=i->f i<=f k):HP f n:=by
 intro k h0 hk
 by_cases e:(k-1) / 2=i
 ·have:=hs k h0 hk e;rw [e]; exact this
 ·exact h.1 k h0 hk e
theorem HDn.step {f:Nat->Int} {n i j:Nat} (h:HDn f n i) (h0:0 < j) (hj:j < n) (he:(j-1) / 2=i) (hs:f j<=f i) (hm:∀ k,0 < k->k < n->(k-1) / 2=i->f j<=f k):HDn (swp f i j) n j:=by
 obtain ⟨h1,h2⟩:=h
 have hij:i≠j:=by omega
 constructor
 ·intro k k0 hk hne
  unfold swp
  by_cases e1:k=i
  ·subst e1
   rw [if_pos rfl,if_neg (by omega),if_neg hne]
   exact h2 j h0 hj he k0
  ·rw [if_neg e1]
   by_cases e2:k=j
   ·subst e2
    rw [if_pos rfl,if_pos he]; exact hs
   ·rw [if_neg e2]
    by_cases e3:(k-1) / 2=i
    ·rw [if_pos e3]; exact hm k k0 hk e3
    ·rw [if_neg e3,if_neg hne]; exact h1 k k0 hk e3
 ·intro k k0 hk hkj hj0
  unfold swp
  rw [if_pos he,if_neg (by omega),if_neg (by omega)]
  have:=h1 k k0 hk (by omega)
  rw [hkj] at this;exact this
theorem HP.pop {f:Nat->Int} {n:Nat} (h:HP f (n+1)):HDn (swp f 0 n) n 0:=by
 constructor
 ·intro k k0 hk hne
  unfold swp
  rw [if_neg hne,if_neg (by omega),if_neg (by omega),if_neg (by omega)]
  exact h k k0 (by omega)
 ·intro k k0 hk he h0
  omega
variable {α:Type}
def fT (t:α->Int) (l:List α):Nat->Int:=λ i=>if h:i < l.length then t l[i] else 0
theorem jbs {t:α->Int} {l:List α} {i:Nat} (h:i < l.length):fT t l i=t l[i]:=by unfold fT;rw [dif_pos h]
def zc1 (l:List α) (i j:Nat) (hi:i < l.length) (hj:j < l.length):List α:=(l.set i l[j]).set j l[i]
theorem zc3 {l:List α} {i j:Nat} (hi:i < l.length) (hj:j < l.length):(zc1 l i j hi hj).length=l.length:=by simp [zc1]
theorem zc4 {l:List α} {i j:Nat} (hi:i < l.length) (hj:j < l.length):(zc1 l i j hi hj).Perm l:=List.set_set_perm hi hj
theorem jbt {t:α->Int} {l:List α} {i j:Nat} (hi:i < l.length) (hj:j < l.length):fT t (zc1 l i j hi hj)=swp (fT t l) i j:=by
 funext k
 unfold swp
 by_cases hk:k < l.length
 ·rw [jbs (by rw [zc3]; exact hk)]
  unfold zc1
  rw [List.getElem_set]
  by_cases e:j=k
  ·subst e
   rw [if_pos rfl]
   by_cases e2:j=i
   ·subst e2;rw [if_pos rfl,jbs hj]
   ·rw [if_neg e2,if_pos rfl,jbs hi]
  ·rw [if_neg e,List.getElem_set]
   by_cases e2:i=k
   ·subst e2;rw [if_pos rfl,if_pos rfl,jbs hj]
   ·rw [if_neg e2,if_neg (Ne.symm e2),if_neg (Ne.symm e),jbs hk]
 ·have h1:fT t (zc1 l i j hi hj) k=0:=by unfold fT;rw [dif_neg (by rw [zc3]; exact hk)]
  have h2:fT t l k=0:=by unfold fT;rw [dif_neg hk]
  rw [h1,if_neg (by omega),if_neg (by omega),h2]
theorem jbr {t:α->Int} {l m:List α}:∀ i,i < l.length->fT t (l++m) i=fT t l i:=λ i hi=>by
 rw [jbs hi,jbs (by rw [List.length_append]; omega),List.getElem_append_left hi]
theorem HP.first {t:α->Int} {l:List α} (h:HP (fT t l) l.length) (h0:0 < l.length):∀ x∈l,t l[0]<=t x:=λ x hx=>by
 obtain ⟨i,hi,rfl⟩:=List.mem_iff_getElem.1 hx
 have:=h.root i hi
 rwa [jbs h0,jbs hi] at this
theorem due_split (t:α->Int) (T:Int):∀ l:List α,(l.filter (λ x=>decide (t x<=T))++l.filter (λ x=>!decide (t x<=T))).Perm l
 | [] => .nil
 | x :: l => by
   have ih:=due_split t T l
   by_cases h:t x<=T
   ·rw [List.filter_cons,List.filter_cons,if_pos (by simp [h]),if_neg (by simp [h])]
    exact .cons x ih
   ·rw [List.filter_cons,List.filter_cons,if_neg (by simp [h]),if_pos (by simp [h])]
    exact List.perm_middle.trans (.cons x ih)
theorem jaf {t:α->Int} {T:Int} {l out rest:List α} (h:(out++rest).Perm l) (ho:∀ x∈out,t x<=T) (hr:∀ x∈rest,T < t x) :
 out.Perm (l.filter λ x=>decide (t x<=T))/\rest.Perm (l.filter λ x=>!decide (t x<=T)):=by
 have h1:=h.filter (λ x=>decide (t x<=T))
 have h2:=h.filter (λ x=>!decide (t x<=T))
 rw [List.filter_append] at h1 h2
 rw [List.filter_eq_self.2 (λ x hx=>by simpa using ho x hx),List.filter_eq_nil_iff.2 (λ x hx=>by have:=hr x hx;simp;omega),List.append_nil] at h1
 rw [List.filter_eq_nil_iff.2 (λ x hx=>by have:=ho x hx;simp;omega),List.filter_eq_self.2 (λ x hx=>by have:=hr x hx;simp;omega),List.nil_append] at h2
 exact ⟨h1,h2⟩
end Go.AM
namespace Go.AM
open Go
theorem z1h {p:Int} (hk:jt3 p=true) (n:Nat):z1g p 1 n=1:=by
 unfold z1g;rw [if_pos hk,Int.one_pow]
 rcases jt5 hk with rfl | rfl | rfl <;> decide
theorem js8 {p a:Int} (hk:jt3 p=true) (h:red p a≠0):(js7 p a).1=z1g p a (p-2).toNat:=by
 unfold js7;rw [if_pos hk,if_neg h]
theorem j5m {p o:Int} (h:(z60 p o).2=0):(j5l p o).1=z1g p (z60 p o).1 (p-2).toNat:=by
 obtain ⟨hk,h1,h2,h3,h4⟩:=z65 h
 unfold j5l
 rw [if_pos h]
 refine js8 hk ?_
 rw [h4]
 show red p (z1g p _ _)≠0
 rw [z5i hk]; exact je2 hk _
end Go.AM
namespace Go.AM
variable {α β:Type}
theorem ze8 (A B:Nat):((List.range A).flatMap λ c=>(List.range B).map λ t=>c+A*t).Perm (List.range (A*B)):=by
 rw [List.perm_ext_iff_of_nodup ?_ List.nodup_range]
 ·intro x
  simp only [List.mem_flatMap,List.mem_map,List.mem_range]
  constructor
  ·rintro ⟨c,hc,t,ht,rfl⟩
   have : A*(t+1)<=A*B:=Nat.mul_le_mul_left _ ht
   rw [Nat.mul_succ] at this;omega
  ·intro hx
   have hA:0 < A:=by rcases Nat.eq_zero_or_pos A with h | h;(subst h;simp at hx); exact h
   exact ⟨x % A,Nat.mod_lt _ hA,x / A,Nat.div_lt_of_lt_mul hx,by rw [Nat.add_comm]; exact Nat.div_add_mod x A⟩
 ·unfold List.Nodup
  rw [List.pairwise_flatMap]
  refine ⟨λ c hc=>?_,?_⟩
  ·rw [List.pairwise_map]
   rw [List.mem_range] at hc
   refine List.nodup_range.imp ?_
   intro a b hab h
   have : A*a=A*b:=by omega
   exact hab (Nat.eq_of_mul_eq_mul_left (by omega) this)
  ·refine (List.Pairwise.imp_of_mem (R:=λ a b=>a≠b) ?_ List.nodup_range)
   intro a b ha hb hab x hx y hy
   rw [List.mem_range] at ha hb
   obtain ⟨s,hs,rfl⟩:=List.mem_map.1 hx
   obtain ⟨t,ht,rfl⟩:=List.mem_map.1 hy
   intro h
   have h1:(a+A*s) % A=(b+A*t) % A:=by rw [h]
   rw [Nat.add_mul_mod_self_left,Nat.add_mul_mod_self_left,Nat.mod_eq_of_lt ha,Nat.mod_eq_of_lt hb] at h1
   exact hab h1
theorem z6m (A:Nat):∀ B:Nat,((List.range B).flatMap λ a=>(List.range A).map λ b=>b+A*a)=List.range (A*B)
 | 0 => by simp
 | B + 1 => by
   rw [List.range_succ,List.flatMap_append,z6m A B,Nat.mul_succ]
   simp only [List.flatMap_cons,List.flatMap_nil,List.append_nil]
   rw [List.range_add]
   congr 1
   apply List.map_congr_left;intro b _;omega
structure GrN where
 i:List Nat
 f:List Nat
 o:List Nat
def jvb (inner d k i:Nat):Nat:=k / inner*d*inner+k % inner+i*inner
def stN (inner d n R L M:Nat):List GrN:=
 (List.range (n / d)).flatMap λ k=>(List.range M).flatMap λ a=>(List.range L).map λ b=>
   ⟨(List.range R).map λ t=>jvb inner d k (b+L*a+L*M*t),(List.range R).map λ t=>a*R+t,(List.range R).map λ t=>jvb inner d k (b+L*R*a+L*t)⟩
theorem jcq {l:List α} {f g:α->List β} (h:∀ x∈l,(f x).Perm (g x)):(l.flatMap f).Perm (l.flatMap g):=by
 induction l with
 | nil => exact .nil
 | cons x l ih =>
   rw [List.flatMap_cons,List.flatMap_cons]
   exact (h x (by simp)).append (ih λ y hy=>h y (by simp [hy]))
theorem jcr {l:List α} {f g:α->List β} (h:∀ x∈l,f x=g x):l.flatMap f=l.flatMap g:=by
 induction l with
 | nil => rfl
 | cons x l ih =>
   rw [List.flatMap_cons,List.flatMap_cons,h x (by simp),ih λ y hy=>h y (by simp [hy])]
theorem jve {inner d n m:Nat} (hn:n=m*(d*inner)) (hi:0 < inner) (hd:0 < d):((List.range (n / d)).flatMap λ k=>(List.range d).map λ i=>jvb inner d k i).Perm (List.range n):=by
 have e1:n / d=inner*m:=by rw [hn,<- Nat.mul_assoc,Nat.mul_right_comm,Nat.mul_div_cancel _ hd,Nat.mul_comm]
 have e3:n=(inner*d)*m:=by rw [hn,Nat.mul_comm d,Nat.mul_comm]
 rw [e1,<- z6m inner m,List.flatMap_assoc,e3,<- z6m (inner*d) m]
 refine jcq λ h _=>?_
 rw [List.flatMap_map]
 have e2:((List.range inner).flatMap λ lo=>(List.range d).map λ i=>jvb inner d (lo+inner*h) i)=((List.range inner).flatMap λ c=>(List.range d).map λ t=>c+inner*t).map (· + (inner*d)*h):=by
  rw [List.map_flatMap]
  refine jcr λ lo hlo=>?_
  rw [List.map_map]
  refine List.map_congr_left λ i _=>?_
  rw [List.mem_range] at hlo
  unfold jvb
  have h1:(lo+inner*h) / inner=h:=by rw [Nat.add_mul_div_left _ _ hi,Nat.div_eq_of_lt hlo,Nat.zero_add]
  have h2:(lo+inner*h) % inner=lo:=by rw [Nat.add_mul_mod_self_left,Nat.mod_eq_of_lt hlo]
  rw [h1,h2]
  show h*d*inner+lo+i*inner=lo+inner*i+inner*d*h
  rw [Nat.mul_comm i,Nat.mul_comm h d,Nat.mul_assoc,Nat.mul_comm h inner,<- Nat.mul_assoc,Nat.mul_comm d inner]
  omega
 rw [e2]
 exact (ze8 inner d).map _
theorem zad {inner d n m R L M:Nat} (hn:n=m*(d*inner)) (hi:0 < inner) (hd:d=L*(R*M)) (h0:0 < d):((stN inner d n R L M).flatMap GrN.o).Perm (List.range n):=by
 refine .trans ?_ (jve hn hi h0)
 unfold stN
 rw [List.flatMap_assoc]
 refine jcq λ k _=>?_
 rw [List.flatMap_assoc]
 have e:∀ a,((List.range L).map λ b=>(⟨(List.range R).map λ t=>jvb inner d k (b+L*a+L*M*t),(List.range R).map λ t=>a*R+t,(List.range R).map λ t=>jvb inner d k (b+L*R*a+L*t)⟩:GrN)).flatMap GrN.o=(((List.range L).flatMap λ c=>(List.range R).map λ t=>c+L*t).map (· + L*R*a)).map (jvb inner d k):=by
  intro a
  rw [List.flatMap_map,List.map_map,List.map_flatMap]
  refine jcr λ b _=>?_
  rw [List.map_map]
  refine List.map_congr_left λ t _=>?_
  show jvb inner d k _=jvb inner d k (b+L*t+L*R*a)
  congr 1;omega
 simp only [e]
 have hd':d=(L*R)*M:=by rw [hd,Nat.mul_assoc]
 rw [hd',<- z6m (L*R) M,List.map_flatMap]
 refine jcq λ a _=>?_
 rw [<- hd',List.map_map (g:=jvb inner d k) (f:=λ b=>b+L*R*a),<- List.map_map]
 exact ((ze8 L R).map _).map _
theorem zaa {inner d n m R L M:Nat} (hn:n=m*(d*inner)) (hi:0 < inner) (hd:d=L*(R*M)) (h0:0 < d):((stN inner d n R L M).flatMap GrN.i).Perm (List.range n):=by
 refine .trans ?_ (jve hn hi h0)
 unfold stN
 rw [List.flatMap_assoc]
 refine jcq λ k _=>?_
 have e:(((List.range M).flatMap λ a=>(List.range L).map λ b=>(⟨(List.range R).map λ t=>jvb inner d k (b+L*a+L*M*t),(List.range R).map λ t=>a*R+t,(List.range R).map λ t=>jvb inner d k (b+L*R*a+L*t)⟩:GrN)).flatMap GrN.i)=((List.range (L*M)).flatMap λ c=>(List.range R).map λ t=>c+(L*M)*t).map (jvb inner d k):=by
  rw [<- z6m L M,List.flatMap_assoc,List.flatMap_assoc,List.map_flatMap]
  refine jcr λ a _=>?_
  rw [List.flatMap_map,List.flatMap_map,List.map_flatMap]
  refine jcr λ b _=>?_
  rw [List.map_map]
  exact List.map_congr_left λ t _=>rfl
 rw [e]
 have hd':d=(L*M)*R:=by rw [hd,Nat.mul_assoc,Nat.mul_comm R]
 rw [hd']
 have:=(ze8 (L*M) R).map (jvb inner d k)
 rw [<- hd'] at this ⊢
 exact this
theorem zab {inner d n R L M:Nat} {g:GrN} (h:g∈stN inner d n R L M):g.i.length=R/\g.f.length=R/\g.o.length=R:=by
 unfold stN at h
 simp only [List.mem_flatMap,List.mem_map] at h
 obtain ⟨k,-,a,-,b,-,rfl⟩:=h
 simp
theorem za9 {inner d n R L M:Nat} {g:GrN} (h:g∈stN inner d n R L M):∀ x∈g.f,x < M*R:=by
 unfold stN at h
 simp only [List.mem_flatMap,List.mem_map,List.mem_range] at h
 obtain ⟨k,-,a,ha,b,-,rfl⟩:=h
 intro x hx
 simp only [List.mem_map,List.mem_range] at hx
 obtain ⟨t,ht,rfl⟩:=hx
 have : (a+1)*R<=M*R:=Nat.mul_le_mul_right _ ha
 rw [Nat.succ_mul] at this;omega
def sqP (p a:Int):Nat->Nat->Int
 | 0, _ => 1
 | k + 1, n => if n % 2 = 1 then sqP p a k (n / 2) * sqP p a k (n / 2) % p * a % p else sqP p a k (n / 2) * sqP p a k (n / 2) % p
theorem za1 {p a:Int} (hk:jt3 p=true):∀ (k n:Nat),n < 2 ^ k->sqP p a k n=z1g p a n
 | 0, n, h => by
   have : n=0:=by simpa using h
   subst this;rw [z1k a hk]; rfl
 | k + 1, n, h => by
   have ih:=za1 (a:=a) hk k (n / 2) (by rw [Nat.pow_succ] at h;omega)
   have e0:z1g p a (n / 2)*z1g p a (n / 2) % p=z1g p a (n / 2+n / 2):=by
    have:=jxf p a (n / 2) (n / 2)
    unfold jxc at this;rw [if_pos hk] at this;exact this
   have e1:∀ m,z1g p a m*a % p=z1g p a (m+1):=λ m=>by
    have:=jxg p a m
    unfold jxc at this;rw [if_pos hk] at this;exact this
   unfold sqP
   rw [ih,e0,e1]
   split
   ·congr 1;omega
   ·congr 1;omega
theorem z1j {p a v:Int} {n:Nat} (hk:jt3 p=true) (h:n < 2 ^ 64) (hv:sqP p a 64 n=v):z1g p a n=v:=by rw [<- za1 hk 64 n h,hv]
theorem je1 {p:Int} (hk:jt3 p=true):z1g p (jdt p) (p-1).toNat=1:=by
 rcases jt5 hk with rfl | rfl | rfl <;> exact z1j (by decide) (by decide +kernel) (by decide +kernel)
theorem jdz {p:Int} (hk:jt3 p=true):z1g p (jdt p) ((p-1) / 2).toNat=p-1:=by
 rcases jt5 hk with rfl | rfl | rfl <;> exact z1j (by decide) (by decide +kernel) (by decide +kernel)
theorem je3 {p:Int} (hk:jt3 p=true) (h3:(p-1) % 3=0):(1+z1g p (jdt p) ((p-1) / 3).toNat+z1g p (jdt p) (2*((p-1) / 3).toNat)) % p=0:=by
 rcases jt5 hk with rfl | rfl | rfl
 ·rw [z1j (v:=18446744065119617025) (by decide) (by decide +kernel) (by decide +kernel),z1j (v:=4294967295) (by decide) (by decide +kernel) (by decide +kernel)]; decide
 ·exact absurd h3 (by decide)
 ·rw [z1j (v:=sqP P2 (jdt P2) 64 ((P2-1) / 3).toNat) (by decide) (by decide +kernel) rfl,z1j (v:=sqP P2 (jdt P2) 64 (2*((P2-1) / 3).toNat)) (by decide) (by decide +kernel) rfl]; decide +kernel
theorem j1u {p:Int} (hk:jt3 p=true) (a b:Int):j1t p a b=(a+b) % p:=by unfold j1t;rw [if_pos hk]
theorem zbh {p:Int} (hk:jt3 p=true) (a b:Int):zbg p a b=(a-b) % p:=by unfold zbg;rw [if_pos hk]
theorem jxe {p:Int} (hk:jt3 p=true) (a b:Int):jxc p a b=a*b % p:=by unfold jxc;rw [if_pos hk]
def Eqm (p a b:Int):Prop:=p ∣ a-b
theorem Eqm.refl {p a:Int}:Eqm p a a:=⟨0,by omega⟩
theorem Eqm.symm {p a b:Int} (h:Eqm p a b):Eqm p b a:=by obtain ⟨c,hc⟩:=h;exact ⟨-c,by rw [Int.mul_neg]; omega⟩
theorem Eqm.trans {p a b c:Int} (h:Eqm p a b) (k:Eqm p b c):Eqm p a c:=by
 obtain ⟨x,hx⟩:=h;obtain ⟨y,hy⟩:=k;exact ⟨x+y,by rw [Int.mul_add]; omega⟩
theorem Eqm.add {p a b c d:Int} (h:Eqm p a b) (k:Eqm p c d):Eqm p (a+c) (b+d):=by
 obtain ⟨x,hx⟩:=h;obtain ⟨y,hy⟩:=k;exact ⟨x+y,by rw [Int.mul_add]; omega⟩
theorem Eqm.sub {p a b c d:Int} (h:Eqm p a b) (k:Eqm p c d):Eqm p (a-c) (b-d):=by
 obtain ⟨x,hx⟩:=h;obtain ⟨y,hy⟩:=k;exact ⟨x-y,by rw [Int.mul_sub]; omega⟩
theorem Eqm.mul {p a b c d:Int} (h:Eqm p a b) (k:Eqm p c d):Eqm p (a*c) (b*d):=by
 obtain ⟨x,hx⟩:=h;obtain ⟨y,hy⟩:=k
 exact ⟨x*c+b*y,by grind⟩
theorem Eqm.pow {p a b:Int} (h:Eqm p a b):∀ n:Nat,Eqm p (a ^ n) (b ^ n)
 | 0 => by rw [Int.pow_zero, Int.pow_zero]; exact .refl
 | n + 1 => by rw [Int.pow_succ, Int.pow_succ]; exact (Eqm.pow h n).mul h
theorem Eqm.mod {p a:Int}:Eqm p (a % p) a:=⟨-(a / p),by have:=Int.emod_add_mul_ediv a p;rw [Int.mul_neg]; omega⟩
theorem Eqm.eq {p a b:Int} (h:Eqm p a b):a % p=b % p:=Int.emod_eq_emod_iff_emod_sub_eq_zero.2 (Int.emod_eq_zero_of_dvd h)
theorem Eqm.of {p a b:Int} (h:a % p=b % p):Eqm p a b:=Int.dvd_of_emod_eq_zero (Int.emod_eq_emod_iff_emod_sub_eq_zero.1 h)
theorem jb8 {p:Int} (hk:jt3 p=true) (a b:Int):Eqm p (j1t p a b) (a+b):=by rw [j1u hk]; exact .mod
theorem jbb {p:Int} (hk:jt3 p=true) (a b:Int):Eqm p (zbg p a b) (a-b):=by rw [zbh hk]; exact .mod
theorem jb9 {p:Int} (hk:jt3 p=true) (a b:Int):Eqm p (jxc p a b) (a*b):=by rw [jxe hk]; exact .mod
theorem jba {p:Int} (hk:jt3 p=true) (a:Int) (n:Nat):Eqm p (z1g p a n) (a ^ n):=by unfold z1g;rw [if_pos hk]; exact .mod
def inP (p a:Int):Prop:=0<=a/\a < p
theorem jrp {p:Int} (hk:jt3 p=true) (a:Int):inP p (a % p):=by
 have:=jt7 hk
 exact ⟨Int.emod_nonneg _ (by omega),Int.emod_lt_of_pos _ (by omega)⟩
theorem jrn {p:Int} (hk:jt3 p=true) (a b:Int):inP p (j1t p a b):=by rw [j1u hk]; exact jrp hk _
theorem jrt {p:Int} (hk:jt3 p=true) (a b:Int):inP p (zbg p a b):=by rw [zbh hk]; exact jrp hk _
theorem jrq {p:Int} (hk:jt3 p=true) (a b:Int):inP p (jxc p a b):=by rw [jxe hk]; exact jrp hk _
theorem jrs {p:Int} (hk:jt3 p=true) (a:Int):inP p (red p a):=by unfold red;rw [if_pos hk]; exact jrp hk _
theorem jrr {p:Int} (hk:jt3 p=true) (a:Int) (n:Nat):inP p (z1g p a n):=by unfold z1g;rw [if_pos hk]; exact jrp hk _
theorem jro {p a b:Int} (ha:inP p a) (hb:inP p b) (h:Eqm p a b):a=b:=by
 have:=h.eq
 rwa [Int.emod_eq_of_lt ha.1 ha.2,Int.emod_eq_of_lt hb.1 hb.2] at this
def zbm (p:Int) (l:List Int):Int:=l.foldl (j1t p) 0
theorem jdb {p:Int} (hk:jt3 p=true):∀ (l:List Int) (a b:Int),Eqm p a b->Eqm p (l.foldl (j1t p) a) (b+l.sum)
 | [], a, b, h => by simpa using h
 | x :: l, a, b, h => by
   rw [List.foldl_cons,List.sum_cons,<- Int.add_assoc]
   exact jdb hk l _ _ ((jb8 hk a x).trans (h.add .refl))
theorem zbn {p:Int} (hk:jt3 p=true) (l:List Int):Eqm p (zbm p l) l.sum:=by
 have:=jdb hk l 0 0 .refl
 rwa [Int.zero_add] at this
theorem jdc {p:Int} (hk:jt3 p=true):∀ (l:List Int) (a:Int),inP p a->inP p (l.foldl (j1t p) a)
 | [], a, h => h
 | x :: l, a, h => jdc hk l _ (jrn hk a x)
theorem jrv {p:Int} (hk:jt3 p=true):inP p 0:=by have:=jt7 hk;exact ⟨by omega,by omega⟩
theorem zbo {p:Int} (hk:jt3 p=true) (l:List Int):inP p (zbm p l):=jdc hk l 0 (jrv hk)
def jd6 (p:Int) (inv:Bool) (r:Int):Int:=if inv=true then (j5l p r).1 else (z60 p r).1
theorem z67 {p n:Int} (h:(z60 p n).2=0):(z60 p n).1=z1g p (jdt p) ((p-1) / n).toNat:=by
 obtain ⟨hk,h1,h2,h3,h4⟩:=z65 h
 rw [h4]
theorem jbq {p n:Int} (hk:jt3 p=true) (h1:1<=n) (h3:(p-1) % n=0):((p-1) / n).toNat*n.toNat=(p-1).toNat:=by
 have hp:=jt7 hk
 have e:=Int.mul_ediv_cancel' (Int.dvd_of_emod_eq_zero h3)
 have h0:0<=(p-1) / n:=Int.ediv_nonneg (by omega) (by omega)
 have : ((((p-1) / n).toNat*n.toNat:Nat):Int)=p-1:=by
  rw [Int.natCast_mul,Int.toNat_of_nonneg h0,Int.toNat_of_nonneg (by omega),Int.mul_comm]; exact e
 omega
theorem z66 {p n:Int} (h:(z60 p n).2=0):Eqm p ((z60 p n).1 ^ n.toNat) 1:=by
 obtain ⟨hk,h1,h2,h3,h4⟩:=z65 h
 rw [z67 h]
 refine ((jba hk _ _).pow _).trans ?_
 rw [<- Int.pow_mul,jbq hk h1 h3]
 exact (jba hk _ _).symm.trans (by rw [je1 hk]; exact .refl)
theorem j5o {p n:Int} (h:(z60 p n).2=0):Eqm p (j5l p n).1 ((z60 p n).1 ^ (n.toNat-1)):=by
 obtain ⟨hk,h1,h2,h3,h4⟩:=z65 h
 have hp:=jt7 hk
 rw [j5m h]
 refine (jba hk _ _).trans ?_
 have g1:=z66 h
 have h5:Eqm p ((z60 p n).1 ^ (p-1).toNat) 1:=by
  rw [<- jbq hk h1 h3,Nat.mul_comm,Int.pow_mul]
  have:=g1.pow ((p-1) / n).toNat
  rwa [Int.one_pow] at this
 have h6:Eqm p ((z60 p n).1 ^ (p-2).toNat) ((z60 p n).1 ^ (p-2).toNat*(z60 p n).1 ^ n.toNat):=by
  have:=(Eqm.refl (p:=p) (a:=(z60 p n).1 ^ (p-2).toNat)).mul g1.symm
  rwa [Int.mul_one] at this
 refine h6.trans ?_
 have h2p:2<=p:=by rcases jt5 hk with rfl | rfl | rfl <;> decide
 rw [<- Int.pow_add,show (p-2).toNat+n.toNat=(p-1).toNat+(n.toNat-1) by omega,Int.pow_add]
 have:=h5.mul (Eqm.refl (p:=p) (a:=(z60 p n).1 ^ (n.toNat-1)))
 rwa [Int.one_mul] at this
theorem jr5 {p:Int} (hk:jt3 p=true):(z60 p 2).2=0/\(z60 p 2).1=p-1:=by
 have h:(z60 p 2).2=0:=z64 hk (by omega) (by omega) (by rcases jt5 hk with rfl | rfl | rfl <;> decide)
 exact ⟨h,by rw [z67 h,jdz hk]⟩
theorem z5x {p:Int} (hk:jt3 p=true):Eqm p (z60 p 2).1 (-1):=by rw [(jr5 hk).2]; exact ⟨1,by omega⟩
theorem z5z {p:Int} (h:(z60 p 4).2=0):Eqm p ((z60 p 4).1 ^ 2) (-1):=by
 obtain ⟨hk,h1,h2,h3,h4⟩:=z65 h
 rw [z67 h]
 refine ((jba hk _ _).pow _).trans ?_
 have e:((p-1) / 4).toNat*2=((p-1) / 2).toNat:=by omega
 rw [<- Int.pow_mul,e]
 exact (jba hk _ _).symm.trans (by rw [jdz hk]; exact ⟨1,by omega⟩)
theorem z5y {p:Int} (h:(z60 p 3).2=0):Eqm p (1+(z60 p 3).1+(z60 p 3).1 ^ 2) 0:=by
 obtain ⟨hk,h1,h2,h3,h4⟩:=z65 h
 rw [z67 h]
 have h5:=je3 hk h3
 have h6:Eqm p (1+z1g p (jdt p) ((p-1) / 3).toNat+z1g p (jdt p) (2*((p-1) / 3).toNat)) 0:=.of (by rw [h5]; simp)
 refine Eqm.trans (Eqm.add .refl ?_) h6
 refine ((jba hk _ _).pow _).trans ?_
 rw [<- Int.pow_mul,Nat.mul_comm]
 exact (jba hk _ _).symm
theorem jd0 {p:Int} {inv:Bool} (hk:jt3 p=true):Eqm p (jd6 p inv 2) (-1):=by
 unfold jd6
 cases inv with
 | false => simpa using z5x hk
 | true =>
   simp only [if_true]
   have:=j5o (jr5 hk).1
   refine this.trans ?_
   show Eqm p ((z60 p 2).1 ^ 1) (-1)
   rw [Int.pow_succ,Int.pow_zero,Int.one_mul]; exact z5x hk
theorem jd1 {p:Int} {inv:Bool} (h:(z60 p 3).2=0):Eqm p (1+jd6 p inv 3+jd6 p inv 3 ^ 2) 0:=by
 have g:=z5y h
 unfold jd6
 cases inv with
 | false => simpa using g
 | true =>
   simp only [if_true]
   have h1:=j5o h
   have h2:=z66 h
   generalize (z60 p 3).1=w at g h1 h2
   have e1:Eqm p ((j5l p 3).1 ^ 2) w:=by
    refine (h1.pow 2).trans ?_
    rw [<- Int.pow_mul]
    have:=h2.mul (Eqm.refl (p:=p) (a:=w))
    rw [Int.one_mul] at this
    refine Eqm.trans ?_ this
    show Eqm p (w ^ 4) (w ^ 3*w)
    rw [<- Int.pow_succ]; exact .refl
   refine ((Eqm.refl.add h1).add e1).trans ?_
   show Eqm p (1+w ^ 2+w) 0
   rw [Int.add_right_comm]; exact g
theorem jd2 {p:Int} {inv:Bool} (h:(z60 p 4).2=0):Eqm p (jd6 p inv 4 ^ 2) (-1):=by
 have g:=z5z h
 unfold jd6
 cases inv with
 | false => simpa using g
 | true =>
   simp only [if_true]
   refine ((j5o h).pow 2).trans ?_
   rw [<- Int.pow_mul]
   have h2:=z66 h
   generalize (z60 p 4).1=w at g h2 ⊢
   show Eqm p (w ^ 6) (-1)
   have:=h2.mul g
   rw [Int.one_mul] at this
   refine Eqm.trans ?_ this
   show Eqm p (w ^ 6) (w ^ 4*w ^ 2)
   rw [<- Int.pow_add]; exact .refl
def j9s (p w:Int) (x:List Int) (u:Nat):Int:=(x.zipIdx.map λ e=>jxc p e.1 (z1g p w (e.2*u % x.length))).foldl (j1t p) 0
def jd3 (p:Int) (inv:Bool) (x:List Int):List Int:=(List.range x.length).map λ u=>j9s p (jd6 p inv x.length) x u
theorem jd5 (p:Int) (inv:Bool) (x:List Int):(jd3 p inv x).length=x.length:=by simp [jd3]
theorem jd4 {p:Int} (hk:jt3 p=true) {inv:Bool} {x:List Int}:∀ y∈jd3 p inv x,inP p y:=by
 intro y hy
 unfold jd3 at hy
 obtain ⟨u,-,rfl⟩:=List.mem_map.1 hy
 exact zbo hk _
theorem zbq {α:Type} {p:Int} {f g:α->Int}:∀ {l:List α},(∀ e∈l,Eqm p (f e) (g e))->Eqm p (l.map f).sum (l.map g).sum
 | [], _ => .refl
 | x :: l, h => by
   rw [List.map_cons,List.map_cons,List.sum_cons,List.sum_cons]
   exact (h x (by simp)).add (zbq λ e he=>h e (by simp [he]))
theorem j9t {p:Int} (hk:jt3 p=true) (w:Int) (x:List Int) (u:Nat):Eqm p (j9s p w x u) ((x.zipIdx.map λ e=>e.1*w ^ (e.2*u % x.length)).sum):=
 (zbn hk _).trans (zbq λ e _=>(jb9 hk _ _).trans (Eqm.refl.mul (jba hk _ _)))
theorem j9u {p:Int} (hk:jt3 p=true) (w:Int) (x:List Int) (u:Nat):inP p (j9s p w x u):=zbo hk _
theorem j9v {p v:Int} (hk:jt3 p=true) {w:Int} {x:List Int} {u:Nat} {a:Int} (hv:inP p v) (h1:Eqm p v a) (h2:Eqm p ((x.zipIdx.map λ e=>e.1*w ^ (e.2*u % x.length)).sum) a):j9s p w x u=v:=
 jro (j9u hk _ _ _) hv ((j9t hk w x u).trans (h2.trans h1.symm))
def j1x (p:Int) (l:List Int):Int:=l.foldl (j1t p) 0
def zec (p:Int) (x0 x1:Int):List Int:=[j1x p [x0,x1],zbg p x0 x1]
def zd0 (p w1:Int) (x0 x1 x2:Int):List Int:=
 [j1x p [x0,x1,x2],j1x p [zbg p x0 x2,jxc p (zbg p x1 x2) w1],zbg p (zbg p x0 x1) (jxc p (zbg p x1 x2) w1)]
def jdh (p w1:Int) (x0 x1 x2 x3:Int):List Int:=
 [j1x p [j1x p [x0,x2],j1x p [x1,x3]],j1x p [zbg p x0 x2,jxc p (zbg p x1 x3) w1],zbg p (j1x p [x0,x2]) (j1x p [x1,x3]),zbg p (zbg p x0 x2) (jxc p (zbg p x1 x3) w1)]
def jcc (p w:Int) (x:List Int) (u:Nat):Int:=((List.range 4).map λ t=>jxc p (x.getD (t+1) 0) (z1g p w ((t+1)*u % 5))).foldl (λ s y=>j1x p [s,y]) (x.getD 0 0)
def jcd (p w:Int) (x:List Int):List Int:=j1x p x :: (List.range 4).map λ u=>jcc p w x (u+1)
theorem j1y {p:Int} (hk:jt3 p=true) (l:List Int):Eqm p (j1x p l) l.sum:=zbn hk l
theorem j1z {p:Int} (hk:jt3 p=true) (l:List Int):inP p (j1x p l):=zbo hk l
theorem zed {p:Int} (hk:jt3 p=true) {inv:Bool} {x0 x1:Int}:jd3 p inv [x0,x1]=zec p x0 x1:=by
 have h2:=jd0 (inv:=inv) hk
 unfold jd3 zec
 show [j9s p _ _ 0,j9s p _ _ 1]=_
 generalize hw:jd6 p inv (([x0,x1]:List Int).length:Int)=w
 have hw':Eqm p w (-1):=by rw [<- hw]; exact h2
 congr 1
 ·refine j9v hk (a:=x0+x1) (j1z hk _) ((j1y hk _).trans (by simp;exact .refl)) ?_
  simp;exact .refl
 congr 1
 ·refine j9v hk (a:=x0-x1) (jrt hk _ _) (jbb hk _ _) ?_
  simp
  obtain ⟨c,hc⟩:=hw'
  exact ⟨x1*c,by grind⟩
theorem zd1 {p:Int} {inv:Bool} (h:(z60 p 3).2=0) {x0 x1 x2:Int}:jd3 p inv [x0,x1,x2]=zd0 p (z1g p (jd6 p inv 3) 1) x0 x1 x2:=by
 obtain ⟨hk,-⟩:=z65 h
 have h3:=jd1 (inv:=inv) h
 unfold jd3 zd0
 show [j9s p _ _ 0,j9s p _ _ 1,j9s p _ _ 2]=_
 generalize hw:jd6 p inv (([x0,x1,x2]:List Int).length:Int)=w
 have hw':jd6 p inv 3=w:=hw
 rw [hw'] at h3
 have e1:Eqm p (z1g p w 1) w:=(jba hk w 1).trans (by rw [Int.pow_succ,Int.pow_zero,Int.one_mul]; exact .refl)
 have et:Eqm p (jxc p (zbg p x1 x2) (z1g p w 1)) ((x1-x2)*w):=(jb9 hk _ _).trans ((jbb hk _ _).mul e1)
 congr 1
 ·refine j9v hk (a:=x0+x1+x2) (j1z hk _) ((j1y hk _).trans (by simp [Int.add_assoc]; exact .refl)) ?_
  simp [Int.add_assoc]; exact .refl
 congr 1
 ·refine j9v hk (a:=(x0-x2)+(x1-x2)*w) (j1z hk _) ((j1y hk _).trans (by simp;exact (jbb hk _ _).add et)) ?_
  simp
  obtain ⟨c,hc⟩:=h3
  exact ⟨x2*c,by grind⟩
 congr 1
 ·refine j9v hk (a:=(x0-x1)-(x1-x2)*w) (jrt hk _ _) ((jbb hk _ _).trans ((jbb hk _ _).sub et)) ?_
  simp
  obtain ⟨c,hc⟩:=h3
  exact ⟨x1*c,by grind⟩
theorem jdi {p:Int} {inv:Bool} (h:(z60 p 4).2=0) {x0 x1 x2 x3:Int}:jd3 p inv [x0,x1,x2,x3]=jdh p (z1g p (jd6 p inv 4) 1) x0 x1 x2 x3:=by
 obtain ⟨hk,-⟩:=z65 h
 have h3:=jd2 (inv:=inv) h
 unfold jd3 jdh
 show [j9s p _ _ 0,j9s p _ _ 1,j9s p _ _ 2,j9s p _ _ 3]=_
 generalize hw:jd6 p inv (([x0,x1,x2,x3]:List Int).length:Int)=w
 have hw':jd6 p inv 4=w:=hw
 rw [hw'] at h3
 have e1:Eqm p (z1g p w 1) w:=(jba hk w 1).trans (by rw [Int.pow_succ,Int.pow_zero,Int.one_mul]; exact .refl)
 have et:Eqm p (jxc p (zbg p x1 x3) (z1g p w 1)) ((x1-x3)*w):=(jb9 hk _ _).trans ((jbb hk _ _).mul e1)
 have e2:∀ a b:Int,Eqm p (j1x p [a,b]) (a+b):=λ a b=>(j1y hk _).trans (by simp;exact .refl)
 congr 1
 ·refine j9v hk (a:=(x0+x2)+(x1+x3)) (j1z hk _) ((j1y hk _).trans (by simp;exact (e2 _ _).add (e2 _ _))) ?_
  simp;exact ⟨0,by omega⟩
 congr 1
 ·refine j9v hk (a:=(x0-x2)+(x1-x3)*w) (j1z hk _) ((j1y hk _).trans (by simp;exact (jbb hk _ _).add et)) ?_
  simp
  obtain ⟨c,hc⟩:=h3
  exact ⟨(x2+x3*w)*c,by grind⟩
 congr 1
 ·refine j9v hk (a:=(x0+x2)-(x1+x3)) (jrt hk _ _) ((jbb hk _ _).trans ((e2 _ _).sub (e2 _ _))) ?_
  simp
  obtain ⟨c,hc⟩:=h3
  exact ⟨(x1+x3)*c,by grind⟩
 congr 1
 ·refine j9v hk (a:=(x0-x2)-(x1-x3)*w) (jrt hk _ _) ((jbb hk _ _).trans ((jbb hk _ _).sub et)) ?_
  simp
  obtain ⟨c,hc⟩:=h3
  exact ⟨(x2+x1*w)*c,by grind⟩
theorem jce {p:Int} {inv:Bool} (h:(z60 p 5).2=0) {x0 x1 x2 x3 x4:Int} (h0:inP p x0):jd3 p inv [x0,x1,x2,x3,x4]=jcd p (jd6 p inv 5) [x0,x1,x2,x3,x4]:=by
 obtain ⟨hk,-⟩:=z65 h
 unfold jd3 jcd
 show [j9s p _ _ 0,j9s p _ _ 1,j9s p _ _ 2,j9s p _ _ 3,j9s p _ _ 4]=_
 generalize hw:jd6 p inv (([x0,x1,x2,x3,x4]:List Int).length:Int)=w
 have hw':jd6 p inv 5=w:=hw
 skip
 have e2:∀ a b:Int,Eqm p (j1x p [a,b]) (a+b):=λ a b=>(j1y hk _).trans (by simp;exact .refl)
 have key:∀ u,j9s p w [x0,x1,x2,x3,x4] u=jcc p w [x0,x1,x2,x3,x4] u:=by
  intro u
  refine j9v hk (a:=x0+(x1*w ^ (1*u % 5)+(x2*w ^ (2*u % 5)+(x3*w ^ (3*u % 5)+x4*w ^ (4*u % 5))))) ?_ ?_ ?_
  ·show inP p (j1x p [_,_]); exact j1z hk _
  ·show Eqm p (j1x p [j1x p [j1x p [j1x p [x0,jxc p x1 (z1g p w (1*u % 5))],jxc p x2 (z1g p w (2*u % 5))],jxc p x3 (z1g p w (3*u % 5))],jxc p x4 (z1g p w (4*u % 5))]) _
   have em:∀ (a:Int) (n:Nat),Eqm p (jxc p a (z1g p w n)) (a*w ^ n):=λ a n=>(jb9 hk _ _).trans (Eqm.refl.mul (jba hk _ _))
   refine ((e2 _ _).trans (((e2 _ _).trans (((e2 _ _).trans (((e2 _ _).trans (Eqm.refl.add (em _ _))).add (em _ _))).add (em _ _))).add (em _ _))).trans ?_
   exact ⟨0,by omega⟩
  ·simp;exact .refl
 show _=j1x p _ :: [jcc p w _ 1,jcc p w _ 2,jcc p w _ 3,jcc p w _ 4]
 rw [key 1,key 2,key 3,key 4]
 congr 1
 refine j9v hk (a:=x0+(x1+(x2+(x3+x4)))) (j1z hk _) ((j1y hk _).trans (by simp;exact .refl)) ?_
 simp;exact .refl
def j84 (c:Nat->Int):Nat->List Int->Int
 | _, [] => 0
 | k, x :: l => x * c k + j84 c (k + 1) l
theorem j87 (c:Nat->Int):∀ (l:List Int) (k i:Nat) (v:Int),i < l.length->j84 c k (l.set i v)=j84 c k l+(v-l.getD i 0)*c (k+i)
 | [], k, i, v, h => by simp at h
 | x :: l, k, 0, v, h => by
   simp only [List.set_cons_zero,j84,Nat.add_zero,List.getD_cons_zero]; rw [Int.sub_mul]; omega
 | x :: l, k, i + 1, v, h => by
   simp only [List.set_cons_succ,j84,List.getD_cons_succ]
   rw [j87 c l (k+1) i v (by simpa using h),show k+1+i=k+(i+1) by omega]; omega
theorem j89 (c:Nat->Int):∀ n k,j84 c k (List.replicate n 0)=0
 | 0, k => rfl
 | n + 1, k => by rw [List.replicate_succ]; simp only [j84, j89 c n]; simp
theorem j85:∀ (l:List Int) k,j84 (λ _=>1) k l=l.sum
 | [], k => rfl
 | x :: l, k => by simp only [j84, j85 l, List.sum_cons, Int.mul_one]
def z7b (a:List Int) (l:List (Nat×Int)):List Int:=l.foldl (λ a e=>a.set e.1 e.2) a
theorem z7h:∀ (l:List (Nat×Int)) (a:List Int),(z7b a l).length=a.length
 | [], a => rfl
 | e :: l, a => by rw [z7b, List.foldl_cons]; exact (z7h l _).trans (by simp)
theorem z7c (a:List Int) (l m:List (Nat×Int)):z7b a (l++m)=z7b (z7b a l) m:=by unfold z7b;rw [List.foldl_append]
theorem z7i:∀ (l:List (Nat×Int)) (a:List Int) (i:Nat),i∉l.map (·.1)->(z7b a l)[i]? = a[i]?
 | [], a, i, h => rfl
 | e :: l, a, i, h => by
   rw [z7b,List.foldl_cons]
   have h1:i≠e.1:=λ q=>h (by simp [q])
   have:=z7i l (a.set e.1 e.2) i (λ q=>h (by simp only [List.map_cons]; exact List.mem_cons_of_mem _ q))
   exact this.trans (by rw [List.getElem?_set_ne (Ne.symm h1)])
theorem z7d:∀ (l:List (Nat×Int)) (a:List Int),(l.map (·.1)).Nodup->∀ e∈l,e.1 < a.length->(z7b a l)[e.1]? = some e.2
 | [], a, _, e, h, _ => by cases h
 | x :: l, a, hn, e, h, hl => by
   rw [List.map_cons,List.nodup_cons] at hn
   rw [z7b,List.foldl_cons]
   rcases List.mem_cons.1 h with rfl | h
   ·have:=z7i l (a.set e.1 e.2) e.1 hn.1
    exact this.trans (by rw [List.getElem?_set_self hl])
   ·exact z7d l _ hn.2 e h (by simpa using hl)
theorem j86 (c:Nat->Int):∀ (l:List (Nat×Int)) (a:List Int),(l.map (·.1)).Nodup->(∀ e∈l,e.1 < a.length/\a.getD e.1 0=0)->j84 c 0 (z7b a l)=j84 c 0 a+(l.map λ e=>e.2*c e.1).sum
 | [], a, _, _ => by simp [z7b]
 | x :: l, a, hn, h => by
   rw [List.map_cons,List.nodup_cons] at hn
   obtain ⟨h1,h2⟩:=h x (by simp)
   have hs:z7b a (x :: l)=z7b (a.set x.1 x.2) l:=rfl
   rw [hs,j86 c l _ hn.2 ?_,j87 c a 0 x.1 x.2 h1,h2,List.map_cons,List.sum_cons,Nat.zero_add]
   ·rw [Int.sub_zero]; omega
   ·intro e he
    obtain ⟨h3,h4⟩:=h e (by simp [he])
    refine ⟨by simpa using h3,?_⟩
    have hne:x.1≠e.1:=λ q=>hn.1 (by rw [q]; exact List.mem_map_of_mem he)
    rw [List.getD_eq_getElem?_getD,List.getElem?_set_ne hne,<- List.getD_eq_getElem?_getD]; exact h4
def zbu (p:Int) (y:List Int):Int×Int:=(y.sum % p,j84 (λ i=>(i:Int)+1) 0 y % p)
def gyV (p:Int) (inv tw:Bool) (w:List Int):List Int:=if tw=true then w else jd3 p inv w
def jep (p:Int) (inv tw:Bool) (tab x:List Int) (g:GrN):List (Nat×Int):=
 g.o.zip (List.zipWith (jxc p) (gyV p inv tw (g.i.map λ i=>x.getD i 0)) (g.f.map λ i=>tab.getD i 0))
def doG (p:Int) (inv tw:Bool) (n:Nat) (gs:List GrN) (tab x:List Int):List Int:=z7b (List.replicate n 0) (gs.flatMap (jep p inv tw tab x))
def wtV (p:Int) (tw:Bool) (y by_:List Int):Int:=if tw=true then jxc p (y.getD 0 0) (by_.getD 0 0) else j1x p (List.zipWith (jxc p) y by_)
def z2a (p:Int) (inv tw:Bool) (tab x:List Int) (s:Int×Int) (g:GrN):Int×Int:=
 let y:=gyV p inv tw (g.i.map λ i=>x.getD i 0)
 let once:=g.f.map λ i=>tab.getD i 0
 let placed:=List.zipWith (λ f (o:Nat)=>jxc p f ((o:Int)+1)) once g.o
 (j1t p s.1 (wtV p tw y once),j1t p s.2 (wtV p tw y placed))
def z26 (p:Int) (inv tw:Bool) (gs:List GrN) (tab x:List Int):Int×Int:=gs.foldl (z2a p inv tw tab x) (0,0)
structure GrN.ok (tw:Bool) (g:GrN):Prop where
 f:g.f.length=g.i.length
 o:g.o.length=g.i.length
 t:tw=true->g.i.length=1
theorem jr3 (p:Int) (inv tw:Bool) (w:List Int):(gyV p inv tw w).length=w.length:=by
 unfold gyV;split
 ·rfl
 ·exact jd5 _ _ _
theorem zi2 {p:Int} (hk:jt3 p=true) (c:Nat->Int):∀ (y f:List Int) (o:List Nat),Eqm p ((List.zipWith (jxc p) y (List.zipWith (λ f o=>jxc p f (c o)) f o)).sum) (((o.zip (List.zipWith (jxc p) y f)).map λ e=>e.2*c e.1).sum)
 | [], f, o => by simp; exact .refl
 | y, [], o => by simp; exact .refl
 | y, f, [] => by simp; exact .refl
 | a :: y, b :: f, o :: os => by
   simp only [List.zipWith_cons_cons,List.zip_cons_cons,List.map_cons,List.sum_cons]
   refine Eqm.add ?_ (zi2 hk c y f os)
   refine (jb9 hk _ _).trans ((Eqm.refl.mul (jb9 hk _ _)).trans ?_)
   rw [<- Int.mul_assoc]
   exact ((jb9 hk _ _).symm).mul .refl
theorem zhi {p:Int} (hk:jt3 p=true) {tw:Bool} {y by_:List Int} (h1:tw=true->y.length=1/\by_.length=1):Eqm p (wtV p tw y by_) ((List.zipWith (jxc p) y by_).sum):=by
 unfold wtV
 cases tw with
 | false => exact zbn hk _
 | true =>
   obtain ⟨h2,h3⟩:=h1 rfl
   obtain ⟨a,rfl⟩:=List.length_eq_one_iff.1 h2
   obtain ⟨b,rfl⟩:=List.length_eq_one_iff.1 h3
   simp;exact .refl
theorem zi3 {p:Int} (hk:jt3 p=true):∀ (y f:List Int) (o:List Nat),f.length=o.length->Eqm p ((List.zipWith (jxc p) y f).sum) (((o.zip (List.zipWith (jxc p) y f)).map λ e=>e.2*1).sum)
 | [], f, o, h => by simp; exact .refl
 | y, [], o, h => by simp; exact .refl
 | y, b :: f, [], h => by simp at h
 | a :: y, b :: f, o :: os, h => by
   simp only [List.zipWith_cons_cons,List.zip_cons_cons,List.map_cons,List.sum_cons,Int.mul_one]
   have:=zi3 hk y f os (by simpa using h)
   simp only [Int.mul_one] at this
   exact Eqm.refl.add this
theorem z2b {p:Int} (hk:jt3 p=true) {inv tw:Bool} {tab x:List Int} {s:Int×Int} {g:GrN} (hg:g.ok tw) :
 Eqm p (z2a p inv tw tab x s g).1 (s.1+((jep p inv tw tab x g).map λ e=>e.2*1).sum)/\Eqm p (z2a p inv tw tab x s g).2 (s.2+((jep p inv tw tab x g).map λ e=>e.2*((e.1:Int)+1)).sum):=by
 have hl:(gyV p inv tw (g.i.map λ i=>x.getD i 0)).length=g.i.length:=by rw [jr3,List.length_map]
 constructor
 ·refine (jb8 hk _ _).trans (Eqm.refl.add ?_)
  refine (zhi hk λ h=>⟨by rw [hl,hg.t h],by rw [List.length_map,hg.f,hg.t h]⟩).trans ?_
  exact zi3 hk _ _ _ (by rw [List.length_map,hg.f,hg.o])
 ·refine (jb8 hk _ _).trans (Eqm.refl.add ?_)
  refine (zhi hk λ h=>⟨by rw [hl,hg.t h],by rw [List.length_zipWith,List.length_map,hg.f,hg.o,hg.t h]; rfl⟩).trans ?_
  exact zi2 hk (λ o=>(o:Int)+1) _ _ _
theorem z28 {p:Int} (hk:jt3 p=true) {inv tw:Bool} {tab x:List Int}:∀ (gs:List GrN) (s:Int×Int),(∀ g∈gs,g.ok tw) ->
 Eqm p (gs.foldl (z2a p inv tw tab x) s).1 (s.1+((gs.flatMap (jep p inv tw tab x)).map λ e=>e.2*1).sum)/\Eqm p (gs.foldl (z2a p inv tw tab x) s).2 (s.2+((gs.flatMap (jep p inv tw tab x)).map λ e=>e.2*((e.1:Int)+1)).sum)
 | [], s, _ => by simp; exact ⟨.refl, .refl⟩
 | g :: gs, s, h => by
   obtain ⟨h1,h2⟩:=z28 hk gs (z2a p inv tw tab x s g) (λ g' hg'=>h g' (by simp [hg']))
   obtain ⟨h3,h4⟩:=z2b (inv:=inv) (tab:=tab) (x:=x) (s:=s) hk (h g (by simp))
   rw [List.foldl_cons,List.flatMap_cons,List.map_append,List.map_append,List.sum_append,List.sum_append,<- Int.add_assoc,<- Int.add_assoc]
   exact ⟨h1.trans (h3.add .refl),h2.trans (h4.add .refl)⟩
theorem z29 {p:Int} (hk:jt3 p=true) {inv tw:Bool} {tab x:List Int}:∀ (gs:List GrN) (s:Int×Int),inP p s.1/\inP p s.2->inP p (gs.foldl (z2a p inv tw tab x) s).1/\inP p (gs.foldl (z2a p inv tw tab x) s).2
 | [], s, h => h
 | g :: gs, s, h => z29 hk gs _ ⟨jrn hk _ _, jrn hk _ _⟩
theorem jer {p:Int} {inv tw:Bool} {tab x:List Int} {g:GrN} (hg:g.ok tw):(jep p inv tw tab x g).map (·.1)=g.o:=by
 unfold jep
 rw [List.map_fst_zip]
 rw [List.length_zipWith,jr3,List.length_map,List.length_map,hg.f,hg.o]; omega
theorem jeq {p:Int} {inv tw:Bool} {tab x:List Int}:∀ {gs:List GrN},(∀ g∈gs,g.ok tw)->(gs.flatMap (jep p inv tw tab x)).map (·.1)=gs.flatMap GrN.o
 | [], _ => rfl
 | g :: gs, h => by
   rw [List.flatMap_cons,List.flatMap_cons,List.map_append,jer (h g (by simp)),jeq λ g' hg'=>h g' (by simp [hg'])]
theorem z2c {p:Int} (hk:jt3 p=true) {inv tw:Bool} {n:Nat} {gs:List GrN} {tab x:List Int} (hg:∀ g∈gs,g.ok tw) (ho:(gs.flatMap GrN.o).Perm (List.range n)) :
 z26 p inv tw gs tab x=zbu p (doG p inv tw n gs tab x):=by
 obtain ⟨h1,h2⟩:=z28 (inv:=inv) (tab:=tab) (x:=x) hk gs (0,0) hg
 obtain ⟨h3,h4⟩:=z29 (inv:=inv) (tab:=tab) (x:=x) hk gs (0,0) ⟨jrv hk,jrv hk⟩
 have hfst:=jeq (p:=p) (inv:=inv) (tab:=tab) (x:=x) hg
 have hnd:((gs.flatMap (jep p inv tw tab x)).map (·.1)).Nodup:=by rw [hfst]; exact ho.nodup_iff.2 List.nodup_range
 have hlt:∀ e∈gs.flatMap (jep p inv tw tab x),e.1 < (List.replicate n (0:Int)).length/\(List.replicate n (0:Int)).getD e.1 0=0:=by
  intro e he
  have : e.1∈gs.flatMap GrN.o:=by rw [<- hfst]; exact List.mem_map_of_mem he
  have:=List.mem_range.1 (ho.mem_iff.1 this)
  refine ⟨by simpa using this,?_⟩
  simp [List.getD_eq_getElem?_getD,this]
 have key:∀ c,j84 c 0 (doG p inv tw n gs tab x)=((gs.flatMap (jep p inv tw tab x)).map λ e=>e.2*c e.1).sum:=by
  intro c
  unfold doG
  rw [j86 c _ _ hnd hlt,j89,Int.zero_add]
 unfold zbu
 rw [<- j85 _ 0,key,key]
 simp only [Int.zero_add] at h1 h2
 exact Prod.ext (jro h3 (jrp hk _) (h1.trans Eqm.mod.symm)) (jro h4 (jrp hk _) (h2.trans Eqm.mod.symm))
end Go.AM
namespace Go.AM
open Go
theorem sA0 {S l:St} {o v:j00}:List.set (S++o :: l) S.length v=S++v :: l:=by rw [List.set_append_right (h:=Nat.le_refl _),Nat.sub_self]; rfl
theorem sA1 {S l:St} {o p v:j00}:List.set (S++o :: p :: l) (S.length+1) v=S++o :: v :: l:=by rw [List.set_append_right (h:=by omega),Nat.add_sub_cancel_left]; rfl
theorem sA2 {S l:St} {o p r v:j00}:List.set (S++o :: p :: r :: l) (S.length+2) v=S++o :: p :: v :: l:=by rw [List.set_append_right (h:=by omega),Nat.add_sub_cancel_left]; rfl
theorem gA0 {S l:St} {o:j00}:(S++o :: l)[S.length]? = some o:=by rw [List.getElem?_append_right (by omega),Nat.sub_self]; rfl
theorem gA1 {S l:St} {o p:j00}:(S++o :: p :: l)[S.length+1]? = some p:=by rw [List.getElem?_append_right (by omega),Nat.add_sub_cancel_left]; rfl
theorem gA2 {S l:St} {o p r:j00}:(S++o :: p :: r :: l)[S.length+2]? = some r:=by rw [List.getElem?_append_right (by omega),Nat.add_sub_cancel_left]; rfl
theorem gA {S l:St} {i:Nat}:(S++l)[S.length+i]? = l[i]?:=by rw [List.getElem?_append_right (by omega),Nat.add_sub_cancel_left]
theorem sA {S l:St} {i:Nat} {v:j00}:List.set (S++l) (S.length+i) v=S++l.set i v:=by rw [List.set_append_right (h:=by omega),Nat.add_sub_cancel_left]
structure Mo (T:List Nat) (S:St) (T':List Nat) (S':St):Prop where
 kp:Kp T S S'
 own:∀ i∈T',i∈T\/S.length<=i
theorem Mo.refl {T:List Nat} {S:St}:Mo T S T S:=⟨.refl,λ _ h=>.inl h⟩
theorem Mo.trans {T T1 T2:List Nat} {S S1 S2:St} (h:Mo T S T1 S1) (k:Mo T1 S1 T2 S2):Mo T S T2 S2 where
 kp:=⟨Nat.le_trans h.kp.len k.kp.len,λ i hi hn=>by
  rw [k.kp.keep i (Nat.lt_of_lt_of_le hi h.kp.len) (λ hm=>by rcases h.own i hm with h' | h'; exact hn h'; omega),h.kp.keep i hi hn]⟩
 own:=λ i hi=>by
  rcases k.own i hi with h' | h'
  ·exact h.own i h'
  ·have:=h.kp.len;exact .inr (by omega)
theorem Mo.more {T T1:List Nat} {S S1 S2:St} (h:Mo T S T1 S1) (k:S1 <+: S2):Mo T S T1 S2:=⟨h.kp.more k,h.own⟩
theorem Mo.pre {T T1:List Nat} {S S1 S2:St} (h:S <+: S1) (k:Mo T S1 T1 S2):Mo T S T1 S2:=⟨.pre h k.kp,λ i hi=>(k.own i hi).imp id λ h'=>Nat.le_trans h.length_le h'⟩
theorem Mo.of {T:List Nat} {S S1:St} (h:S <+: S1):Mo T S T S1:=⟨.of h,λ _ h=>.inl h⟩
theorem Mo.get {T T':List Nat} {S S':St} (h:Mo T S T' S') {i:Nat} {o:j00} (hi:S[i]? = some o) (hn:i∉T):S'[i]? = some o:=h.kp.get hi hn
theorem Mo.out {T T':List Nat} {S S':St} (h:Mo T S T' S') {i:Nat} (hn:i∉T) (hl:i < S.length):i∉T':=λ hm=>by
 rcases h.own i hm with h' | h'
 ·exact hn h'
 ·omega
theorem Mo.low {T T':List Nat} {S S' S0:St} (h:Mo T S T' S') (h0:S0 <+: S) (hT:∀ i∈T,S0.length<=i):S0 <+: S':=h.kp.low hT h0 (Nat.le_refl _)
theorem jcu:∀ l:List Nat,(l.flatMap λ a=>[a])=l
 | [] => rfl
 | x :: l => by rw [List.flatMap_cons, jcu l]; rfl
def z2r (l:List Nat):Nat:=l.foldr (· * ·) 1
theorem z2t (a:Nat) (l:List Nat):z2r (a :: l)=a*z2r l:=rfl
theorem z2s:∀ a b:List Nat,z2r (a++b)=z2r a*z2r b
 | [], b => by simp [z2r]
 | x :: a, b => by rw [List.cons_append, z2t, z2t, z2s a b, Nat.mul_assoc]
theorem z2u:∀ l:List Nat,(∀ x∈l,1<=x)->1<=z2r l
 | [], _ => Nat.le_refl _
 | x :: l, h => by
   rw [z2t]
   exact Nat.mul_pos (h x (by simp)) (z2u l λ y hy=>h y (by simp [hy]))
def jxv (l:List Ax):List Nat:=l.map λ a=>a.N.toNat
theorem j2f:∀ (l:List Int) (n:Nat),(j2e (n:Int) l).2=0->(∀ x∈l,1<=x/\x<=4096)/\(j2e (n:Int) l).1=((n*z2r (l.map Int.toNat):Nat):Int)
 | [], n, h => by simp [j2e, z2r]
 | d :: r, n, h => by
   unfold j2e at h ⊢
   split at h
   ·simp at h
   ·rename_i hc
    rw [if_neg hc]
    obtain ⟨e,he⟩:=Int.eq_ofNat_of_zero_le (show 0<=d by omega)
    have hx:(n:Int)*d=((n*e:Nat):Int):=by rw [he,Int.natCast_mul]
    rw [hx] at h ⊢
    obtain ⟨h1,h2⟩:=j2f r (n*e) h
    refine ⟨λ x hx=>?_,?_⟩
    ·rcases List.mem_cons.1 hx with rfl | hx
     ·omega
     ·exact h1 x hx
    ·rw [h2,List.map_cons,z2t,he,Int.toNat_natCast,Nat.mul_assoc]
theorem j2p {l:List Ax} (h:(allV (j9y l)).2=0):(∀ x∈jxv l,1<=x/\x<=4096)/\nV l=(z2r (jxv l):Nat):=by
 obtain ⟨h1,h2,h3⟩:=j2k h
 rw [h3] at h
 obtain ⟨h4,h5⟩:=j2f (j9y l) 1 h
 have e:(j9y l).map Int.toNat=jxv l:=by unfold j9y jxv;rw [List.map_map]; rfl
 constructor
 ·intro x hx
  unfold jxv at hx
  obtain ⟨a,ha,rfl⟩:=List.mem_map.1 hx
  have:=h4 a.N (List.mem_map_of_mem ha)
  omega
 ·unfold nV;rw [h3,show (1:Int)=((1:Nat):Int) from rfl,h5,e,Nat.one_mul]
def js0 (nd:List Nat) (k:Nat):Nat:=z2r (nd.drop (k+1))
theorem z9y {nd:List Nat} {k:Nat} (hk:k < nd.length):z2r nd=z2r (nd.take k)*(nd[k]*js0 nd k):=by
 conv=>lhs;rw [<- List.take_append_drop k nd,z2s,List.drop_eq_getElem_cons hk,z2t]
 rfl
def jqs (l:List Ax) (s:Stp):List GrN:=
 if s.tw=true then (List.range (z2r (jxv l))).map λ i=>⟨[i],[i / js0 (jxv l) s.ax.toNat % (jxv l).getD s.ax.toNat 1],[i]⟩
 else stN (js0 (jxv l) s.ax.toNat) ((jxv l).getD s.ax.toNat 1) (z2r (jxv l)) s.st.R.toNat s.st.L.toNat s.st.M.toNat
structure Shp (l:List Ax) (s:Stp) (k d inner n m:Nat):Prop where
 kl:k < l.length
 ax:s.ax=(k:Int)
 dk:(jxv l)[k]? = some d
 d1:1<=d/\d<=4096
 dN:(j5j l s.ax).N=(d:Int)
 inn:js0 (jxv l) k=inner
 i1:1<=inner
 np:z2r (jxv l)=n
 nm:n=m*(d*inner)
 nn:nV l=(n:Int)
 n1:1<=n/\n<=4096
 all:∀ x∈jxv l,1<=x/\x<=4096
 len:1<=l.length/\l.length<=4
 st:(s.tw=true/\s.st=⟨0,0,0⟩)\/(s.tw=false/\∃ R L M:Nat,s.st=⟨R,L,M⟩/\2<=R/\R<=5/\1<=L/\1<=M/\d=L*(R*M))
theorem zas {p:Int} {l:List Ax} {s:Stp} (h:zam p l s=0):∃ k d inner n m,Shp l s k d inner n m:=by
 obtain ⟨hg,k,hk,hax,hst⟩:=zan h
 obtain ⟨hkn,hal,hall⟩:=jqn hg
 obtain ⟨h1,h2⟩:=j2p hal
 have hkn':k < (jxv l).length:=by simpa [jxv] using hk
 have hd:=h1 _ (List.getElem_mem hkn')
 have hdN:((jxv l)[k]:Int)=l[k].N:=by
  have h3:=(z4k (hall l[k] (List.getElem_mem hk)).1)
  simp only [jxv,List.getElem_map]
  omega
 have hn:=jxs hg
 have hlen:1<=l.length/\l.length<=4:=by have:=j2k hal;simp [j9y] at this;omega
 refine ⟨k,(jxv l)[k],js0 (jxv l) k,z2r (jxv l),z2r ((jxv l).take k),hk,hax,List.getElem?_eq_getElem hkn',hd,?_,rfl,?_,rfl,z9y hkn',h2,by omega,h1,hlen,?_⟩
 ·rw [hax,j5k l k hk,hdN]
 ·exact z2u _ λ x hx=>(h1 x (List.mem_of_mem_drop hx)).1
 ·rcases hst with hst | ⟨ht,hst⟩
  ·exact .inl hst
  ·right
   obtain ⟨g1,g2,g3,g4,g5,g6⟩:=zak (zai (hall l[k] (List.getElem_mem hk)).1).1 hst
   refine ⟨ht,s.st.R.toNat,s.st.L.toNat,s.st.M.toNat,?_,by omega,by omega,by omega,by omega,?_⟩
   ·obtain ⟨sx,stw,⟨R,L,M⟩⟩:=s
    dsimp only at g1 g2 g3 g4 ⊢
    rw [Int.toNat_of_nonneg (by omega),Int.toNat_of_nonneg (by omega),Int.toNat_of_nonneg (by omega)]
   ·have : ((jxv l)[k]:Int)=((s.st.L.toNat*(s.st.R.toNat*s.st.M.toNat):Nat):Int):=by
     rw [hdN,g5,Int.natCast_mul,Int.natCast_mul,Int.toNat_of_nonneg (by omega),Int.toNat_of_nonneg (by omega),Int.toNat_of_nonneg (by omega)]
    omega
section
variable {l:List Ax} {s:Stp} {k d inner n m:Nat}
theorem jqv (h:Shp l s k d inner n m) (ht:s.tw=true):jqs l s=(List.range n).map λ i=>⟨[i],[i / inner % d],[i]⟩:=by
 unfold jqs
 rw [if_pos ht,h.ax,Int.toNat_natCast,h.inn,h.np,List.getD_eq_getElem?_getD,h.dk]; rfl
theorem jqu (h:Shp l s k d inner n m) (ht:s.tw=false) {R L M:Nat} (hs:s.st=⟨R,L,M⟩):jqs l s=stN inner d n R L M:=by
 unfold jqs
 rw [if_neg (by rw [ht]; simp),h.ax,Int.toNat_natCast,h.inn,h.np,List.getD_eq_getElem?_getD,h.dk,hs]; rfl
theorem jqt (h:Shp l s k d inner n m):(∀ g∈jqs l s,g.ok s.tw)/\((jqs l s).flatMap GrN.i).Perm (List.range n)/\((jqs l s).flatMap GrN.o).Perm (List.range n) /\
 (∀ g∈jqs l s,∀ i∈g.f,i < if s.tw=true then d else s.st.M.toNat*s.st.R.toNat)/\(∀ g∈jqs l s,s.tw=false->g.i.length=s.st.R.toNat):=by
 rcases h.st with ⟨ht,_⟩ | ⟨ht,R,L,M,hs,r1,r2,l1,m1,hd⟩
 ·rw [jqv h ht]
  have hd0:=h.d1.1
  refine ⟨?_,?_,?_,?_,?_⟩
  ·intro g hg
   obtain ⟨i,-,rfl⟩:=List.mem_map.1 hg
   exact ⟨rfl,rfl,λ _=>rfl⟩
  ·rw [List.flatMap_map]
   show ((List.range n).flatMap λ a=>[a]).Perm _
   rw [jcu]
  ·rw [List.flatMap_map]
   show ((List.range n).flatMap λ a=>[a]).Perm _
   rw [jcu]
  ·intro g hg
   obtain ⟨i,-,rfl⟩:=List.mem_map.1 hg
   intro x hx
   rw [if_pos ht]
   simp only [List.mem_singleton] at hx
   rw [hx]; exact Nat.mod_lt _ hd0
  ·intro g hg hf;rw [ht] at hf;cases hf
 ·rw [jqu h ht hs,hs]
  simp only [Int.toNat_natCast]
  refine ⟨?_,zaa h.nm h.i1 hd h.d1.1,zad h.nm h.i1 hd h.d1.1,?_,?_⟩
  ·intro g hg
   obtain ⟨a,b,c⟩:=zab hg
   exact ⟨by omega,by omega,λ h=>by rw [ht] at h;cases h⟩
  ·intro g hg x hx
   rw [if_neg (by rw [ht]; simp)]
   exact za9 hg x hx
  ·intro g hg _;exact (zab hg).1
end
theorem z6k {p w:Int} {R:Nat} (hk:jt3 p=true):∀ m,∀ y∈z6j p w R m,inP p y
 | 0, y, h => by simp [z6j] at h
 | m + 1, y, h => by
   rw [z6j] at h
   rcases List.mem_append.1 h with h | h
   ·exact z6k hk m y h
   ·unfold z1q at h
    obtain ⟨i,_,rfl⟩:=List.mem_map.1 h
    exact jrr hk _ _
theorem z1r {p w:Int} {m:Nat} (hk:jt3 p=true):∀ y∈z1q p w m,inP p y:=by
 intro y h
 unfold z1q at h
 obtain ⟨i,_,rfl⟩:=List.mem_map.1 h
 exact jrr hk _ _
theorem zcf {p:Int} {l:List Ax} {inv:Bool} {s:Stp} (hk:jt3 p=true):∀ y∈zcd p l inv s,inP p y:=by
 intro y h
 unfold zcd at h
 split at h
 ·split at h
  ·obtain ⟨z,_,rfl⟩:=List.mem_map.1 h
   exact jrq hk _ _
  ·exact z1r hk y h
 ·exact z6k hk _ y h
theorem zch {p:Int} {l:List Ax} {inv:Bool} {s:Stp} {k d inner n m:Nat} (h:Shp l s k d inner n m):(zcd p l inv s).length=if s.tw=true then d else s.st.M.toNat*s.st.R.toNat:=by
 unfold zcd
 split
 ·rename_i ht
  have : (j5j l s.ax).N.toNat=d:=by rw [h.dN]; simp
  split
  ·rw [List.length_map,z1s,this]
  ·rw [z1s,this]
 ·rw [z6l]
theorem zaq {p:Int} {l:List Ax} {s:Stp} (h:zam p l s=0):jt3 p=true:=(jqn (zan h).1).1
theorem z62 {p:Int} {l:List Ax} {s:Stp} (h:zam p l s=0) (ht:s.tw=false):(z60 p s.st.R).2=0:=by
 obtain ⟨hg,k,hkl,h0,h1⟩:=zan h
 obtain ⟨hk,_,hall⟩:=jqn hg
 obtain ⟨hr,ho⟩:=hall l[k] (List.getElem_mem hkl)
 obtain ⟨n1,n2,_⟩:=z4k hr
 have wr:∀ n:Int,0<=n->n<=100000->IntKind.i64.wrap n=n:=λ n h1 h2=>by simp [IntKind.wrap,IntKind.bits,IntKind.signed]; omega
 rcases h1 with ⟨h1,_⟩ | ⟨_,h3⟩
 ·rw [ht] at h1;cases h1
 obtain ⟨g1,g2,g3,g4,g5,g6⟩:=zak (zai hr).1 h3
 have hN:(z60 p l[k].N).2=0:=by
  unfold jzi at ho
  by_cases ha:l[k].neg=true
  ·rw [if_pos ha,wr _ (by omega) (by omega)] at ho
   exact z63 ho n1 ⟨2,rfl⟩
  ·rw [if_neg ha] at ho;exact ho
 exact z63 hN (by omega) ⟨s.st.L*s.st.M,by rw [g5,<- Int.mul_assoc,<- Int.mul_assoc,Int.mul_comm s.st.L]⟩
theorem jqr {p:Int} {l:List Ax} {s:Stp} {k d inner n m:Nat} (hs:Shp l s k d inner n m) (h:zam p l s=0) {g:GrN} (hg:g∈jqs l s) (ht:s.tw=false):2<=g.i.length/\g.i.length<=5/\(z60 p g.i.length).2=0:=by
 obtain ⟨_,_,_,_,h5⟩:=jqt hs
 have hr:=z62 h ht
 rcases hs.st with ⟨h1,_⟩ | ⟨_,R,L,M,hst,r1,r2,_⟩
 ·rw [ht] at h1;cases h1
 rw [h5 g hg ht,hst]
 rw [hst] at hr
 simp only [Int.toNat_natCast]
 exact ⟨r1,r2,hr⟩
theorem z27 (p:Int) (inv tw:Bool) (pre:List GrN) (g:GrN) (tab x:List Int):z26 p inv tw (pre++[g]) tab x=z2a p inv tw tab x (z26 p inv tw pre tab x) g:=by
 unfold z26;rw [List.foldl_append]; rfl
end Go.AM
namespace Go.AM
structure Fx where
 ad:Int
 bad:Int
 good:Int
 deriving DecidableEq
def zcv (a b c:Int):(Int×List Nat)×Int:=
 if b=c then (if b=a then ((b,[]),0) else ((b,[0]),0))
 else if c=a then ((c,[1]),0)
 else if a=b then ((a,[2]),0)
 else ((0,[]),10)
def jdl (t:List Int) (b:Nat) (w:Int) (l:List Nat):List Fx:=l.map λ k=>⟨((b+k:Nat):Int),t.getD (b+k) 0,w⟩
def j6y (t:List Int):((Int×Int)×List Fx)×Int:=
 if (zcv (t.getD 0 0) (t.getD 1 0) (t.getD 2 0)).2≠0 then (((0,0),[]),10)
 else if (zcv (t.getD 3 0) (t.getD 4 0) (t.getD 5 0)).2≠0 then (((0,0),[]),10)
 else ((((zcv (t.getD 0 0) (t.getD 1 0) (t.getD 2 0)).1.1,(zcv (t.getD 3 0) (t.getD 4 0) (t.getD 5 0)).1.1),
  jdl t 0 (zcv (t.getD 0 0) (t.getD 1 0) (t.getD 2 0)).1.1 (zcv (t.getD 0 0) (t.getD 1 0) (t.getD 2 0)).1.2++jdl t 3 (zcv (t.getD 3 0) (t.getD 4 0) (t.getD 5 0)).1.1 (zcv (t.getD 3 0) (t.getD 4 0) (t.getD 5 0)).1.2),0)
def jc7 (p d0 d1:Int):Nat->Int->Nat->Option Nat
 | 0, _, _ => none
 | k + 1, s, i => if s = d1 then some i else jc7 p d0 d1 k (j1t p s d0) (i + 1)
def j5q (p:Int) (x:List Int):List Nat:=(List.range x.length).filter λ i=>!decide (x.getD i 0 < p)
def zfd (p:Int) (x:List Int) (d0 d1:Int):Option Nat:=
 if (j5q p x).length=0 then (if d0=0 then none else jc7 p d0 d1 x.length d0 0) else (j5q p x).head?
def zgx (p:Int) (x:List Int) (want:Int×Int):(Int×Int)×Int:=
 if 1 < (j5q p x).length then ((0,0),2)
 else if (j5q p x).length=0/\zbu p x=want then ((0,0),0)
 else match zfd p x (zbg p want.1 (zbu p x).1) (zbg p want.2 (zbu p x).2) with
  | none=>((0,0),2)
  | some i=>if jxc p (zbg p want.1 (zbu p x).1) ((i:Int)+1)≠zbg p want.2 (zbu p x).2 then ((0,0),2) else (((i:Int),j1t p (x.getD i 0) (zbg p want.1 (zbu p x).1)),1)
abbrev sx (q:Int×Int):List Int:=[q.1,q.1,q.1,q.2,q.2,q.2]
def Fx.up (n:Int) (f:Fx):Fx:=⟨f.ad+n,f.bad,f.good⟩
def jcg (p:Int) (c:List Int):(List Int×List Fx)×Int:=
 if jt3 p=false then (([],[]),2)
 else if c.length < 7\/4102 < c.length then (([],[]),6)
 else
  let x:=c.take (c.length-6)
  let q:=j6y (c.drop (c.length-6))
  if q.2≠0 then (([],[]),10)
  else if ¬ (q.1.1.1 < p/\q.1.1.2 < p) then (([],[]),10)
  else
   let w:=zgx p x q.1.1
   if 1 < w.2 then (([],[]),10)
   else if w.2=1 then ((x.set w.1.1.toNat w.1.2++sx q.1.1,⟨w.1.1,x.getD w.1.1.toNat 0,w.1.2⟩ :: q.1.2.map (Fx.up x.length)),0)
   else ((x++sx q.1.1,q.1.2.map (Fx.up x.length)),0)
theorem zbv {p:Int} {x:List Int} {i:Nat} (hi:i < x.length) (v:Int):zbu p (x.set i v)=((x.sum+(v-x.getD i 0)) % p,(j84 (λ i=>(i:Int)+1) 0 x+(v-x.getD i 0)*((i:Int)+1)) % p):=by
 unfold zbu
 rw [<- j85 _ 0,j87 _ _ _ _ _ hi,j85,j87 _ _ _ _ _ hi]
 simp
theorem je9 {p:Int} {x:List Int} (hx:∀ y∈x,inP p y) {i:Nat} (hi:i < x.length):inP p (x.getD i 0):=by
 rw [List.getD_eq_getElem?_getD,List.getElem?_eq_getElem hi]; exact hx _ (List.getElem_mem _)
theorem j5r {p:Int} {x:List Int} (h:∀ j < x.length,x.getD j 0 < p):j5q p x=[]:=by
 unfold j5q
 rw [List.filter_eq_nil_iff]
 intro j hj
 have:=h j (List.mem_range.1 hj)
 rw [decide_eq_true this]; simp
theorem zh0 {p:Int} {x:List Int} (hx:∀ y∈x,inP p y):zgx p x (zbu p x)=((0,0),0):=by
 have hb:=j5r (p:=p) (x:=x) λ j hj=>(je9 hx hj).2
 unfold zgx
 rw [hb]; simp
theorem j73 (q:Int×Int):j6y (sx q)=((q,[]),0):=by
 simp [j6y,zcv,jdl]
theorem jck {p:Int} (hk:jt3 p=true) {x:List Int} (hx:∀ y∈x,inP p y) (h1:1<=x.length/\x.length<=4096):jcg p (x++sx (zbu p x))=((x++sx (zbu p x),[]),0):=by
 have hl:(x++sx (zbu p x)).length=x.length+6:=by simp
 have hq:(zbu p x).1 < p/\(zbu p x).2 < p:=⟨(jrp hk _).2,(jrp hk _).2⟩
 unfold jcg
 rw [if_neg (by rw [hk]; simp),if_neg (by rw [hl]; omega),hl]
 dsimp only
 rw [show x.length+6-6=x.length by omega,List.take_left,List.drop_left,j73,zh0 hx]
 simp [hq]
theorem jwo {p:Int} {x:List Int} {j:Nat}:j∈j5q p x↔j < x.length/\¬ x.getD j 0 < p:=by
 simp [j5q]
theorem jc8 {p d0 d1:Int}:∀ (k:Nat) (s:Int) (j i:Nat),jc7 p d0 d1 k s j=some i->j<=i/\i < j+k
 | 0, s, j, i, h => by simp [jc7] at h
 | k + 1, s, j, i, h => by
   unfold jc7 at h
   by_cases hc:s=d1
   ·rw [if_pos hc] at h;simp at h;omega
   ·rw [if_neg hc] at h
    have:=jc8 k _ _ _ h
    omega
theorem zh1 {p:Int} (hk:jt3 p=true) {x:List Int} (h0:∀ y∈x,0<=y) {w:Int×Int} (hw:inP p w.1/\inP p w.2) (h1:(zgx p x w).2<=1) :
 ((zgx p x w).2=0/\(∀ y∈x,inP p y)/\zbu p x=w)\/((zgx p x w).2=1/\∃ i:Nat,i < x.length/\(zgx p x w).1.1=i/\inP p (zgx p x w).1.2/\(∀ y∈x.set i (zgx p x w).1.2,inP p y)/\zbu p (x.set i (zgx p x w).1.2)=w):=by
 have hall:∀ j:Nat,j < x.length->j∉j5q p x->inP p (x.getD j 0):=λ j hj hn=>by
  have h2:x.getD j 0 < p:=Classical.byContradiction λ h=>hn (jwo.2 ⟨hj,h⟩)
  refine ⟨?_,h2⟩
  rw [List.getD_eq_getElem?_getD,List.getElem?_eq_getElem hj]
  exact h0 _ (List.getElem_mem _)
 by_cases c1:1 < (j5q p x).length
 ·unfold zgx at h1;rw [if_pos c1] at h1;simp at h1
 by_cases c2:(j5q p x).length=0/\zbu p x=w
 ·left
  have hb:=List.eq_nil_of_length_eq_zero c2.1
  refine ⟨by unfold zgx;rw [if_neg c1,if_pos c2],λ y hy=>?_,c2.2⟩
  obtain ⟨j,hj,rfl⟩:=List.mem_iff_getElem.1 hy
  have:=hall j hj (by rw [hb]; simp)
  rw [List.getD_eq_getElem?_getD,List.getElem?_eq_getElem hj] at this
  exact this
 cases hi:zfd p x (zbg p w.1 (zbu p x).1) (zbg p w.2 (zbu p x).2) with
 | none => unfold zgx at h1; rw [if_neg c1, if_neg c2, hi] at h1; simp at h1
 | some i =>
   by_cases c3:jxc p (zbg p w.1 (zbu p x).1) ((i:Int)+1)≠zbg p w.2 (zbu p x).2
   ·unfold zgx at h1;rw [if_neg c1,if_neg c2,hi] at h1;dsimp only at h1;rw [if_pos c3] at h1;simp at h1
   right
   have hr:zgx p x w=(((i:Int),j1t p (x.getD i 0) (zbg p w.1 (zbu p x).1)),1):=by
    unfold zgx;rw [if_neg c1,if_neg c2,hi]; dsimp only;rw [if_neg c3]
   have hil:i < x.length/\∀ j,j≠i->j∉j5q p x:=by
    unfold zfd at hi
    by_cases c4:(j5q p x).length=0
    ·rw [if_pos c4] at hi
     split at hi
     ·cases hi
     ·have:=jc8 _ _ _ _ hi
      exact ⟨by omega,λ j _=>by rw [List.eq_nil_of_length_eq_zero c4]; simp⟩
    ·rw [if_neg c4] at hi
     obtain ⟨a,ha⟩:=List.length_eq_one_iff.1 (show (j5q p x).length=1 by omega)
     rw [ha] at hi
     simp at hi
     subst hi
     have : a∈j5q p x:=by rw [ha]; simp
     exact ⟨(jwo.1 this).1,λ j hj=>by rw [ha]; simpa using hj⟩
   have c3:jxc p (zbg p w.1 (zbu p x).1) ((i:Int)+1)=zbg p w.2 (zbu p x).2:=Classical.byContradiction c3
   rw [hr]
   refine ⟨rfl,i,hil.1,rfl,jrn hk _ _,λ y hy=>?_,?_⟩
   ·obtain ⟨j,hj,rfl⟩:=List.mem_iff_getElem.1 hy
    rw [List.getElem_set]
    split
    ·exact jrn hk _ _
    ·rename_i hne
     rw [List.length_set] at hj
     have:=hall j hj (hil.2 j (Ne.symm hne))
     rw [List.getD_eq_getElem?_getD,List.getElem?_eq_getElem hj] at this
     exact this
   ·rw [zbv hil.1]
    dsimp only
    have g1:Eqm p (j1t p (x.getD i 0) (zbg p w.1 (zbu p x).1)-x.getD i 0) (w.1-x.sum):=by
     refine ((jb8 hk _ _).sub .refl).trans ?_
     rw [show ∀ a b:Int,a+b-a=b by intro a b;omega]
     refine (jbb hk _ _).trans ?_
     exact Eqm.refl.sub Eqm.mod
    have g2:Eqm p ((j1t p (x.getD i 0) (zbg p w.1 (zbu p x).1)-x.getD i 0)*((i:Int)+1)) (w.2-j84 (λ i=>(i:Int)+1) 0 x):=by
     have a1:Eqm p (j1t p (x.getD i 0) (zbg p w.1 (zbu p x).1)-x.getD i 0) (zbg p w.1 (zbu p x).1):=by
      refine ((jb8 hk _ _).sub .refl).trans ?_
      rw [show ∀ a b:Int,a+b-a=b by intro a b;omega]; exact .refl
     refine (a1.mul .refl).trans ?_
     refine (jb9 hk _ _).symm.trans ?_
     rw [c3]
     refine (jbb hk _ _).trans ?_
     exact Eqm.refl.sub Eqm.mod
    apply Prod.ext
    ·refine jro (jrp hk _) hw.1 (Eqm.mod.trans ((Eqm.refl.add g1).trans ?_))
     rw [show ∀ a b:Int,a+(b-a)=b by intro a b;omega]; exact .refl
    ·refine jro (jrp hk _) hw.2 (Eqm.mod.trans ((Eqm.refl.add g2).trans ?_))
     rw [show ∀ a b:Int,a+(b-a)=b by intro a b;omega]; exact .refl
def jwv (c:List Int) (l:List Fx):List Int:=l.foldl (λ w f=>w.set f.ad.toNat f.good) c
theorem jww {x:List Int}:∀ (l:List Fx) (t:List Int),(∀ f∈l,0<=f.ad)->jwv (x++t) (l.map (Fx.up x.length))=x++jwv t l
 | [], t, _ => rfl
 | f :: l, t, h => by
   have h0:=h f (by simp)
   have e1:jwv (x++t) ((f :: l).map (Fx.up x.length))=jwv ((x++t).set (f.ad+(x.length:Int)).toNat f.good) (l.map (Fx.up x.length)):=rfl
   have e2:jwv t (f :: l)=jwv (t.set f.ad.toNat f.good) l:=rfl
   rw [e1,e2,<- jww l _ λ g hg=>h g (by simp [hg])]
   rw [List.set_append,if_neg (by omega),show (f.ad+(x.length:Int)).toNat-x.length=f.ad.toNat by omega]
theorem zcy {a b c w:Int} {l:List Nat} (h:zcv a b c=((w,l),0)):(l=[]/\a=w/\b=w/\c=w)\/(l=[0]/\b=w/\c=w)\/(l=[1]/\a=w/\c=w)\/(l=[2]/\a=w/\b=w):=by
 unfold zcv at h
 split at h
 ·rename_i h1
  split at h
  ·rename_i h2
   simp only [Prod.mk.injEq,and_true] at h;left;exact ⟨h.2.symm,by omega,h.1,by omega⟩
  ·simp only [Prod.mk.injEq,and_true] at h;right;left;exact ⟨h.2.symm,h.1,by omega⟩
 ·split at h
  ·rename_i h2
   simp only [Prod.mk.injEq,and_true] at h;right;right;left;exact ⟨h.2.symm,by omega,h.1⟩
  ·split at h
   ·rename_i h2
    simp only [Prod.mk.injEq,and_true] at h;right;right;right;exact ⟨h.2.symm,h.1,by omega⟩
   ·simp at h
theorem z98 {t:List Int} (h:t.length=6):∃ a b c d e f,t=[a,b,c,d,e,f]:=by
 match t,h with
 | [a, b, c, d, e, f], _ => exact ⟨a, b, c, d, e, f, rfl⟩
theorem j74 {t:List Int} (ht:t.length=6) {q:Int×Int} {l:List Fx} (h:j6y t=((q,l),0)):l.length<=2/\(∀ f∈l,0<=f.ad/\f.ad < 6/\(f.good=q.1\/f.good=q.2))/\jwv t l=sx q/\q.1∈t/\q.2∈t:=by
 obtain ⟨a,b,c,d,e,f,rfl⟩:=z98 ht
 unfold j6y at h
 simp only [List.getD_cons_zero,List.getD_cons_succ] at h
 generalize ht1:zcv a b c=u1 at h
 generalize ht2:zcv d e f=u2 at h
 obtain ⟨⟨w1,l1⟩,e1⟩:=u1
 obtain ⟨⟨w2,l2⟩,e2⟩:=u2
 dsimp only at h
 split at h
 ·simp at h
 rename_i h1
 split at h
 ·simp at h
 rename_i h2
 have h1:e1=0:=Classical.byContradiction h1
 have h2:e2=0:=Classical.byContradiction h2
 subst h1 h2
 simp only [Prod.mk.injEq,and_true] at h
 obtain ⟨rfl,rfl⟩:=h
 rcases zcy ht1 with ⟨rfl,rfl,rfl,rfl⟩ | ⟨rfl,rfl,rfl⟩ | ⟨rfl,rfl,rfl⟩ | ⟨rfl,rfl,rfl⟩ <;> rcases zcy ht2 with ⟨rfl,rfl,rfl,rfl⟩ | ⟨rfl,rfl,rfl⟩ | ⟨rfl,rfl,rfl⟩ | ⟨rfl,rfl,rfl⟩ <;> simp [jdl,jwv]
theorem jcl {p:Int} {c:List Int} (hc:∀ y∈c,0<=y) {good:List Int} {fx:List Fx} (h:jcg p c=((good,fx),0)) :
 ∃ x:List Int,jt3 p=true/\x.length+6=c.length/\1<=x.length/\x.length<=4096/\(∀ y∈x,inP p y)/\good=x++sx (zbu p x)/\fx.length<=3/\(∀ f∈fx,0<=f.ad/\f.ad < c.length/\inP p f.good)/\jwv c fx=good:=by
 unfold jcg at h
 split at h
 ·simp at h
 rename_i hk
 have hk:jt3 p=true:=by simpa using hk
 split at h
 ·simp at h
 rename_i hl
 dsimp only at h
 have hx0:c.take (c.length-6)++c.drop (c.length-6)=c:=List.take_append_drop _ _
 have hxl:(c.take (c.length-6)).length+6=c.length:=by simp;omega
 have htl:(c.drop (c.length-6)).length=6:=by simp;omega
 have hx1:∀ y∈c.take (c.length-6),0<=y:=λ y hy=>hc y (List.mem_of_mem_take hy)
 generalize c.take (c.length-6)=x at h hx0 hxl hx1
 generalize c.drop (c.length-6)=t at h hx0 htl
 subst hx0
 have hlen:(x++t).length=x.length+6:=by simp [htl]
 generalize hq:j6y t=Q at h
 obtain ⟨⟨q,l⟩,z⟩:=Q
 have hpt:∀ y∈t,0<=y:=λ y hy=>hc y (by simp [hy])
 dsimp only at h
 split at h
 ·simp at h
 rename_i hz
 have hz:z=0:=Classical.byContradiction hz
 subst hz
 split at h
 ·simp at h
 rename_i hin
 have hin:q.1 < p/\q.2 < p:=Classical.byContradiction hin
 obtain ⟨b1,b2,b3,b4,b5⟩:=j74 htl hq
 have hqp:inP p q.1/\inP p q.2:=⟨⟨hpt _ b4,hin.1⟩,⟨hpt _ b5,hin.2⟩⟩
 have hfx:∀ f∈l.map (Fx.up x.length),0<=f.ad/\f.ad < (x++t).length/\inP p f.good:=λ f hf=>by
  obtain ⟨g,hg,rfl⟩:=List.mem_map.1 hf
  obtain ⟨g1,g2,g3⟩:=b2 g hg
  refine ⟨by show 0<=g.ad+_;omega,by show g.ad+_ < _;rw [hlen]; omega,?_⟩
  show inP p g.good
  rcases g3 with g3 | g3 <;> rw [g3]
  ·exact hqp.1
  ·exact hqp.2
 split at h
 ·simp at h
 rename_i hm
 have hs:=zh1 hk hx1 hqp (by omega)
 split at h
 ·rename_i h1
  rcases hs with ⟨h2,_⟩ | ⟨_,i,hi,hi1,hi2,hi3,hi4⟩
  ·omega
  simp only [Prod.mk.injEq,and_true] at h
  obtain ⟨rfl,rfl⟩:=h
  rw [hi1]
  refine ⟨x.set i (zgx p x q).1.2,hk,by rw [List.length_set,hlen],by rw [List.length_set]; omega,by rw [List.length_set]; omega,hi3,?_,by simp;omega,λ f hf=>?_,?_⟩
  ·rw [hi4,Int.toNat_natCast]
  ·rcases List.mem_cons.1 hf with rfl | hf
   ·exact ⟨by dsimp only;omega,by dsimp only;rw [hlen]; omega,hi2⟩
   ·exact hfx f hf
  ·show jwv ((x++t).set _ _) _=_
   rw [Int.toNat_natCast,List.set_append,if_pos hi]
   have:=jww (x:=x.set i (zgx p x q).1.2) l t λ f hf=>(b2 f hf).1
   rw [List.length_set] at this
   rw [this,b3]
 ·rename_i h1
  obtain ⟨_,h2,h3⟩:=hs.resolve_right λ h2=>h1 h2.1
  simp only [Prod.mk.injEq,and_true] at h
  obtain ⟨rfl,rfl⟩:=h
  refine ⟨x,hk,by rw [hlen],by omega,by omega,h2,by rw [h3],by simp;omega,hfx,?_⟩
  rw [jww _ _ λ f hf=>(b2 f hf).1,b3]
theorem jea {l:List Int} (h:∀ y∈l,0<=y) (i:Nat):0<=l.getD i 0:=by
 rw [List.getD_eq_getElem?_getD]
 cases e:l[i]? with
 | none => exact Int.le_refl 0
 | some v => exact h v (List.mem_of_getElem? e)
theorem zgz {p:Int} (hk:jt3 p=true) {x:List Int} (h0:∀ y∈x,0<=y) {want:Int×Int} (h:(zgx p x want).2=1):x.getD (zgx p x want).1.1.toNat 0≠(zgx p x want).1.2:=by
 have hp:=jt7 hk
 unfold zgx at h ⊢
 by_cases c1:1 < (j5q p x).length
 ·rw [if_pos c1] at h;simp at h
 rw [if_neg c1] at h ⊢
 by_cases c2:(j5q p x).length=0/\zbu p x=want
 ·rw [if_pos c2] at h;simp at h
 rw [if_neg c2] at h ⊢
 generalize hd:zbg p want.1 (zbu p x).1=d0 at h ⊢
 generalize zbg p want.2 (zbu p x).2=d1 at h ⊢
 cases hw:zfd p x d0 d1 with
 | none => rw [hw] at h; simp at h
 | some i =>
   rw [hw] at h
   dsimp only at h ⊢
   by_cases c3:jxc p d0 ((i:Int)+1)≠d1
   ·rw [if_pos c3] at h;simp at h
   rw [if_neg c3]
   dsimp only
   rw [Int.toNat_natCast]
   have hd0:0<=d0/\d0 < p:=by
    rw [<- hd]; unfold zbg;rw [if_pos hk]
    exact ⟨Int.emod_nonneg _ (by omega),Int.emod_lt_of_pos _ (by omega)⟩
   unfold j1t;rw [if_pos hk]
   unfold zfd at hw
   by_cases c4:(j5q p x).length=0
   ·rw [if_pos c4] at hw
    by_cases c5:d0=0
    ·rw [if_pos c5] at hw;cases hw
    rw [if_neg c5] at hw
    have hi:=jc8 _ _ _ _ hw
    have hx:x.getD i 0 < p:=by
     refine Decidable.byContradiction λ hn=>?_
     have : i∈j5q p x:=jwo.2 ⟨by omega,hn⟩
     rw [List.length_eq_zero_iff.1 c4] at this;cases this
    have hx0:0<=x.getD i 0:=jea h0 i
    intro e
    have he:(x.getD i 0+d0) % p=x.getD i 0:=e.symm
    by_cases c6:x.getD i 0+d0 < p
    ·rw [Int.emod_eq_of_lt (by omega) c6] at he;omega
    ·rw [show x.getD i 0+d0=(x.getD i 0+d0-p)+p by omega,Int.add_emod_right,Int.emod_eq_of_lt (by omega) (by omega)] at he;omega
   ·rw [if_neg c4] at hw
    have hm:i∈j5q p x:=List.mem_of_head? hw
    have h1:=(jwo.1 hm).2
    have h2:=Int.emod_lt_of_pos (x.getD i 0+d0) (b:=p) (by omega)
    omega
theorem zcx {t:List Int} {b:Nat}:∀ f∈jdl t b (zcv (t.getD b 0) (t.getD (b+1) 0) (t.getD (b+2) 0)).1.1 (zcv (t.getD b 0) (t.getD (b+1) 0) (t.getD (b+2) 0)).1.2,f.bad≠f.good:=by
 intro f hf
 unfold jdl at hf
 obtain ⟨k,hk,rfl⟩:=List.mem_map.1 hf
 unfold zcv at hk ⊢
 dsimp only
 split at hk
 ·split at hk
  ·cases hk
  ·rename_i h1 h2
   rw [if_pos h1,if_neg h2]
   obtain rfl:=List.mem_singleton.1 hk
   exact λ e=>h2 e.symm
 ·split at hk
  ·rename_i h1 h2
   rw [if_neg h1,if_pos h2]
   obtain rfl:=List.mem_singleton.1 hk
   exact h1
  ·split at hk
   ·rename_i h1 h2 h3
    rw [if_neg h1,if_neg h2,if_pos h3]
    obtain rfl:=List.mem_singleton.1 hk
    exact h2
   ·cases hk
theorem j72 (t:List Int):∀ f∈(j6y t).1.2,f.bad≠f.good:=by
 unfold j6y
 split
 ·intro f hf;cases hf
 ·split
  ·intro f hf;cases hf
  ·intro f hf
   dsimp only at hf
   rcases List.mem_append.1 hf with hf | hf
   ·exact zcx (b:=0) f hf
   ·exact zcx (b:=3) f hf
theorem jcj {p:Int} {c:List Int} (h0:∀ y∈c,0<=y):∀ f∈(jcg p c).1.2,f.bad≠f.good:=by
 unfold jcg
 split
 ·intro f hf;cases hf
 ·rename_i hk
  have hk:jt3 p=true:=by simpa using hk
  split
  ·intro f hf;cases hf
  ·dsimp only
   split
   ·intro f hf;cases hf
   ·split
    ·intro f hf;cases hf
    ·have hc:∀ f∈(j6y (c.drop (c.length-6))).1.2.map (Fx.up (c.take (c.length-6)).length),f.bad≠f.good:=by
      intro f hf
      obtain ⟨g,hg,rfl⟩:=List.mem_map.1 hf
      exact j72 _ g hg
     split
     ·intro f hf;cases hf
     ·split
      ·rename_i h1
       intro f hf
       rcases List.mem_cons.1 hf with rfl | hf
       ·exact zgz hk (λ y hy=>h0 y (List.mem_of_mem_take hy)) h1
       ·exact hc f hf
      ·exact hc
end Go.AM
