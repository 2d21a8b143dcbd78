/-
  Part of the proof of a law: what the functions compute. Conditions: none.
-/
import Derived.Test.YtpecnaacgkgjmaaGreatDoorVF4
import Derived.Test.YtpecnaacgkgjmaaGreatDoorVX1
import Derived.Test.YtpecnaacgkgjmaaGreatDoorVP1
set_option linter.unusedVariables false
set_option linter.unusedSectionVars false
set_option linter.unusedSimpArgs false
set_option linter.deprecated false
namespace Go.AM
open Go Go.Proofs.YtpecnaacgkgjmaaGreatDoor
structure En where
 e:Ev
 at_:Int
abbrev En.cells (x:En):List Value:=[vI x.e.it,vI x.e.tr,vI x.e.wi,vI x.e.ti,vI x.e.ad,vU x.e.ma,vI x.at_]
abbrev En.val (x:En):Value:=vA [vI x.e.it,vI x.e.tr,vI x.e.wi,vI x.e.ti,vI x.e.ad,vU x.e.ma,vI x.at_]
def En.tk (x:En):Int:=x.e.ti
def jv5 (x y:En):Bool:=if x.e.ti=y.e.ti then decide (x.at_ < y.at_) else decide (x.e.ti < y.e.ti)
theorem jv7 {x y:En} (h:jv5 x y=true):x.tk<=y.tk:=by
 unfold jv5 at h
 unfold En.tk
 split at h
 ·omega
 ·simp at h;omega
theorem jv6 {x y:En} (h:jv5 x y=false):y.tk<=x.tk:=by
 unfold jv5 at h
 unfold En.tk
 split at h
 ·omega
 ·simp at h;omega
theorem jap {S:St} {b:Nat} {l:List En} {rest:List Value} {t:TypeId} {g:Option Nat} (h:S[b]? = some (.cells (l.flatMap En.cells++rest) t g)) {i:Nat} (hi:i < l.length) (k:Nat) {v:Value} (hv:(En.cells l[i])[k]? = some v):S.cell ⟨b,i*7+k,none⟩=some v:=by
 have h1:=jct (e:=En.cells) (w:=7) (λ _=>rfl) l i k hi v hv
 rw [j6u h,List.getElem?_append_left (List.getElem?_eq_some_iff.1 h1).1,h1]
theorem en7 {S:St} {b:Nat} {l:List En} {rest:List Value} {t:TypeId} {g:Option Nat} (h:S[b]? = some (.cells (l.flatMap En.cells++rest) t g)) {i:Nat} (hi:i < l.length) :
 S.cell ⟨b,i*7,none⟩=some (vI l[i].e.it)/\S.cell ⟨b,i*7+1,none⟩=some (vI l[i].e.tr)/\S.cell ⟨b,i*7+2,none⟩=some (vI l[i].e.wi)/\S.cell ⟨b,i*7+3,none⟩=some (vI l[i].e.ti)/\S.cell ⟨b,i*7+4,none⟩=some (vI l[i].e.ad)/\S.cell ⟨b,i*7+5,none⟩=some (vU l[i].e.ma)/\S.cell ⟨b,i*7+6,none⟩=some (vI l[i].at_):=
 ⟨jap h hi 0 rfl,jap h hi 1 rfl,jap h hi 2 rfl,jap h hi 3 rfl,jap h hi 4 rfl,jap h hi 5 rfl,jap h hi 6 rfl⟩
theorem z9s {c r vs:List Value} {k:Nat} (h:k+vs.length<=c.length):splice (c++r) k vs=splice c k vs++r:=by
 unfold splice
 rw [List.take_append_of_le_length (by omega),List.drop_append_of_le_length (by omega)]
 simp
theorem jar {l:List En} {rest:List Value} {i:Nat} (hi:i < l.length) (x:En):splice (l.flatMap En.cells++rest) (i*7) (En.cells x)=(l.set i x).flatMap En.cells++rest:=by
 have hl:=jcv (e:=En.cells) (w:=7) (λ _=>rfl) l
 rw [z9s,jcx (w:=7) (λ _=>rfl) l i x hi]
 rw [hl]; show i*7+7<=l.length*7;omega
theorem jva {S:St} {b:Nat} {l:List En} {rest:List Value} {t:TypeId} {g:Option Nat} (h:S[b]? = some (.cells (l.flatMap En.cells++rest) t g)) {n c:Nat} (hn:l.length<=n) {i j:Nat} (hi:i < l.length) (hj:j < l.length) :
 Gv (jfg [.slice (some ⟨b,0,none⟩) n c,vI i,vI j]) S (vB (jv5 l[i] l[j])):=by
 refine .of ?_
 rw [jfh]
 obtain ⟨a0,a1,a2,a3,a4,a5,a6⟩:=en7 h hi
 obtain ⟨b0,b1,b2,b3,b4,b5,b6⟩:=en7 h hj
 simp only [wps,a3,a6,b3,b6]
 unfold jv5
 refine ⟨by omega,by omega,λ e=>⟨by omega,by omega,?_⟩,λ e=>⟨by omega,by omega,?_⟩⟩
 ·rw [if_neg e]
 ·rw [if_pos e]
theorem jaq (l:List En):(l.flatMap En.cells).length=l.length*7:=jcv (e:=En.cells) (w:=7) (λ _=>rfl) l
theorem zc0 {S:St} {b:Nat} {l:List En} {rest:List Value} {t:TypeId} {g:Option Nat} (h:S[b]? = some (.cells (l.flatMap En.cells++rest) t g)) {n c:Nat} (hn:l.length<=n) {i j:Nat} (hi:i < l.length) (hj:j < l.length) :
 WP (jfp [.slice (some ⟨b,0,none⟩) n c,vI i,vI j]) S λ v S'=>v=vT []/\S'=S.set b (.cells ((zc1 l i j hi hj).flatMap En.cells++rest) t g):=by
 rw [jfq]
 obtain ⟨a0,a1,a2,a3,a4,a5,a6⟩:=en7 h hi
 obtain ⟨b0,b1,b2,b3,b4,b5,b6⟩:=en7 h hj
 have hl:=jaq l
 have hb:=z1y h
 have e1:splice (l.flatMap En.cells++rest) (i*7) [vI l[j].e.it,vI l[j].e.tr,vI l[j].e.wi,vI l[j].e.ti,vI l[j].e.ad,vU l[j].e.ma,vI l[j].at_]=(l.set i l[j]).flatMap En.cells++rest:=jar hi l[j]
 have e2:splice ((l.set i l[j]).flatMap En.cells++rest) (j*7) [vI l[i].e.it,vI l[i].e.tr,vI l[i].e.wi,vI l[i].e.ti,vI l[i].e.ad,vU l[i].e.ma,vI l[i].at_]=(zc1 l i j hi hj).flatMap En.cells++rest:=jar (by simpa using hj) l[i]
 simp only [wps,a0,a1,a2,a3,a4,a5,a6,b0,b1,b2,b3,b4,b5,b6,h]
 refine ⟨by omega,by omega,by omega,by simp [hl]; omega,by omega,?_⟩
 rw [e1]
 refine ⟨_,_,_,List.getElem?_set_self hb,⟨?_,?_⟩⟩
 ·rw [List.length_append,jaq,List.length_set]; omega
 ·rw [e2,List.set_set]
theorem jv9 (C : FuncId → List Value → M Value) (a : Addr) (x y : Value) : jwy C "Less" (.iface 275 (.pointer (some a))) [x, y] = M.bind (ld a) fun v => M.bind (asS v) fun s => C 299 [.slice s.a s.n s.c, x, y] := by
 rw [jsb]; kernel_rfl
theorem zbz (C : FuncId → List Value → M Value) (a : Addr) (x y : Value) : jwy C "Swap" (.iface 275 (.pointer (some a))) [x, y] = M.bind (ld a) fun v => M.bind (asS v) fun s => C 300 [.slice s.a s.n s.c, x, y] := by
 rw [jse]; kernel_rfl
theorem jv2 (C : FuncId → List Value → M Value) (a : Addr) : jwy C "Len" (.iface 275 (.pointer (some a))) [] = M.bind (ld a) fun v => M.bind (asS v) fun s => C 298 [.slice s.a s.n s.c] := by
 rw [jsa]; kernel_rfl
abbrev qP (a:Addr):Value:=.iface 275 (.pointer (some a))
theorem z06 {j:Nat} (h1:1<=j) (h2:j<=100000):wI ((wI ((j:Int)-1)).tdiv 2)=(((j-1) / 2:Nat):Int):=by
 rw [wI_ (n:=(j:Int)-1) (by omega) (by omega)]
 have e:((j:Int)-1).tdiv 2=(((j-1) / 2:Nat):Int):=by
  have : (j:Int)-1=((j-1:Nat):Int):=by omega
  rw [this]; rfl
 rw [e,wI_ (by omega) (by omega)]
structure HL (C:FuncId->List Value->M Value):Prop where
 l:∀ a,C (299:Nat) a=jfg a
 s:∀ a,C (300:Nat) a=jfp a
 n:∀ a,C (298:Nat) a=jfd a
 u:∀ a,C (302:Nat) a=jfm a
 o:∀ a,C (301:Nat) a=jfj a
section
variable {C:FuncId->List Value->M Value} {S:St} {ba bq:Nat} {l:List En} {rest:List Value} {t t0:TypeId} {g g0:Option Nat} {n c:Nat} {put:Value}
theorem jv8 (hC:HL C) (hb:S[ba]? = some (.cells [.slice (some ⟨bq,0,none⟩) n c,put] t0 g0)) (h:S[bq]? = some (.cells (l.flatMap En.cells++rest) t g)) (hn:l.length<=n) {i j:Nat} (hi:i < l.length) (hj:j < l.length) :
 Gv (jwy C "Less" (qP ⟨ba, 0, none⟩) [vI i, vI j]) S (vB (jv5 l[i] l[j])) := by
 refine .of ?_
 rw [jv9]
 simp only [wps,j6u hb,List.getElem?_cons_zero,hC.l,(jva h hn hi hj).wp]
theorem zbx (hC:HL C) (hb:S[ba]? = some (.cells [.slice (some ⟨bq,0,none⟩) n c,put] t0 g0)) (h:S[bq]? = some (.cells (l.flatMap En.cells++rest) t g)) (hn:l.length<=n) {i j:Nat} (hi:i < l.length) (hj:j < l.length) :
 WP (jwy C "Swap" (qP ⟨ba, 0, none⟩) [vI i, vI j]) S fun v S' => v = vT [] ∧ S' = S.set bq (.cells ((zc1 l i j hi hj).flatMap En.cells ++ rest) t g) := by
 rw [zbz]
 simp only [wps,j6u hb,List.getElem?_cons_zero,hC.s]
 exact zc0 h hn hi hj
theorem zeq (hC:HL C) (hb:S[ba]? = some (.cells [.slice (some ⟨bq,0,none⟩) n c,put] t0 g0)) (hne:ba≠bq) (h:S[bq]? = some (.cells (l.flatMap En.cells++rest) t g)) (hn:l.length<=n) (hsz:l.length<=100000) {j:Nat} (hj:j < l.length) (hp:HUp (fT En.tk l) l.length j) :
 WP (jh3 C [qP ⟨ba,0,none⟩,vI j]) S λ v S'=>v=vT []/\∃ l',l'.Perm l/\HP (fT En.tk l') l'.length/\S'=S.set bq (.cells (l'.flatMap En.cells++rest) t g):=by
 rw [jh4]
 simp only [wps]
 have hbq:=z1y h
 refine zgd (λ st S' m=>∃ (j:Nat) (l':List En),st=[vI j]/\m=j/\j < l'.length/\l'.Perm l/\HUp (fT En.tk l') l'.length j/\S'=S.set bq (.cells (l'.flatMap En.cells++rest) t g)) ?_ j _ _ ⟨j,l,rfl,rfl,hj,.refl _,hp,(z82 h).symm⟩
 rintro st S' m ⟨j,l',rfl,rfl,hj,hpm,hup,rfl⟩
 have hlen:=hpm.length_eq
 have h':(S.set bq (.cells (l'.flatMap En.cells++rest) t g))[bq]? = some (.cells (l'.flatMap En.cells++rest) t g):=List.getElem?_set_self hbq
 have hb':(S.set bq (.cells (l'.flatMap En.cells++rest) t g))[ba]? = some (.cells [.slice (some ⟨bq,0,none⟩) n c,put] t0 g0):=by rw [List.getElem?_set_ne (Ne.symm hne)]; exact hb
 rcases Nat.eq_zero_or_pos m with h0 | h0
 ·subst h0
  have e:wI ((wI (((0:Nat):Int)-1)).tdiv 2)=0:=by decide
  simp only [wps,e]
  refine ⟨λ _=>⟨l',hpm,hup.stop (.inl rfl),rfl⟩,λ h=>by simp at h⟩
 ·have e:=z06 h0 (by omega)
  have hi:(m-1) / 2 < l'.length:=by omega
  simp only [wps,e,(jv8 hC hb' h' (by omega) hj hi).wp]
  refine ⟨λ q=>by omega,λ _=>⟨λ hl=>⟨l',hpm,hup.stop (.inr ?_),rfl⟩,λ hl=>?_⟩⟩
  ·have:=jv6 hl
   rw [jbs hj,jbs hi]; exact this
  ·refine (zbx hC hb' h' (by omega) hi hj).mono ?_
   rintro _ S2 ⟨rfl,rfl⟩
   simp only [wps]
   have hle:fT En.tk l' m<=fT En.tk l' ((m-1) / 2):=by rw [jbs hj,jbs hi]; exact jv7 hl
   refine ⟨(m-1) / 2,by omega,(m-1) / 2,zc1 l' _ _ hi hj,rfl,rfl,by rw [zc3]; omega,(zc4 hi hj).trans hpm,?_,by rw [List.set_set]⟩
   rw [jbt,zc3]
   exact hup.step h0 hj hle
theorem ja6 (hC:HL C) (hb:S[ba]? = some (.cells [.slice (some ⟨bq,0,none⟩) n c,put] t0 g0)) (hne:ba≠bq) (h:S[bq]? = some (.cells (l.flatMap En.cells++rest) t g)) (hn:l.length<=n) (hsz:l.length<=100000) (hp:HDn (fT En.tk l) l.length 0) :
 WP (jh0 C [qP ⟨ba,0,none⟩,vI 0,vI l.length]) S λ v S'=>(∃ b,v=vB b)/\∃ l',l'.Perm l/\HP (fT En.tk l') l'.length/\S'=S.set bq (.cells (l'.flatMap En.cells++rest) t g):=by
 rw [jh1]
 simp only [wps]
 have hbq:=z1y h
 refine zgd (λ st S' m=>∃ (i:Nat) (l':List En),st=[vI i]/\m=l.length+1-i/\i<=l.length/\l'.Perm l/\HDn (fT En.tk l') l'.length i/\S'=S.set bq (.cells (l'.flatMap En.cells++rest) t g)) ?_ (l.length+1) _ _ ⟨0,l,rfl,by omega,by omega,.refl _,hp,(z82 h).symm⟩
 rintro st S' m ⟨i,l',rfl,rfl,hi,hpm,hdn,rfl⟩
 have hlen:=hpm.length_eq
 have h':(S.set bq (.cells (l'.flatMap En.cells++rest) t g))[bq]? = some (.cells (l'.flatMap En.cells++rest) t g):=List.getElem?_set_self hbq
 have hb':(S.set bq (.cells (l'.flatMap En.cells++rest) t g))[ba]? = some (.cells [.slice (some ⟨bq,0,none⟩) n c,put] t0 g0):=by rw [List.getElem?_set_ne (Ne.symm hne)]; exact hb
 have e1:wI (wI (2*(i:Int))+1)=((2*i+1:Nat):Int):=by rw [wI_ (n:=2*(i:Int)) (by omega) (by omega),wI_ (by omega) (by omega)]; omega
 have e2:wI (((2*i+1:Nat):Int)+1)=((2*i+2:Nat):Int):=by rw [wI_ (by omega) (by omega)]; omega
 simp only [wps,e1,e2]
 have fin:∀ (h0:∀ k,0 < k->k < l'.length->(k-1) / 2=i->fT En.tk l' i<=fT En.tk l' k),(∃ b,vB (decide ((0:Int) < i))=vB b)/\∃ l'',l''.Perm l/\HP (fT En.tk l'') l''.length/\S.set bq (.cells (l'.flatMap En.cells++rest) t g)=S.set bq (.cells (l''.flatMap En.cells++rest) t g):=
  λ h0=>⟨⟨_,rfl⟩,l',hpm,hdn.stop h0,rfl⟩
 refine ⟨λ hs=>fin λ k k0 hk he=>by omega,λ hs=>⟨λ hs2=>by omega,λ _=>?_⟩⟩
 have hj1:2*i+1 < l'.length:=by omega
 have hil:i < l'.length:=by omega
 have main:∀ (j:Nat) (hj:j < l'.length),(j-1) / 2=i->0 < j->(∀ k,0 < k->k < l'.length->(k-1) / 2=i->fT En.tk l' j<=fT En.tk l' k) ->
  WP (jwy C "Less" (qP ⟨ba, 0, none⟩) [vI j, vI i]) (S.set bq (.cells (l'.flatMap En.cells ++ rest) t g)) fun v S' => WP (asB v) S' fun b S' =>
   (b=false->(∃ b,vB (decide ((0:Int) < i))=vB b)/\∃ l'',l''.Perm l/\HP (fT En.tk l'') l''.length/\S'=S.set bq (.cells (l''.flatMap En.cells++rest) t g)) /\
   (b = true → WP (jwy C "Swap" (qP ⟨ba, 0, none⟩) [vI i, vI j]) S' fun v S' => WP (asT v) S' fun vs S' => vs.length = 0 ∧ ∃ n' < l.length + 1 - i, ∃ (i' : Nat) (l'' : List En), [vI j] = [vI i'] ∧ n' = l.length + 1 - i' ∧ i' ≤ l.length ∧ l''.Perm l ∧ HDn (fT En.tk l'') l''.length i' ∧ S' = S.set bq (.cells (l''.flatMap En.cells ++ rest) t g)) := by
  intro j hj hpar hj0 hmin
  simp only [(jv8 hC hb' h' (by omega) hj hil).wp,wps]
  refine ⟨λ hl=>?_,λ hl=>?_⟩
  ·have:=jv6 hl
   refine fin λ k k0 hk he=>Int.le_trans ?_ (hmin k k0 hk he)
   rw [jbs hj,jbs hil]; exact this
  ·refine (zbx hC hb' h' (by omega) hil hj).mono ?_
   rintro _ S2 ⟨rfl,rfl⟩
   simp only [wps]
   have hle:fT En.tk l' j<=fT En.tk l' i:=by rw [jbs hj,jbs hil]; exact jv7 hl
   refine ⟨l.length+1-j,by omega,j,zc1 l' _ _ hil hj,rfl,rfl,by omega,(zc4 hil hj).trans hpm,?_,by rw [List.set_set]⟩
   rw [jbt,zc3]
   exact hdn.step hj0 hj hpar hle hmin
 refine ⟨λ h2=>?_,λ h2=>?_⟩
 ·have hj2:2*i+2 < l'.length:=by omega
  simp only [(jv8 hC hb' h' (by omega) hj2 hj1).wp,wps]
  refine ⟨λ hl=>?_,λ hl=>?_⟩
  ·refine main (2*i+2) hj2 (by omega) (by omega) λ k k0 hk he=>?_
   rcases (show k=2*i+1\/k=2*i+2 by omega) with rfl | rfl
   ·rw [jbs hj2,jbs hj1]; exact jv7 hl
   ·exact Int.le_refl _
  ·refine main (2*i+1) hj1 (by omega) (by omega) λ k k0 hk he=>?_
   rcases (show k=2*i+1\/k=2*i+2 by omega) with rfl | rfl
   ·exact Int.le_refl _
   ·rw [jbs hj2,jbs hj1]; exact jv6 hl
 ·refine main (2*i+1) hj1 (by omega) (by omega) λ k k0 hk he=>?_
  obtain rfl:k=2*i+1:=by omega
  exact Int.le_refl _
end
theorem j7g {S:St} {a:Option Addr} {n c:Nat}:Gv (jmp [.slice a n c]) S (vI (if 1024 < n then 1 else 0)):=by
 refine .of ?_
 rw [jmq]
 simp only [wps]
 refine ⟨λ h=>by rw [if_pos (by omega)],λ h=>by rw [if_neg (by omega)]⟩
theorem z3l {S:St} {p r:Option Addr} {n m c d:Nat} {x y:List Int} (h:Ar S p n 1 eU x) (k:Ar S r m 1 eU y) (hn:n<=140737488355328) :
 Gv (jlq [.slice p n c,.slice r m d]) S (vB (decide (x=y))):=by
 have h1:=h.1
 have k1:=k.1
 refine .of ?_
 rw [jlr]
 simp only [wps]
 refine ⟨λ e=>?_,λ e=>?_⟩
 ·have : x≠y:=λ q=>e (by rw [h1,k1,q])
  simp [this]
 refine zgd (λ st S' t=>∃ j:Nat,st=[vI j]/\j<=n/\t=n-j/\S'=S/\x.take j=y.take j) ?_ n _ _ ⟨0,rfl,by omega,by omega,rfl,rfl⟩
 rintro st S' t ⟨j,rfl,hj,rfl,rfl,ht⟩
 simp only [wps]
 refine ⟨λ h3=>⟨h3,?_⟩,λ h3=>?_⟩
 ·have hx:j < x.length:=by omega
  have hy:j < y.length:=by omega
  obtain ⟨a,rfl,c0⟩:=h.getU hx
  obtain ⟨b,rfl,d0⟩:=k.getU hy
  simp only [wps,c0,d0]
  rw [wI_ (n:=(j:Int)+1) (by omega) (by omega)]
  refine ⟨by omega,λ e3=>?_,λ e3=>?_⟩
  ·have : x≠y:=λ q=>e3 (by subst q;rfl)
   simp [this]
  ·exact ⟨n-(j+1),by omega,j+1,rfl,by omega,rfl,zco ht hx hy e3⟩
 ·rw [List.take_of_length_le (by omega),List.take_of_length_le (by omega)] at ht
  simp [ht]
def j0x (S S':St) (a:Option Addr) (ws:List Int):Prop:=S <+: S'/\(ws=[]\/∃ b t g,a=some ⟨b,0,none⟩/\S.length<=b/\S'[b]? = some (.cells (ws.flatMap eU) t g))
theorem j0x.ar {S S':St} {a:Option Addr} {ws:List Int} (h:j0x S S' a ws):Ar S' a ws.length 1 eU ws:=by
 rcases h.2 with rfl | ⟨b,t,g,rfl,_,h1⟩
 ·exact .nil
 ·exact Ar.blk h1 (λ _ _=>rfl) rfl
theorem j7l {S:St} {p:Option Addr} {n c:Nat} {ws:List Int} (h:Ar S p n 1 eU ws) (hn:n<=17592186044416) :
 WP (jna [.slice p n c]) S λ v S'=>∃ a,v = .slice a n n/\j0x S S' a ws:=by
 have hl:=h.1
 rw [jnb]
 simp only [wps]
 refine ⟨λ h1=>?_,λ h1=>?_⟩
 ·have : p=none:=by simpa using h1
  subst this
  have h0:ws=[]:=by
   rcases Nat.eq_zero_or_pos ws.length with h0 | h0
   ·exact List.eq_nil_of_length_eq_zero h0
   ·obtain ⟨a,ha,_⟩:=h.2 0 h0
    cases ha
  subst h0
  have : n=0:=by simpa using hl
  subst this
  exact ⟨none,rfl,List.prefix_rfl,.inl rfl⟩
 ·have hp:=List.prefix_append S [j00.cells [] 24 none]
  have hr:=zgl (h.mono hp) (λ _=>rfl) (Q:=λ xs S'=>xs=ws.flatMap eU/\S'=S++[j00.cells [] 24 none]) ⟨rfl,rfl⟩
  rw [Nat.mul_one] at hr
  refine hr.mono ?_
  rintro _ _ ⟨rfl,rfl⟩
  have hfl:=jcv (e:=eU) (w:=1) (λ _=>rfl) ws
  unfold j33
  rcases Nat.eq_zero_or_pos n with h0 | h0
  ·have hw:ws=[]:=List.eq_nil_of_length_eq_zero (by omega)
   subst hw h0
   simp only [Nat.add_zero,Nat.le_refl,if_true,wps]
   have hz:=jek (S:=S) (o:=j00.cells [] 24 none)
   simp only [wps,List.flatMap_nil,List.length_nil,Nat.le_refl]
   exact ⟨_,rfl,hp,.inl rfl⟩
  ·rw [if_neg (by omega),if_pos ⟨by omega,by omega⟩]
   have hz:=jek (S:=S) (o:=j00.cells [] 24 none)
   simp only [Nat.zero_mul,zg4,zgn,hz]
   refine ⟨_,_,by dsimp only;rw [hz],?_⟩
   simp only [wps]
   exact ⟨_,rfl,z1t hp _,.inr ⟨_,_,_,rfl,by simp,jek⟩⟩
theorem zhs (a b:Int):wU ((BitVec.ofInt IntKind.u64.bits a ^^^ BitVec.ofInt IntKind.u64.bits b).toNat:Int)=bits .xor .u64 a b:=rfl
theorem zbd {l:List Ev} {ws:List Int} {j:Nat} (hj:j < l.length):zb8 (l.take (j+1)) ws=hit (zb8 (l.take j) ws) l[j]:=by
 unfold zb8;rw [zcr hj,List.foldl_append]; rfl
end Go.AM
namespace Go.AM
open Go Go.Proofs Go.Proofs.YtpecnaacgkgjmaaGreatDoor
theorem z49 {n:Int} {S:St}:WP (z48 [.int .i64 n]) S λ v S'=>∃ a,v = .tuple ⟨[.slice a (z4j n).1.length (z4j n).1.length,.int .i64 (z4j n).2]⟩/\Ap S none S' a (z4j n).1.length 3 1 ((z4j n).1.flatMap eI):=by
 have key:∃ c:Int,z4f n=((z4j n).1.map λ x=>.int .i64 x,.int .i64 c)/\(z4j n).2=c:=by
  unfold z4f z4j
  split
  ·unfold z4g
   split
   ·refine ⟨0,?_,rfl⟩
    rw [List.map_map]; rfl
   ·exact ⟨4,rfl,rfl⟩
  ·exact ⟨4,rfl,rfl⟩
 obtain ⟨c,h1,h2⟩:=key
 unfold WP z48 z6e z47
 simp only [h1,h2]
 generalize (z4j n).1=l
 cases l with
 | nil => exact ⟨_, _, rfl, none, rfl, .nil⟩
 | cons x l =>
   refine ⟨_,_,rfl,some ⟨S.length,0,none⟩,by simp,by simp,λ i hi _=>List.getElem?_append_left hi,.inr ⟨_,rfl,Nat.le_refl _⟩,by rw [jcv (w:=1) (λ _=>rfl)],.inr ⟨_,rfl,?_⟩,.inl rfl⟩
   rw [jek]
   have e:Value.int .i64 x :: l.map (λ x=>Value.int .i64 x)=(x :: l).flatMap eI:=by rw [<- List.map_cons (f:=λ x=>Value.int .i64 x),List.map_eq_flatMap]; rfl
   exact congrArg (λ c=>some (j00.cells c 3 (some 1))) e
theorem z5e {p a:Int} (h:0<=a/\a < 18446744073709551616):z5d [.int .u64 p,.int .u64 a]=M.ret (.int .u64 (red p a)):=by
 funext S;simp [z5d,zet,z5c,h,M.ret]
theorem jxj {p a b:Int} (h:0<=a/\a < 18446744073709551616) (g:0<=b/\b < 18446744073709551616):jxi [.int .u64 p,.int .u64 a,.int .u64 b]=M.ret (.int .u64 (jxc p a b)):=by
 funext S;simp [jxi,zet,jxd,h,g,M.ret]
theorem jdx {p:Int}:jdw [.int .u64 p]=M.ret (.int .u64 (jdt p)):=by
 funext S;simp [jdw,zet,jdu,M.ret]
theorem jv0 {a:Int} (h:0<=a/\a < 18446744073709551616):juz [.int .u64 a]=M.ret (.int .i64 (Lib.bitLen a.toNat)):=by
 funext S;simp [juz,zet,juy,M.ret]; omega
theorem jt8 {p:Int}:jhw [vU p]=M.ret (vB (jt3 p)):=by
 rw [jhx]
 unfold jt3 P0 P1 P2
 cases p == 18446744069414584321 <;> cases p == 998244353 <;> cases p == 2013265921 <;> rfl
theorem z5j {p a:Int} (h:0<=a/\a < 18446744073709551616):ji2 [vU p,vU a]=M.ret (vU (red p a)):=z5e h
theorem jxn {p a b:Int} (h:0<=a/\a < 18446744073709551616) (g:0<=b/\b < 18446744073709551616):jhz [vU p,vU a,vU b]=M.ret (vU (jxc p a b)):=jxj h g
theorem je4 {p:Int}:jmg [vU p]=M.ret (vU (jdt p)):=jdx
theorem jv4 {a:Int} (h:0<=a/\a < 18446744073709551616):jfs [vU a]=M.ret (vI (Lib.bitLen a.toNat)):=jv0 h
theorem z5a {p n:Int}:jmm [vU p,vI n]=M.ret (vI (z57 p n)):=by
 refine zg6 λ S=>?_
 rw [jmn,jt8]
 unfold z57
 cases jt3 p with
 | false => simp only [wps]; simp
 | true =>
   simp only [wps]
   by_cases h1:n < 1
   ·simp [h1]
   ·by_cases h2:8192 < n <;> simp [h1,h2]
theorem j64 (N d:Nat) (hN:N < 18446744073709551616) (hd:d < 64):IntKind.u64.wrap (↑(BitVec.ofInt IntKind.u64.bits ((N:Int).fdiv (2 ^ min d IntKind.u64.bits)) &&& BitVec.ofInt IntKind.u64.bits 1).toNat:Int)=((N / 2 ^ d % 2:Nat):Int):=by
 have h1:(N:Int).fdiv (2 ^ min d IntKind.u64.bits)=((N / 2 ^ d:Nat):Int):=by
  rw [Nat.min_eq_left (show d<=IntKind.u64.bits by simp only [IntKind.bits]; omega),show (2:Int) ^ d=((2 ^ d:Nat):Int) by simp,Int.fdiv_eq_ediv_of_nonneg _ (Int.natCast_nonneg _)]
  simp
 have h2:N / 2 ^ d < 18446744073709551616:=Nat.lt_of_le_of_lt (Nat.div_le_self _ _) hN
 rw [h1]
 generalize N / 2 ^ d=q at h2 ⊢
 have:=Lib.u64_and1 (q:Int) (by omega) (by omega)
 refine Eq.trans ?_ (this.trans ?_)
 ·rfl
 ·omega
theorem z1n {p a n:Int} (ha:0<=a/\a < 18446744073709551616) (hn:0<=n/\n < 18446744073709551616):jlk [vU p,vU a,vU n]=M.ret (vU (z1g p a n.toNat)):=by
 obtain ⟨N,rfl⟩:=Int.eq_ofNat_of_zero_le hn.1
 obtain ⟨h1,h2⟩:=j63 64 N (by omega)
 refine zg6 λ S=>?_
 rw [jll,z5j (by omega),jv4 hn]
 simp only [wps]
 refine zgd (λ st S' m=>∃ d:Nat,st=[vU (z1g p a (N / 2 ^ d)),vI ((d:Int)-1)]/\S'=S/\m=d/\d<=64) ?_ (Lib.bitLenAux 64 N) _ _ ⟨Lib.bitLenAux 64 N,?_,rfl,rfl,h2⟩
 ·rintro st S' m ⟨d,rfl,rfl,hmd,hd⟩
  cases d with
  | zero=>simp [wps]
  | succ d=>
    have e1:((d+1:Nat):Int)-1=(d:Int):=by omega
    have hm:=jxn (p:=p) (z1i p a (N / 2 ^ (d+1))) (z1i p a (N / 2 ^ (d+1)))
    rw [jxf] at hm
    have hm2:=jxn (p:=p) (z1i p a (N / 2 ^ (d+1)+N / 2 ^ (d+1))) ha
    rw [jxg] at hm2
    have hdiv:N / 2 ^ (d+1)=N / 2 ^ d / 2:=by rw [Nat.pow_succ,Nat.div_div_eq_div_mul]
    simp only [wps,hm,hm2,e1,j64 N d (by omega) (by omega),wI_ (n:=(d:Int)-1) (by omega) (by omega)]
    generalize hq:N / 2 ^ d=q at hdiv ⊢
    refine ⟨λ hb=>⟨d,by omega,d,?_,rfl,by omega⟩,λ hb=>⟨d,by omega,d,?_,rfl,by omega⟩⟩
    ·rw [hdiv,hq,show q / 2+q / 2+1=q by omega]
    ·rw [hdiv,hq,show q / 2+q / 2=q by omega]
 ·rw [Nat.div_eq_of_lt h1]
  unfold red z1g Lib.bitLen
  rw [wI_ (by omega) (by omega)]
  simp
theorem z68 {p n:Int}:jmj [vU p,vI n]=M.ret (vT [vU (z60 p n).1,vI (z60 p n).2]):=by
 refine zg6 λ S=>?_
 rw [jmk,z5a]
 unfold z60
 simp only [wps]
 refine ⟨λ h=>by simp [h],λ h=>?_⟩
 rw [if_pos h]
 have hk:jt3 p=true/\1<=n/\n<=8192:=by
  unfold z57 at h
  split at h
  ·split at h
   ·simp at h
   ·exact ⟨‹_›,by omega,by omega⟩
  ·simp at h
 have hp:=jt7 hk.1
 have hq0:0<=(p-1) / n:=Int.ediv_nonneg (by omega) (by omega)
 have hq1:(p-1) / n<=p-1:=Int.ediv_le_self _ (by omega)
 have e1:wU n=n:=wU_ (by omega) (by omega)
 have e2:wU (p-1)=p-1:=wU_ (by omega) (by omega)
 have e3:(p-1).tmod n=(p-1) % n:=Int.tmod_eq_emod_of_nonneg (by omega)
 have e4:(p-1).tdiv n=(p-1) / n:=Int.tdiv_eq_ediv_of_nonneg (by omega)
 have e5:wU ((p-1) / n)=(p-1) / n:=wU_ hq0 (by omega)
 rw [e1,e2,e3,e4,e5]
 simp only [wps,je4,z1n (p:=p) (jdv p) ⟨hq0,show (p-1) / n < 18446744073709551616 by omega⟩]
 exact ⟨by omega,λ h2=>by rw [if_pos (by omega)],λ h2=>⟨by omega,by rw [if_neg (by omega)]⟩⟩
theorem jsg {p a:Int} (ha:0<=a/\a < 18446744073709551616):jlh [vU p,vU a]=M.ret (vT [vU (js7 p a).1,vI (js7 p a).2]):=by
 refine zg6 λ S=>?_
 rw [jli,jt8,z5j ha]
 unfold js7
 cases hk:jt3 p with
 | false => simp [wps]
 | true =>
   have hp:2<=p/\p < 18446744073709551616:=by rcases jt5 hk with rfl | rfl | rfl <;> decide
   rw [wU_ (n:=p-2) (by omega) (by omega),z1n (p:=p) ha ⟨by omega,by omega⟩]
   simp only [wps]
   exact ⟨λ h=>by simp [h],λ h=>by simp [h]⟩
theorem j5p {p n:Int}:jmd [vU p,vI n]=M.ret (vT [vU (j5l p n).1,vI (j5l p n).2]):=by
 refine zg6 λ S=>?_
 rw [jme,z68]
 unfold j5l
 simp only [wps,jsg (z61 p n)]
 exact ⟨λ h=>by simp [h],λ h=>by simp [h]⟩
theorem z4o {n:Int} {S:St}:WP (jhj [vI n]) S λ v S'=>∃ a,v=vT [.slice a (z4j n).1.length (z4j n).1.length,vI (z4j n).2]/\Ap S none S' a (z4j n).1.length 3 1 ((z4j n).1.flatMap eI):=z49
theorem z9g {n:Int} {S:St}:Sp (jhm [vI n]) S λ v _=>v=vB (z9f n):=by
 unfold Sp
 rw [jhn]
 simp only [wps]
 refine z4o.mono ?_
 rintro _ S' ⟨a,rfl,h⟩
 simp only [wps]
 exact ⟨h.pre,rfl⟩
theorem jc5 {c:List Value} {l:List Int} {k:IntKind} {n j:Nat} {z x:Int} (h:c=(l.take j).map (.int k)++List.replicate (n-j) (.int k z)) (hl:l.length=n) (hj:j < n) (hx:l[j]? = some x) :
 splice c j [.int k x]=(l.take (j+1)).map (.int k)++List.replicate (n-(j+1)) (.int k z):=by
 have hlen:((l.take j).map (Value.int k)).length=j:=by simp;omega
 rw [z9v (by rw [h]; simp;omega),h,List.set_append_right _ _ (by omega),hlen,Nat.sub_self,show n-j=(n-(j+1))+1 by omega,List.replicate_succ,List.set_cons_zero,List.take_add_one,hx]
 simp
theorem j9z {S:St} {axes:Option Addr} {n c:Nat} {l:List Ax} (h:Ar S axes n 2 eAx l) (hl:n<=8796093022208) :
 Sp (jj5 [.slice axes n c]) S λ v S'=>∃ a k,v = .slice a n k/\Ar S' a n 1 eI (j9y l):=by
 unfold Sp
 rw [jj6]
 have hn:=h.1
 simp only [wps,zhy]
 refine ⟨⟨by omega,by omega,by omega,rfl⟩,?_⟩
 refine zgd (λ st S' m=>∃ j:Nat,st=[vI j]/\j<=n/\m=n-j/\(S++[.cells (((j9y l).take j).map (.int .i64)++List.replicate (n-j) (.int .i64 0)) 3 none]) <+: S') ?_ n _ _ ⟨0,rfl,by omega,by omega,by simp⟩
 rintro st S' m ⟨j,rfl,hj,rfl,hp⟩
 simp only [wps]
 refine ⟨λ h1=>?_,λ h1=>?_⟩
 ·have hj':j < l.length:=by omega
  obtain ⟨a,rfl,c1,c2⟩:=(h.mono (z20 hp)).getAx hj'
  have hb:=z1w hp jek
  have hb2:∀ o,(S'++[o])[S.length]? = _:=λ o=>jeh hb
  simp only [wps,c1,c2,hb2]
  refine ⟨h1,h1,?_,n-(j+1),by omega,j+1,?_,by omega,rfl,?_⟩
  ·simp [j9y]; omega
  ·rw [wI_ (by omega) (by omega)]; simp
  ·rw [jc5 (l:=j9y l) (n:=n) (j:=j) (z:=0) (x:=l[j].N) rfl (by simp [j9y]; omega) (by omega) (by simp [j9y,hj'])]
   exact z25 (z1t hp _)
 ·have : n-j=0:=by omega
  refine ⟨z20 hp,_,_,rfl,?_⟩
  have hb:=z1w hp jek
  have e:n=(j9y l).length:=by simp [j9y]; omega
  rw [List.take_of_length_le (by omega),this] at hb
  conv=>arg 3;rw [e]
  exact j50 (by simpa using hb)
theorem j2q {S:St} {dims:Option Addr} {n c:Nat} {l:List Int} (h:Ar S dims n 1 eI l):Gv (jmy [.slice dims n c]) S (vT [vI (allV l).1,vI (allV l).2]):=by
 refine .of ?_
 rw [jmz]
 have hn:=h.1
 simp only [wps]
 refine ⟨λ h1=>by simp [allV,show l.length < 1 by omega],λ h1=>⟨λ h2=>by simp [allV,show 4 < l.length by omega],λ h2=>?_⟩⟩
 have e:allV l=j2e 1 l:=by unfold allV;rw [if_neg (by omega)]
 rw [e]
 refine zgd (λ st S' m=>∃ (i:Nat) (x:Int),st=[.int .i64 x,.int .i64 i]/\S'=S/\i<=n/\m=n-i/\1<=x/\x<=4096/\j2e 1 l=j2e x (l.drop i)) ?_ n _ _ ⟨0,1,rfl,rfl,by omega,by omega,by omega,by omega,by simp⟩
 rintro st S' m ⟨i,x,rfl,rfl,hi,rfl,h3,h4,hg⟩
 simp only [wps]
 refine ⟨λ h5=>⟨h5,?_⟩,λ h5=>?_⟩
 ·obtain ⟨a,rfl,hc⟩:=h.getI (i:=i) (by omega)
  rw [List.drop_eq_getElem_cons (by omega),j2e] at hg
  simp only [wps,hc]
  refine ⟨λ h6=>?_,λ h6=>⟨λ h7=>?_,λ h7=>?_⟩⟩
  ·rw [if_pos (.inl h6)] at hg;simp [hg,wps]
  ·rw [if_pos (.inr (.inl h7))] at hg;simp [hg,wps]
  ·have hb1:1<=x*l[i]:=by
    have:=Int.mul_le_mul h3 (show 1<=l[i] by omega) (by omega) (by omega)
    simpa using this
   have hb2:x*l[i]<=4096*4096:=Int.mul_le_mul h4 (by omega) (by omega) (by omega)
   rw [wI_ (n:=x*l[i]) (by omega) (by omega),wI_ (n:=(i:Int)+1) (by omega) (by omega)]
   refine ⟨λ h8=>?_,λ h8=>?_⟩
   ·rw [if_pos (.inr (.inr h8))] at hg;simp [hg]
   ·rw [if_neg (by omega)] at hg
    exact ⟨n-(i+1),by omega,i+1,_,rfl,by omega,rfl,by omega,by omega,hg⟩
 ·rw [List.drop_eq_nil_iff.2 (by omega),j2e] at hg
  simp [hg]
end Go.AM
namespace Go.AM
open Go Go.Proofs.YtpecnaacgkgjmaaGreatDoor
theorem jqo {p:Int} {S:St} {axes:Option Addr} {n c:Nat} {l:List Ax} (h:Ar S axes n 2 eAx l) (hl:n<=8796093022208) :
 Sp (jj2 [vU p,.slice axes n c]) S λ v S'=>v=vI (jqm p l):=by
 unfold Sp
 have hn:=h.1
 rw [jj3,jt8]
 unfold jqm
 simp only [wps]
 refine ⟨λ hk=>⟨List.prefix_rfl,by simp [hk]⟩,λ hk=>?_⟩
 refine (j9z h hl).use ?_
 rintro _ S1 h1 ⟨a,k,rfl,hd⟩
 simp only [wps,(j2q hd).wp]
 refine ⟨λ h2=>⟨h1,by simp [hk,h2]⟩,λ h2=>?_⟩
 rw [if_pos hk,if_pos h2]
 refine zgd (λ st S' m=>∃ (j:Nat) (e:Int),st=[vI e,vI j]/\j<=n/\m=n-j/\S <+: S'/\gGo p 0 l=gGo p e (l.drop j)) ?_ n _ _ ⟨0,0,rfl,by omega,by omega,h1,by simp⟩
 rintro st S' m ⟨j,e,rfl,hj,rfl,hp,hg⟩
 simp only [wps]
 refine ⟨λ h3=>⟨h3,?_⟩,λ h3=>?_⟩
 ·have hj':j < l.length:=by omega
  obtain ⟨a,rfl,c1,c2⟩:=(h.mono hp).getAx hj'
  rw [List.drop_eq_getElem_cons hj',gGo] at hg
  simp only [wps,c1,c2]
  have hq:=z1t hp
  refine ⟨λ h4=>?_,λ h4=>?_⟩
  all_goals
   refine z9g.use ?_
   rintro _ S2 h5 rfl
   simp only [wps,z68]
   refine ⟨λ h6=>?_,λ h6=>?_⟩
   ·rw [if_neg (by simp [h6])] at hg
    simp only [wps,hg]
    exact (hq _).trans h5
   ·rw [if_pos (by simpa using h6)] at hg
    unfold jzi at hg
    simp only [h4,if_true,Bool.false_eq_true,if_false] at hg
    refine ⟨λ h7=>?_,λ h7=>?_⟩
    ·rw [if_neg h7] at hg
     exact ⟨n-(j+1),by omega,j+1,5,by rw [wI_ (by omega) (by omega)]; simp,by omega,rfl,(hq _).trans h5,hg⟩
    ·rw [if_pos h7] at hg
     exact ⟨n-(j+1),by omega,j+1,e,by rw [wI_ (by omega) (by omega)]; simp,by omega,rfl,(hq _).trans h5,hg⟩
 ·rw [List.drop_eq_nil_iff.2 (by omega),gGo] at hg
  exact ⟨hp,by rw [hg]⟩
theorem j5x {p:Int} {a:Ax} {inv:Bool} {s:Stp} {S:St}:Sp (jom [vU p,vA [vI a.N,vB a.neg],vB inv,vA [vI s.ax,vB s.tw,vI s.st.R,vI s.st.L,vI s.st.M]]) S λ v S'=>v=vT [vU (j5v p a inv s).1,vI (j5v p a inv s).2]:=by
 unfold Sp
 rw [jon]
 unfold j5v jtu
 have hb:∀ o x y,(S++[o]++[j00.cells x y none])[S.length]? = some o:=λ o x y=>jeh jek
 have hp:∀ o o',S <+: S++[o]++[o']:=λ o o'=>z1t (List.prefix_append _ _) _
 have hc:∀ c t o k,St.cell (S++[.cells c t none]++[o]) ⟨S.length,k,none⟩=c[k]?:=λ c t o k=>j6u (jeh jek) k
 cases h1:s.tw with
 | true =>
   cases h2:a.neg with
   | true=>
     simp only [wps,hc]
     cases inv <;> simp [wps,j5p,z68,hp]
   | false=>
     simp only [wps,hc]
     simp [hp]
 | false =>
   simp only [wps,hc]
   cases inv <;> simp [wps,j5p,z68,hp]
theorem jdg:∀ l:List Int,(∀ r∈l,1<=r)->1<=l.foldr (· * ·) 1
 | [], _ => by simp
 | x :: l, h => by
   have h3:=jdg l (λ r hr=>h r (by simp [hr]))
   have h4:=h x (by simp)
   rw [List.foldr_cons]
   have:=Int.mul_le_mul h4 h3 (by omega) (by omega)
   omega
theorem zal {n:Int} {S:St}:WP (jhp [vI n]) S λ v S'=>∃ a,v=vT [.slice a (zah n).1.length (zah n).1.length,vI (zah n).2]/\Ap S none S' a (zah n).1.length 27 3 ((zah n).1.flatMap eSg):=by
 rw [zio]
 simp only [wps]
 refine z4o.mono ?_
 rintro _ S1 ⟨a,rfl,hr⟩
 have hS:=hr.pre
 have hr:=hr.ar (λ _=>rfl) (by decide)
 simp only [wps]
 unfold zah
 refine ⟨λ h=>?_,λ h=>?_⟩
 ·rw [if_neg h]; exact ⟨none,rfl,Ap.nil.more hS⟩
 ·rw [if_pos h]
  obtain ⟨n1,n2,f1,f2,f3⟩:=z4k h
  generalize (z4j n).1=rs at hr f1 f2 f3 ⊢
  refine zgd (λ st S' m=>∃ (j:Nat) (x:Int) (sa:Option Addr) (dn:List Sg),st=[.slice sa j j,vI x,vI j]/\j<=rs.length/\m=rs.length-j/\Ap S1 none S' sa j 27 3 (dn.flatMap eSg) /\
   dn++za4 n x (rs.drop j)=za4 n 1 rs/\1<=x/\x*(rs.drop j).foldr (· * ·) 1=n) ?_ rs.length _ _ ⟨0,1,none,[],rfl,by omega,by omega,.nil,by simp,by omega,by simpa using f2⟩
  rintro st S' m ⟨j,x,sa,dn,rfl,hj,rfl,ho,hd,hx,hf⟩
  simp only [wps]
  refine ⟨λ h3=>⟨h3,?_⟩,λ h3=>?_⟩
  ·have hj':j < rs.length:=by omega
   obtain ⟨b,rfl,hc⟩:=(hr.mono ho.pre).getI hj'
   rw [List.drop_eq_getElem_cons hj'] at hd hf
   have hr1:=f1 _ (List.getElem_mem hj')
   rw [List.foldr_cons,<- Int.mul_assoc] at hf
   have hp1:=jdg (rs.drop (j+1)) (λ r hr'=>by have:=(f1 r (List.mem_of_mem_drop hr')).1;omega)
   have har:1<=x*rs[j]:=by have:=Int.mul_le_mul hx (show 1<=rs[j] by omega) (by omega) (by omega); omega
   have har2:x*rs[j]<=4096:=by
    have : x*rs[j]*1<=x*rs[j]*(rs.drop (j+1)).foldr (· * ·) 1:=Int.mul_le_mul_of_nonneg_left hp1 (by omega)
    omega
   have hq0:0<=n / x:=Int.ediv_nonneg (by omega) (by omega)
   have hq1:n / x<=n:=Int.ediv_le_self _ (by omega)
   have hq2:0<=n / x / rs[j]:=Int.ediv_nonneg hq0 (by omega)
   have hq3:n / x / rs[j]<=n / x:=Int.ediv_le_self _ hq0
   simp only [wps,hc]
   refine ⟨by omega,by omega,?_⟩
   rw [show n.tdiv x=n / x from Int.tdiv_eq_ediv_of_nonneg (by omega),wI_ (n:=n / x) (by omega) (by omega),show (n / x).tdiv rs[j]=n / x / rs[j] from Int.tdiv_eq_ediv_of_nonneg hq0,wI_ (n:=n / x / rs[j]) (by omega) (by omega)]
   refine zgh ho rfl (by omega) (by omega) rfl ?_
   intro b' S2 h6
   simp only [wps]
   rw [wI_ (n:=x*rs[j]) (by omega) (by omega),wI_ (n:=(j:Int)+1) (by omega) (by omega)]
   refine ⟨rs.length-(j+1),by omega,j+1,x*rs[j],_,dn++[⟨rs[j],x,n / x / rs[j]⟩],rfl,by omega,rfl,?_,?_,har,hf⟩
   ·simpa [eSg] using h6
   ·rw [<- hd,za4]; simp
  ·rw [List.drop_eq_nil_of_le (by omega),za4,List.append_nil] at hd
   have e:=ho.cnt (λ _=>rfl) (by decide)
   subst hd
   rw [<- e]
   refine ⟨sa,rfl,?_⟩
   exact (Ap.nil.more hS).trans ho
theorem jrz {S:St} {p:Option Addr} {n c:Nat} {l:List Sg} (h:Ar S p n 3 eSg l) (hl:n<=140737488355328) (s:Sg) :
 Sp (jnj [.slice p n c,vA [vI s.R,vI s.L,vI s.M]]) S λ v S'=>∃ r:Int,v=vI r/\(0<=r↔s∈l):=by
 unfold Sp
 have hn:=h.1
 rw [jnk]
 simp only [wps]
 refine zgd (λ st S' m=>∃ j:Nat,st=[vI j]/\j<=n/\m=n-j/\S'=S++[.cells [vI s.R,vI s.L,vI s.M] 27 none]/\(s∈l↔s∈l.drop j)) ?_ n _ _ ⟨0,rfl,by omega,by omega,rfl,by simp⟩
 rintro st S' m ⟨j,rfl,hj,rfl,rfl,hm⟩
 simp only [wps]
 refine ⟨λ h3=>⟨h3,?_⟩,λ h3=>?_⟩
 ·have hj':j < l.length:=by omega
  obtain ⟨a,rfl,c1,c2,c3⟩:=(h.mono (List.prefix_append S [.cells [vI s.R,vI s.L,vI s.M] 27 none])).getSg hj'
  simp only [wps,c1,c2,c3]
  rw [List.drop_eq_getElem_cons hj',List.mem_cons] at hm
  have e:eqL [vI s.R,vI s.L,vI s.M] [vI l[j].R,vI l[j].L,vI l[j].M]=decide (s=l[j]):=by
   obtain ⟨a1,a2,a3⟩:=s
   cases hx:l[j] with
   | mk b1 b2 b3=>simp [eqL,Bool.and_assoc,Bool.decide_and,Sg.mk.injEq]; rfl
  rw [e]
  refine ⟨λ h4=>?_,λ h4=>?_⟩
  ·exact ⟨z1t List.prefix_rfl _,j,rfl,by simp at h4;exact ⟨λ _=>hm.2 (.inl h4),λ _=>by omega⟩⟩
  ·refine ⟨n-(j+1),by omega,j+1,by rw [wI_ (by omega) (by omega)]; simp,by omega,rfl,?_⟩
   simp at h4
   rw [hm]; simp [h4]
 ·refine ⟨z1t List.prefix_rfl _,-1,rfl,?_⟩
  rw [hm,List.drop_eq_nil_of_le (by omega)]; simp
theorem j7x {S:St} {p:Option Addr} {n c:Nat} {l:List Sg} (h:Ar S p n 3 eSg l) (hl:n<=140737488355328) (s:Sg) :
 Sp (jnd [.slice p n c,vA [vI s.R,vI s.L,vI s.M]]) S λ v S'=>v=vB (decide (s∈l)):=by
 unfold Sp
 rw [jne]
 simp only [wps]
 refine (jrz (h.mono (z1t List.prefix_rfl _)) hl s).use ?_
 rintro _ S1 h1 ⟨r,rfl,hr⟩
 simp only [wps]
 refine ⟨z20 h1,?_⟩
 by_cases h2:s∈l
 ·simp [h2,hr.2 h2]
 ·have : ¬ 0<=r:=λ h=>h2 (hr.1 h)
  simp [h2,this]
theorem zaj (n:Int):(zah n).1.length<=4096:=by
 unfold zah
 by_cases h:(z4j n).2=0
 ·have:=(zai h).2
  unfold zah at this
  exact this
 ·rw [if_neg h]; simp
theorem zat {p:Int} {S:St} {axes:Option Addr} {n c:Nat} {l:List Ax} (h:Ar S axes n 2 eAx l) (hl:n<=8796093022208) (s:Stp) :
 Sp (jo4 [vU p,.slice axes n c,vA [vI s.ax,vB s.tw,vI s.st.R,vI s.st.L,vI s.st.M]]) S λ v S'=>v=vI (zam p l s):=by
 unfold Sp
 have hn:=h.1
 rw [jo5]
 simp only [wps]
 refine (jqo (h.mono (List.prefix_append _ _)) hl).use ?_
 rintro _ S1 h1 rfl
 have hb:=z1w h1 jek
 have hb2:∀ o,(S1++[o])[S.length]? = _:=λ o=>jeh hb
 have hc:=j6u hb
 have hc2:=λ o=>j6u (hb2 o)
 have h0:=z20 h1
 simp only [wps,hc,hc2]
 unfold zam
 refine ⟨λ h2=>⟨h0,by rw [if_neg h2]⟩,λ h2=>?_⟩
 rw [if_pos h2]
 refine ⟨λ h3=>⟨h0,by rw [if_neg (by omega)]⟩,λ h3=>⟨λ h4=>⟨h0,by rw [if_neg (by omega)]⟩,λ h4=>?_⟩⟩
 rw [if_pos (by omega)]
 obtain ⟨k,hk⟩:=Int.eq_ofNat_of_zero_le (show 0<=s.ax by omega)
 have hkl:k < l.length:=by omega
 refine ⟨λ h5=>?_,λ h5=>?_⟩
 ·obtain ⟨a,rfl,c1,c2⟩:=(h.mono (z1t h0 [.cells [vI 0,vI 0,vI 0] 27 none])).getAx hkl
  rw [if_neg (by rw [h5]; simp),hk,j5k l k hkl]
  simp only [wps,c1]
  refine ⟨by omega,zal.mono ?_⟩
  rintro _ S2 ⟨b,rfl,hst⟩
  have h6:=hst.pre
  have hst:=hst.ar (λ _=>rfl) (by decide)
  simp only [wps]
  refine ⟨λ h7=>⟨(z1t h0 _).trans h6,by rw [if_neg h7]⟩,λ h7=>?_⟩
  rw [if_pos h7]
  have hc3:=j6u (z1w h6 (hb2 _))
  simp only [wps,hc3]
  refine (j7x hst (by have:=zaj l[k].N;omega) s.st).use ?_
  rintro _ S3 h8 rfl
  simp only [wps]
  have h9:=((z1t h0 _).trans h6).trans h8
  exact ⟨λ h10=>⟨h9,by simp [h10]⟩,λ h10=>⟨h9,by simp [h10]⟩⟩
 ·rw [if_pos h5]
  have hst:Ar (S1++[.cells [vI 0,vI 0,vI 0] 27 none]) (some (ad S1.length 0)) 1 3 eSg [⟨0,0,0⟩]:=Ar.blk (l:=([⟨0,0,0⟩]:List Sg)) jek (λ _ _=>rfl) rfl
  refine (j7x hst (by omega) s.st).use ?_
  rintro _ S3 h8 rfl
  simp only [wps]
  have h9:=(z1t h0 _).trans h8
  exact ⟨λ h10=>⟨h9,by rw [List.mem_singleton] at h10;rw [if_neg h10]⟩,λ h10=>⟨h9,by rw [List.mem_singleton] at h10;rw [if_pos h10]⟩⟩
theorem jc4 {c:List Value} {f:Nat->Value} {n j:Nat} {z:Value} (h:c=(List.range j).map f++List.replicate (n-j) z) (hj:j < n) {v:Value} (hv:v=f j) :
 splice c j [v]=(List.range (j+1)).map f++List.replicate (n-(j+1)) z:=by
 have hlen:((List.range j).map f).length=j:=by simp
 rw [z9v (by rw [h]; simp;omega),h,List.set_append_right _ _ (by omega),hlen,Nat.sub_self,show n-j=(n-(j+1))+1 by omega,List.replicate_succ,List.set_cons_zero,List.range_succ,hv]
 simp
theorem z1p {p a many:Int} (ha:0<=a/\a < 18446744073709551616) {S:St} :
 Sp (jln [vU p,vU a,vI many]) S λ v S'=>∃ b k,v=vT [.slice b (z1o p a many).1.length k,vI (z1o p a many).2]/\Ar S' b (z1o p a many).1.length 1 eU (z1o p a many).1 /\
  ((z1o p a many).2=0->b=some ⟨S.length,0,none⟩/\k=many.toNat/\S'[S.length]? = some (.cells ((z1o p a many).1.map (.int .u64)) 24 none)):=by
 unfold Sp
 rw [jlo,jt8]
 unfold z1o
 cases hk:jt3 p with
 | false => simp only [wps]; exact ⟨List.prefix_rfl, none, 0, rfl, .nil, by simp⟩
 | true =>
   rw [if_pos rfl]
   simp only [wps]
   refine ⟨λ h1=>?_,λ h1=>⟨λ h2=>?_,λ h2=>?_⟩⟩
   ·rw [if_pos (.inl h1)]; exact ⟨List.prefix_rfl,none,0,rfl,.nil,by simp⟩
   ·rw [if_pos (.inr h2)]; exact ⟨List.prefix_rfl,none,0,rfl,.nil,by simp⟩
   ·rw [if_neg (by omega)]
    obtain ⟨n,rfl⟩:=Int.eq_ofNat_of_zero_le (show 0<=many by omega)
    simp only [wps,zhy]
    refine ⟨⟨by omega,by omega,by omega,rfl⟩,?_⟩
    refine zgd (λ st S' m=>∃ j:Nat,st=[vU (z1g p a j),vI j]/\j<=n/\m=n-j/\S'=S++[.cells ((List.range j).map (λ i=>.int .u64 (z1g p a i))++List.replicate (n-j) (.int .u64 0)) 24 none]) ?_ n _ _ ⟨0,by rw [z1k a hk]; rfl,by omega,by omega,by simp⟩
    rintro st S' m ⟨j,rfl,hj,rfl,rfl⟩
    have hm:=jxn (p:=p) (z1i p a j) ha
    rw [jxg] at hm
    simp only [wps,hm]
    refine ⟨λ h3=>⟨h3,⟨by simp;omega,?_⟩⟩,λ h3=>?_⟩
    ·refine ⟨n-(j+1),by omega,j+1,by rw [wI_ (by omega) (by omega)]; simp,by omega,rfl,?_⟩
     rw [jc4 (f:=λ i=>.int .u64 (z1g p a i)) (z:=.int .u64 0) rfl (by omega) rfl]
    ·obtain rfl:j=n:=by omega
     have e:(z1q p a j).length=j:=z1s p a j
     rw [Nat.sub_self]
     have e2:(List.map (λ i=>Value.int .u64 (z1g p a i)) (List.range j)++List.replicate 0 (Value.int .u64 0))=(z1q p a j).map (.int .u64):=by simp [z1q]
     rw [e2]
     exact ⟨List.prefix_append _ _,some ⟨S.length,0,none⟩,j,by rw [e],j51 jek,rfl,rfl,rfl⟩
theorem z4y {S:St} {b n:Nat} {c:List Value} {e:TypeId} {g:Option Nat} {Q:List Value->St->Prop} (hb:S[b]? = some (.cells c e g)) (hn:c.length=n) (q:Q c S):WP (rdN (some ⟨b,0,none⟩) n) S Q:=by
 refine zgm hb rfl (by simp [hn]) ?_
 rw [List.drop_zero,<- hn,List.take_length]; exact q
theorem zcl {p:Int} {S:St} {axes:Option Addr} {n c:Nat} {l:List Ax} (h:Ar S axes n 2 eAx l) (hl:n<=8796093022208) (inv:Bool) (s:Stp) :
 Sp (joj [vU p,.slice axes n c,vB inv,vA [vI s.ax,vB s.tw,vI s.st.R,vI s.st.L,vI s.st.M]]) S λ v S'=>∃ b k,v=vT [.slice b (zck p l inv s (zcd p l inv s)).length k,vI (zam p l s)] /\
  Ar S' b (zck p l inv s (zcd p l inv s)).length 1 eU (zck p l inv s (zcd p l inv s)):=by
 unfold Sp
 have hn:=h.1
 rw [jok]
 simp only [wps]
 refine (zat (h.mono (List.prefix_append _ _)) hl s).use ?_
 rintro _ S1 h1 rfl
 have h0:=z20 h1
 have hb:=z1w h1 jek
 simp only [wps,j6u hb]
 unfold zck
 refine ⟨λ h2=>by rw [if_neg h2]; exact ⟨h0,none,0,rfl,.nil⟩,λ h2=>?_⟩
 rw [if_pos h2,h2]
 obtain ⟨hg,hs⟩:=zan h2
 obtain ⟨hb0,hb1⟩:=j5w hg hs inv
 obtain ⟨hk,_,hall⟩:=jqn hg
 obtain ⟨k,hkl,e0,h3⟩:=hs
 obtain ⟨hr,ho⟩:=hall l[k] (List.getElem_mem hkl)
 obtain ⟨n1,n2,_⟩:=z4k hr
 have hax:j5j l s.ax=l[k]:=by rw [e0,j5k l k hkl]
 obtain ⟨a,rfl,c1,c2⟩:=(h.mono h0).getAx hkl
 rw [e0]
 simp only [wps,c1,c2]
 refine ⟨by omega,?_⟩
 have hb2:∀ o,(S1++[o])[S.length]? = _:=λ o=>jeh hb
 simp only [wps,λ o=>j6u (hb2 o)]
 refine j5x.use ?_
 rintro _ S2 h4 rfl
 rw [hax] at hb0 hb1
 have h5:=(z1t h0 _).trans h4
 have hb3:=z1w h4 (hb2 _)
 have hb4:=z1w h4 jek
 simp only [wps,hb0,j6u hb3,j6u hb4]
 unfold zcd
 rw [hax]
 rcases h3 with ⟨h3,h6⟩ | ⟨h3,h6⟩
 ·obtain ⟨N,hN⟩:=Int.eq_ofNat_of_zero_le (show 0<=l[k].N by omega)
  generalize (j5v p l[k] inv s).1=w at hb1 ⊢
  have hpw:z1o p w (N:Int)=(z1q p w N,0):=by unfold z1o;rw [if_pos hk,if_neg (by omega),Int.toNat_natCast]
  simp only [wps,h3]
  rw [if_pos (by simp),hN,Int.toNat_natCast]
  refine (z1p (p:=p) (a:=w) hb1).use ?_
  rintro _ S3 h7 ⟨b,k',rfl,hpa,hpb⟩
  rw [hpw] at hpa hpb ⊢
  obtain ⟨rfl,hk',hpc⟩:=hpb rfl
  rw [Int.toNat_natCast] at hk'
  have hk':=hk'.symm
  subst hk'
  simp only [z1s,Int.toNat_natCast] at hpa hpc
  simp only [wps,z1s]
  refine ⟨λ h8=>?_,λ h8=>?_⟩
  ·rw [h8]
   simp only [wps,Bool.false_eq_true,if_false]
   rw [z1s]
   exact ⟨h5.trans h7,_,_,rfl,hpa⟩
  ·rw [h8]
   have hred:red p (N:Int)≠0:=by
    unfold red;rw [if_pos hk]
    have : (N:Int) < p:=by rcases jt5 hk with rfl | rfl | rfl <;> simp only [P0,P1,P2] <;> omega
    rw [Int.emod_eq_of_lt (by omega) this]; omega
   obtain ⟨i0,i1⟩:=jsf hk hred
   have e3:wU (N:Int)=N:=wU_ (by omega) (by omega)
   have hb6:=z1w h7 hb4
   simp only [wps,j6u hb6,hN,e3,jsg (p:=p) (a:=(N:Int)) ⟨by omega,by omega⟩,i0]
   generalize (js7 p (N:Int)).1=iv at i1 ⊢
   simp only [if_true,List.length_map,z1s]
   refine zgd (λ st S' m=>∃ j:Nat,st=[vI j]/\j<=N/\m=N-j/\S3.set S2.length (.cells ((((z1q p w N).map λ x=>jxc p x iv).take j++(z1q p w N).drop j).map (.int .u64)) 24 none) <+: S') ?_ N _ _
    ⟨0,rfl,by omega,by omega,by
      simp only [List.take_zero,List.nil_append,List.drop_zero]
      rw [z82 hpc]; exact List.prefix_rfl⟩
   rintro st S' m ⟨j,rfl,hj,rfl,hp⟩
   have hS2:S2.length < S3.length:=z1y hpc
   have hlen:=z1s p w N
   have hbl:=z1w hp (i:=S2.length) (by rw [List.getElem?_set_self hS2])
   simp only [wps]
   refine ⟨λ h9=>⟨h9,?_⟩,λ h9=>?_⟩
   ·have hj':j < N:=by omega
    have hx:=z1i p w j
    have hx2:(z1q p w N)[j]? = some (z1g p w j):=by simp [z1q,hj']
    have hl1:(((z1q p w N).map λ x=>jxc p x iv).take j).length=j:=by simp;omega
    have hcell:S'.cell ⟨S2.length,j,none⟩=some (.int .u64 (z1g p w j)):=by
     rw [j6u hbl,List.getElem?_map,List.getElem?_append_right (by omega),hl1,Nat.sub_self,List.getElem?_drop,Nat.add_zero,hx2]; rfl
    simp only [wps,hcell,jxn (p:=p) hx i1,hbl]
    refine ⟨h9,by simp;omega,N-(j+1),by omega,j+1,by rw [wI_ (by omega) (by omega)]; simp,by omega,rfl,?_⟩
    have e4:splice ((((z1q p w N).map λ x=>jxc p x iv).take j++(z1q p w N).drop j).map (.int .u64)) j [.int .u64 (jxc p (z1g p w j) iv)]=(((z1q p w N).map λ x=>jxc p x iv).take (j+1)++(z1q p w N).drop (j+1)).map (.int .u64):=by
     rw [z9v (by simp;omega),<- List.map_set,List.set_append_right _ _ (by omega),hl1,Nat.sub_self,List.drop_eq_getElem_cons (by omega),List.set_cons_zero,List.take_add_one,List.getElem?_map,hx2]
     simp
    rw [e4]
    have:=z23 hp (b:=S2.length) (o:=.cells ((((z1q p w N).map λ x=>jxc p x iv).take (j+1)++(z1q p w N).drop (j+1)).map (.int .u64)) 24 none) (by simpa using hS2)
    rwa [List.set_set] at this
   ·obtain rfl:j=N:=by omega
    rw [List.take_of_length_le (by simp;omega),List.drop_of_length_le (by omega),List.append_nil] at hbl
    have h10:S <+: S':=(h5.trans (z24 h7 (Nat.le_refl _))).trans hp
    refine ⟨h10,_,_,rfl,?_⟩
    have:=j51 hbl
    rwa [List.length_map,z1s] at this
 ·obtain ⟨g1,g2,g3,g4,g5,g6⟩:=zak (zai hr).1 h6
  have hp1:1<=s.st.R*s.st.M:=by have:=Int.mul_le_mul (show 1<=s.st.R by omega) g4 (by omega) (by omega); omega
  have hp2:=z2w g3 hp1 g5 g6
  have hM:s.st.M<=4096:=z2w (show 1<=s.st.R by omega) g4 rfl hp2
  rw [Int.mul_comm] at hp1 hp2
  simp only [wps,h3]
  rw [wI_ (n:=s.st.M*s.st.R) (by omega) (by omega)]
  obtain ⟨R,hR⟩:=Int.eq_ofNat_of_zero_le (show 0<=s.st.R by omega)
  obtain ⟨M',hM'⟩:=Int.eq_ofNat_of_zero_le (show 0<=s.st.M by omega)
  generalize hw:(j5v p l[k] inv s).1=w at hb1 ⊢
  have e1:(s.st.M*s.st.R).toNat=M'*R:=by rw [hR,hM',<- Int.natCast_mul,Int.toNat_natCast]
  have e2:s.st.M*s.st.R=((M'*R:Nat):Int):=by rw [hR,hM',Int.natCast_mul]
  rw [hR,hM'] at hp1 hp2
  rw [e1,zhy,hR,hM',Int.toNat_natCast,Int.toNat_natCast,if_neg (by simp)]
  refine ⟨⟨by decide,by omega,by omega,by omega,rfl⟩,?_⟩
  refine zgd (λ st S' m=>∃ j:Nat,st=[.slice (some ⟨S2.length,0,none⟩) (j*R) (M'*R),vU (z1g p w j)]/\j<=M'/\m=M'-j/\S2++[.cells ((z6j p w R j).map (.int .u64)++List.replicate ((M'-j)*R) (.int .u64 0)) 24 none] <+: S') ?_ M' _ _
   ⟨0,by rw [z1k w hk]; simp,by omega,by omega,by simp [z6j]⟩
  rintro st S' m ⟨j,rfl,hj,rfl,hp⟩
  have hp':=z20 hp
  have hb5:=z1w hp' hb3
  have hlen:=z6l p w R j
  have hbl:=z1w hp jek
  have h7:=h5.trans hp'
  rcases Nat.lt_or_ge j M' with h8 | h8
  ·have h9:j*R+R<=M'*R:=by rw [<- Nat.succ_mul]; exact Nat.mul_le_mul_right _ h8
   have hm:=jxn (p:=p) (z1i p w j) hb1
   rw [jxg] at hm
   have hpw:z1o p (z1g p w j) (R:Int)=(z1q p (z1g p w j) R,0):=by unfold z1o;rw [if_pos hk,if_neg (by omega),Int.toNat_natCast]
   simp only [wps,j6u hb5,hR,hM',hm]
   rw [show (M':Int)*R=((M'*R:Nat):Int) by rw [Int.natCast_mul],wI_ (n:=((M'*R:Nat):Int)) (by omega) (by omega)]
   refine ⟨λ h10=>?_,λ h10=>by omega⟩
   refine (z1p (p:=p) (a:=z1g p w j) (z1i p w j)).use ?_
   rintro _ S3 h11 ⟨b,k',rfl,hpa,hpb⟩
   rw [hpw] at hpa hpb ⊢
   obtain ⟨rfl,hk',hpc⟩:=hpb rfl
   simp only [wps,z1s]
   refine z4y hpc (by rw [List.length_map,z1s]) ?_
   have hbl2:=z1w h11 hbl
   refine zfu hbl2 h9 ?_ (by simp [juu]) ?_
   ·simp only [List.length_map,z1s,List.length_append,List.length_replicate,hlen]
    have : (M'-j)*R=M'*R-j*R:=Nat.sub_mul ..
    omega
   ·simp only [wps]
    refine ⟨M'-(j+1),by omega,j+1,by rw [Nat.succ_mul],by omega,rfl,?_⟩
    have e4:splice ((z6j p w R j).map (.int .u64)++List.replicate ((M'-j)*R) (.int .u64 0)) (j*R) ((z1q p (z1g p w j) R).map (.int .u64))=(z6j p w R (j+1)).map (.int .u64)++List.replicate ((M'-(j+1))*R) (.int .u64 0):=by
     have e5:(M'-j)*R-R=(M'-(j+1))*R:=by rw [<- Nat.sub_one_mul,Nat.sub_sub]
     unfold splice
     rw [z6j,List.take_append_of_le_length (by simp [hlen]),List.take_of_length_le (by simp [hlen]),List.drop_append,List.drop_of_length_le (by simp [hlen])]
     simp [hlen,z1s,e5]
    rw [e4]
    exact z25 (hp.trans h11)
  ·obtain rfl:j=M':=by omega
   simp only [wps,j6u hb5,hR,hM']
   rw [show (j:Int)*R=((j*R:Nat):Int) by rw [Int.natCast_mul],wI_ (n:=((j*R:Nat):Int)) (by omega) (by omega)]
   refine ⟨λ h10=>by omega,λ h10=>?_⟩
   refine ⟨h7,_,_,by rw [hlen],?_⟩
   rw [Nat.sub_self,Nat.zero_mul,List.replicate_zero,List.append_nil] at hbl
   exact j51 hbl
theorem zb2 {inv:Bool} {k:Int} {b sa:Option Addr} {sts:List Sg} {nl q n1:Nat} {S0 S:St} {dn:List Stp} {Q:Nat×List Value->St->Prop}
 (h:Ap S0 none S sa q 29 5 (dn.flatMap jaj)) (hr:Ar S b nl 3 eSg sts) (hne:∀ x,b=some x->sa≠some ⟨x.block,0,none⟩)
 (hn:S[n1]? = some (.cells [vI k,vB true,vI 0,vI 0,vI 0] 29 none)) (hk:0<=k/\k < 1000) (hsz:dn.length+sts.length+1<=100000)
 (hq:∀ sa' q' S',Ap S0 none S' sa' q' 29 5 ((dn++sts.map (stg k)++(if inv=true then [tw k] else [])).flatMap jaj)->Q (0,[.slice sa' q' q',vI (k+1)]) S') :
 WP (jtn inv k ⟨b,nl,nl⟩ n1 (0,[.slice sa q q])) S Q:=by
 have hnl:=hr.1
 unfold jtn
 simp only [wps]
 refine zgd (λ st S' m=>∃ (j:Nat) (sa':Option Addr) (q':Nat),st=[.slice sa' q' q',vI j]/\j<=nl/\m=nl-j/\Ap S sa S' sa' q' 29 5 ((dn++(sts.take j).map (stg k)).flatMap jaj)) ?_ nl _ _
  ⟨0,sa,q,rfl,by omega,by omega,by simpa using h.start⟩
 rintro st S' m ⟨j,sa',q',rfl,hj,rfl,ha⟩
 have hcnt:=ha.cnt (λ _=>rfl) (by decide)
 simp only [List.length_append,List.length_map,List.length_take] at hcnt
 simp only [wps]
 refine ⟨λ h3=>⟨h3,?_⟩,λ h3=>?_⟩
 ·have hj':j < sts.length:=by omega
  obtain ⟨a,rfl,c1,c2,c3⟩:=(ha.kAr hr hne).getSg hj'
  simp only [wps,c1,c2,c3]
  refine zgh (ha.more (List.prefix_append _ _)) rfl (by omega) (by omega) rfl ?_
  intro b' S2 h6
  simp only [wps]
  rw [wI_ (n:=(j:Int)+1) (by omega) (by omega)]
  refine ⟨nl-(j+1),by omega,j+1,_,_,rfl,by omega,rfl,?_⟩
  have e:(dn++(sts.take (j+1)).map (stg k)).flatMap jaj=(dn++(sts.take j).map (stg k)).flatMap jaj++[vI k,vB false,vI sts[j].R,vI sts[j].L,vI sts[j].M]:=by
   have e0:(sts.take (j+1)).map (stg k)=(sts.take j).map (stg k)++[stg k sts[j]]:=by
    rw [List.take_add_one,List.getElem?_eq_getElem hj',List.map_append]; rfl
   rw [e0,<- List.append_assoc,List.flatMap_append]; rfl
  rw [e]; exact h6
 ·rw [List.take_of_length_le (by omega)] at ha
  have hb:=ha.cells hn
  rw [wI_ (n:=k+1) (by omega) (by omega)]
  simp only [wps,j6u hb]
  refine ⟨λ hi=>?_,λ hi=>?_⟩
  ·refine zgh ha rfl (by omega) (by omega) rfl ?_
   intro b' S2 h6
   simp only [wps]
   refine hq _ _ _ ?_
   rw [hi,if_pos rfl]
   have:=h.trans (h.start.trans h6)
   simpa [jaj,tw] using h.trans h6
  ·refine hq _ _ _ ?_
   rw [hi,if_neg (by simp),List.append_nil]
   exact h.trans ha
theorem zb3 {p:Int} {S:St} {axes:Option Addr} {n c:Nat} {l:List Ax} (h:Ar S axes n 2 eAx l) (hl:n<=8796093022208) (inv:Bool) :
 WP (jlb [vU p,.slice axes n c,vB inv]) S λ v S'=>∃ a,v=vT [.slice a (zav p l inv).1.length (zav p l inv).1.length,vI (zav p l inv).2]/\Ap S none S' a (zav p l inv).1.length 29 5 ((zav p l inv).1.flatMap jaj):=by
 have hn:=h.1
 rw [jlc]
 simp only [wps]
 refine (jqo h hl).use ?_
 rintro _ S1 h1 rfl
 simp only [wps]
 unfold zav
 refine ⟨λ h2=>by rw [if_neg h2]; exact ⟨none,rfl,Ap.nil.more h1⟩,λ h2=>?_⟩
 rw [if_pos h2]
 obtain ⟨hk,hal,hall⟩:=jqn h2
 have h4:n<=4:=by have:=(j2k hal).2.1;simp [j9y] at this;omega
 have hbig:=(zax inv l (λ a ha=>(hall a ha).1) l 0 rfl).2
 generalize hG:zau inv 0 l=G
 have hG':zau inv ((0:Nat):Int) l=G:=hG
 rw [hG'] at hbig
 refine zgd (λ st S' m=>∃ (j:Nat) (sa:Option Addr) (q:Nat) (dn:List Stp),st=[.slice sa q q,vI j]/\j<=n/\m=n-j/\Ap S1 none S' sa q 29 5 (dn.flatMap jaj) /\
  dn++zau inv j (l.drop j)=G) ?_ n _ _ ⟨0,none,0,[],rfl,by omega,by omega,.nil,by simpa using hG'⟩
 rintro st S' m ⟨j,sa,q,dn,rfl,hj,rfl,ho,hd⟩
 have hq:=ho.cnt (λ _=>rfl) (by decide)
 simp only [wps]
 refine ⟨λ h3=>⟨h3,?_⟩,λ h3=>?_⟩
 ·have hj':j < l.length:=by omega
  obtain ⟨a,rfl,c1,c2⟩:=(h.mono (h1.trans ho.pre)).getAx hj'
  rw [List.drop_eq_getElem_cons hj',zau] at hd
  have hst:=zai (hall _ (List.getElem_mem hj')).1
  have hbd:dn.length+(zah l[j].N).1.length+2<=100000:=by
   have : (dn++_).length=_:=congrArg List.length hd
   simp only [List.length_append,List.length_map] at this
   omega
  simp only [wps,c1,c2]
  refine zal.mono ?_
  rintro _ S2 ⟨b,rfl,hsa⟩
  have h5:=hsa.pre
  have hb1:=z1w h5 jek
  have ho2:=ho.more (z20 h5)
  have har:=hsa.ar (λ _=>rfl) (by decide)
  have hfr:∀ x,b=some x->S'.length < x.block:=λ x hx=>by have:=hsa.new hx;simp at this;omega
  simp only [wps,hst.1]
  have hb2:∀ o,(S2++[o])[S'.length]? = _:=λ o=>jeh hb1
  have fin:∀ (sa':Option Addr) (q':Nat) (S':St),Ap S1 none S' sa' q' 29 5 ((dn++(if l[j].neg=true/\inv=false then [tw j] else [])++(zah l[j].N).1.map (stg j)++(if inv=true then [tw j] else [])).flatMap jaj) ->
   ∃ n',n' < n-j/\∃ (j_1:Nat) (sa:Option Addr) (q:Nat) (dn:List Stp),[Value.slice sa' q' q',vI (j+1)]=[Value.slice sa q q,vI ↑j_1]/\j_1<=n/\n'=n-j_1/\Ap S1 none S' sa q 29 5 (List.flatMap jaj dn)/\dn++zau inv ↑j_1 (List.drop j_1 l)=G:=by
   intro sa' q' S' hap
   refine ⟨n-(j+1),by omega,j+1,sa',q',_,by simp,by omega,rfl,hap,?_⟩
   rw [<- hd,show ((j:Int)+1)=((j+1:Nat):Int) by omega]
   simp only [List.append_assoc]
  simp only [wps,λ o=>j6u (hb2 o)]
  refine ⟨λ h6=>⟨λ h7=>?_,λ h7=>?_⟩,λ h6=>?_⟩
  ·have hin:∀ x,b=some x->sa≠some ⟨x.block,0,none⟩:=λ x hx e=>by
    have:=hfr x hx
    have h9:=ho.lt e
    omega
   have hm:=ho2.more (List.prefix_append S2 [.cells [vI (j:Int),vB true,vI 0,vI 0,vI 0] 29 none])
   refine zgh (bt:=40) hm.start rfl (by omega) (by omega) rfl ?_
   intro b' S3 h8
   have h9:=hm.trans h8
   have e9:dn.flatMap jaj++[vI (j:Int),vB true,vI 0,vI 0,vI 0]=(dn++[tw j]).flatMap jaj:=by simp [jaj,tw]
   rw [e9] at h9
   refine zb2 (sts:=(zah l[j].N).1) h9 (h8.kAr (har.mono (List.prefix_append _ _)) hin) (λ x hx e=>?_) (h8.cells jek) ⟨by omega,by omega⟩ (by simp;omega) ?_
   ·rcases h8.at_ with h10 | ⟨c',h10,h11⟩
    ·rw [h10] at e;exact hin x hx e
    ·rw [h10] at e
     have h12:=hsa.below hx
     simp at e h11
     omega
   ·intro sa' q' S' hap
    exact fin sa' q' S' (by rw [if_pos ⟨h6,h7⟩]; exact hap)
  ·have h8:=ho2.more (List.prefix_append S2 [.cells [vI (j:Int),vB true,vI 0,vI 0,vI 0] 29 none])
   refine zb2 (sts:=(zah l[j].N).1) h8 (har.mono (List.prefix_append _ _)) (λ x hx e=>?_) jek ⟨by omega,by omega⟩ (by omega) ?_
   ·have:=hfr x hx
    have h9:=ho.lt e
    omega
   ·intro sa' q' S' hap
    exact fin sa' q' S' (by rw [if_neg (by simp [h7]),List.append_nil]; exact hap)
  ·have h8:=ho2.more (List.prefix_append S2 [.cells [vI (j:Int),vB true,vI 0,vI 0,vI 0] 29 none])
   refine zb2 (sts:=(zah l[j].N).1) h8 (har.mono (List.prefix_append _ _)) (λ x hx e=>?_) jek ⟨by omega,by omega⟩ (by omega) ?_
   ·have:=hfr x hx
    have h9:=ho.lt e
    omega
   ·intro sa' q' S' hap
    exact fin sa' q' S' (by rw [if_neg (by simp [h6]),List.append_nil]; exact hap)
 ·rw [List.drop_eq_nil_of_le (by omega),zau,List.append_nil] at hd
  subst hd
  rw [<- hq]
  exact ⟨sa,rfl,(Ap.nil.more h1).trans ho⟩
theorem zbs {S:St} {p:Option Addr} {n c:Nat} {l:List Int} (h:Ar S p n 1 eI l) (hn:n<=140737488355328):Gv (jhg [.slice p n c]) S (vI (zbp 0 l)):=by
 refine .of ?_
 have hl:=h.1
 rw [jhh]
 simp only [wps]
 refine zgd (λ st S' m=>∃ (j:Nat) (x:Int),st=[vI x,vI j]/\j<=n/\m=n-j/\S'=S/\zbp 0 l=zbp x (l.drop j)) ?_ n _ _ ⟨0,0,rfl,by omega,by omega,rfl,by simp⟩
 rintro st S' m ⟨j,x,rfl,hj,rfl,rfl,hg⟩
 simp only [wps]
 refine ⟨λ h3=>⟨h3,?_⟩,λ h3=>?_⟩
 ·obtain ⟨a,rfl,c1⟩:=h.getI (i:=j) (by omega)
  rw [List.drop_eq_getElem_cons (by omega),zbp] at hg
  simp only [wps,c1]
  exact ⟨n-(j+1),by omega,j+1,_,by rw [wI_ (n:=(j:Int)+1) (by omega) (by omega)]; simp,by omega,rfl,hg⟩
 ·rw [List.drop_eq_nil_of_le (by omega),zbp] at hg
  rw [hg]
theorem zik {n t:Int} {S:St}:Sp (jh8 [vI n,vI t]) S λ v S'=>v=vT [vI (stV n t).1,vI (stV n t).2]:=by
 unfold Sp
 rw [zi9]
 unfold stV
 simp only [wps]
 refine ⟨λ h=>⟨List.prefix_rfl,by rw [if_pos (by omega)]⟩,λ h1=>⟨λ h=>⟨List.prefix_rfl,by rw [if_pos (by omega)]⟩,λ h2=>⟨λ h=>⟨List.prefix_rfl,by rw [if_pos (by omega)]⟩,λ h3=>⟨λ h=>⟨List.prefix_rfl,by rw [if_pos (by omega)]⟩,λ h4=>?_⟩⟩⟩⟩
 rw [if_neg (by omega),wI_ (n:=n+6) (by omega) (by omega),wI_ (n:=3*n) (by omega) (by omega),wI_ (n:=3*n+6) (by omega) (by omega)]
 have ha:Ar (S++[.cells [vI (n+6),vI t,vI (3*n+6),vI n,vI t,vI n] 3 none]) (some (ad S.length 0)) 6 1 eI [n+6,t,3*n+6,n,t,n]:=Ar.blk (l:=[n+6,t,3*n+6,n,t,n]) jek (λ _ _=>rfl) rfl
 simp only [wps,(zbs ha (by omega)).wp]
 refine ⟨List.prefix_append _ _,?_⟩
 rw [zja 20000 (by omega) _ 0 (by intro x hx;simp at hx;omega) (by omega) (by simp)]
 have : (0:Int)+[n+6,t,3*n+6,n,t,n].sum=6*n+12+2*t:=by simp;omega
 rw [this]
theorem jwf {p:Int} {S:St} {axes:Option Addr} {n c:Nat} {l:List Ax} (h:Ar S axes n 2 eAx l) (hl:n<=8796093022208) (inv:Bool) :
 Sp (jl8 [vU p,.slice axes n c,vB inv]) S λ v S'=>∃ a,v=vT [vA [vI (jwd p l inv).1.N,vI (jwd p l inv).1.T,vI (jwd p l inv).1.W,.slice a (jwd p l inv).1.st.length (jwd p l inv).1.st.length],vI (jwd p l inv).2] /\
  Ar S' a (jwd p l inv).1.st.length 5 jaj (jwd p l inv).1.st:=by
 unfold Sp
 have hn:=h.1
 rw [jl9]
 simp only [wps]
 refine (zb3 (h.mono (List.prefix_append _ _)) hl inv).mono ?_
 rintro _ S1 ⟨a,rfl,hap⟩
 have h1:=hap.pre
 have h0:=z20 h1
 have hb:=z1w h1 jek
 have har:=hap.ar (λ _=>rfl) (by decide)
 unfold jwd
 unfold zav at hap har ⊢
 by_cases h2:jqm p l=0
 ·simp only [if_pos h2] at hap har ⊢
  obtain ⟨hk,hal,hall⟩:=jqn h2
  have h4:n<=4:=by have:=(j2k hal).2.1;simp [j9y] at this;omega
  obtain ⟨hst,hsl⟩:=zax inv l (λ a ha=>(hall a ha).1) l 0 rfl
  simp only [wps]
  refine (j9z (h.mono h0) hl).use ?_
  rintro _ S2 h5 ⟨a2,k2,rfl,hd⟩
  simp only [wps,(j2q hd).wp,hal]
  have hN:(allV (j9y l)).1=nV l:=rfl
  rw [hN]
  generalize hG:zau inv 0 l=G at hap har ⊢
  have hst:∀ s∈G,j0o l s:=by rw [<- hG]; exact hst
  have hsl:G.length<=l.length*4098:=by rw [<- hG]; exact hsl
  refine zgd (λ st S' m=>∃ (j:Nat) (t:Int),st=[vI j]/\j<=G.length/\m=G.length-j/\S2++[.cells [vI (nV l),vI t,vI 0,.slice a G.length G.length] 90 none] <+: S'/\0<=t/\t<=4096 /\
   jx7 p l inv 0 G=jx7 p l inv t (G.drop j)) ?_ G.length _ _ ⟨0,0,rfl,by omega,by omega,List.prefix_rfl,by omega,by omega,by simp⟩
  rintro st S' m ⟨j,t,rfl,hj,rfl,hp,ht0,ht1,hg⟩
  have h6:=(h5.trans (z20 hp))
  have hbl:=z1w hp jek
  simp only [wps]
  refine ⟨λ h3=>⟨h3,?_⟩,λ h3=>?_⟩
  ·have hj':j < G.length:=by omega
   obtain ⟨x,rfl,c1,c2,c3,c4,c5⟩:=(har.mono h6).getStp hj'
   have hs:=hst _ (List.getElem_mem hj')
   have hs0:=zao p l _ h2 hs
   have htl:=zcg inv h2 hs
   simp only [wps,c1,c2,c3,c4,c5]
   refine (zcl (h.mono ((h0.trans h6).trans (List.prefix_append _ _))) hl inv G[j]).use ?_
   rintro _ S3 h7 ⟨b,k,rfl,_⟩
   have hb2:=z1w (z20 h7) hbl
   unfold zck
   simp only [hs0,if_true]
   simp only [wps,j6u hb2,hb2]
   refine ⟨by simp,G.length-(j+1),by omega,j+1,_,by rw [wI_ (n:=(j:Int)+1) (by omega) (by omega)]; simp,by omega,rfl,z25 (hp.trans (z20 h7)),?_,?_,?_⟩
   ·split <;> omega
   ·split <;> omega
   ·rw [List.drop_eq_getElem_cons hj',jx7] at hg
    exact hg
  ·rw [List.drop_eq_nil_of_le (by omega),jx7] at hg
   have hn1:=jxs h2
   have hb3:=z1w (h6) hb
   have hlt1:=z1y hbl
   have hlt2:=z1y hb3
   have hne:S.length < S2.length:=z1y (z1w h5 hb)
   rw [wI_ (n:=nV l+6) (by omega) (by omega),wI_ (n:=2*(nV l+6)) (by omega) (by omega)]
   have g1:∀ o,(S'.set S2.length o)[S2.length]? = some o:=λ o=>by rw [List.getElem?_set_self hlt1]
   have g2:∀ o,(S'.set S2.length o)[S.length]? = some _:=λ o=>by rw [List.getElem?_set_ne (by omega)]; exact hb3
   have g3:∀ o o',((S'.set S2.length o).set S.length o')[S.length]? = some o':=λ o o'=>by rw [List.getElem?_set_self (by simpa using hlt2)]
   simp only [wps,j6u hbl,hbl,g2,λ o c t g=>j6u (g1 (j00.cells c t g)) o]
   have g4:∀ c t g o,St.cell (S'.set S2.length (j00.cells c t g)) ⟨S2.length,o,none⟩=c[o]?:=λ c t g o=>j6u (g1 _) o
   have g5:∀ o' c t g o,St.cell ((S'.set S2.length o').set S.length (j00.cells c t g)) ⟨S.length,o,none⟩=c[o]?:=λ o' c t g o=>j6u (g3 _ _) o
   simp only [wps,g4,g2,g5]
   rw [wI_ (n:=2*(nV l+6)+t) (by omega) (by omega)]
   refine ⟨by omega,z24 (z24 (h0.trans h6) (by omega)) (Nat.le_refl _),a,?_,?_⟩
   ·rw [hg]
   ·refine ((har.mono h6).set (λ x hx=>?_)).set λ x hx=>?_
    ·have:=hap.below hx
     have:=h5.length_le
     omega
    ·have:=hap.new hx
     simp at this;omega
 ·simp only [if_neg h2] at hap har ⊢
  have hlt:=z1y hb
  have g5:∀ c t g o,St.cell (S1.set S.length (j00.cells c t g)) ⟨S.length,o,none⟩=c[o]?:=λ c t g o=>j6u (List.getElem?_set_self hlt) o
  simp only [wps,hb,g5]
  refine ⟨λ _=>⟨z24 h0 (Nat.le_refl _),none,rfl,.nil⟩,λ h=>absurd h h2⟩
theorem zj9 {l:List Ax} (hall:∀ a∈l,(z4j a.N).2=0) (inv:Bool):(∀ s∈zau inv 0 l,j0o l s)/\(zau inv 0 l).length<=l.length*4098:=zax inv l hall l 0 rfl
theorem zil {p:Int} {S:St} {axes:Option Addr} {n c:Nat} {l:List Ax} (h:Ar S axes n 2 eAx l) (hl:n<=8796093022208) (inv:Bool) :
 Sp (jhd [vU p,.slice axes n c,vB inv]) S λ v S'=>∃ a k,v=(if jqm p l=0 then vT [vI (nV l),.slice a (zau inv 0 l).length k,vI 0] else vT [vI 0,.slice a 0 k,vI (jqm p l)]) /\
  (jqm p l=0->Ar S' a (zau inv 0 l).length 1 eI (j80 p l inv (zau inv 0 l))):=by
 unfold Sp
 have hn:=h.1
 rw [jhe]
 simp only [wps]
 refine (jwf h hl inv).use ?_
 rintro _ S1 h1 ⟨a,rfl,har⟩
 unfold jwd at har ⊢
 by_cases h2:jqm p l=0
 ·simp only [if_pos h2] at har ⊢
  obtain ⟨hk,hal,hall⟩:=jqn h2
  have h4:n<=4:=by have:=(j2k hal).2.1;simp [j9y] at this;omega
  obtain ⟨hst,hsl⟩:=zj9 (λ a ha=>(hall a ha).1) inv
  have hn1:=jxs h2
  generalize hG:zau inv 0 l=G at har hst hsl ⊢
  simp only [wps,zhy]
  have hbm:∀ o,(S1++[j00.cells [vI (nV l),vI (jx7 p l inv 0 G),vI (2*(nV l+6)+jx7 p l inv 0 G),Value.slice a G.length G.length] 90 none]++[o])[S1.length]? = _:=λ o=>jeh jek
  simp only [wps,λ o=>j6u (hbm o)]
  refine ⟨⟨by omega,by omega,by omega,rfl⟩,?_⟩
  generalize hB:S1++[j00.cells [vI (nV l),vI (jx7 p l inv 0 G),vI (2*(nV l+6)+jx7 p l inv 0 G),Value.slice a G.length G.length] 90 none]=B at hbm ⊢
  have h3:S1 <+: B:=by rw [<- hB]; exact List.prefix_append _ _
  have hlenC:(j80 p l inv G).length=G.length:=by simp [j80]
  refine zgd (λ st S' m=>∃ j:Nat,st=[vI j]/\j<=G.length/\m=G.length-j/\B++[.cells (((j80 p l inv G).take j).map (.int .i64)++List.replicate (G.length-j) (.int .i64 0)) 3 none] <+: S') ?_ G.length _ _
   ⟨0,rfl,by omega,by omega,by simp⟩
  rintro st S' m ⟨j,rfl,hj,rfl,hp⟩
  have h5:=h3.trans (z20 hp)
  have hbl:=z1w hp jek
  have hb0:=z1w hp (hbm _)
  simp only [wps]
  refine ⟨λ h6=>⟨h6,?_⟩,λ h6=>?_⟩
  ·have hj':j < G.length:=by omega
   obtain ⟨x,rfl,c1,c2,c3,c4,c5⟩:=(har.mono h5).getStp hj'
   have hs:=hst _ (List.getElem_mem hj')
   have hs0:=zao p l _ h2 hs
   have htl:=zcg inv h2 hs
   simp only [wps,c1,c2,c3,c4,c5]
   refine (zcl (h.mono ((h1.trans h5).trans (List.prefix_append _ _))) hl inv G[j]).use ?_
   rintro _ S3 h7 ⟨b,k,rfl,_⟩
   have h8:=z20 h7
   unfold zck
   simp only [hs0,if_true]
   simp only [wps,j6u (z1w h8 hb0)]
   refine zik.use ?_
   rintro _ S4 h9 rfl
   have hst2:stV (nV l) ((zcd p l inv G[j]).length:Int)=(6*nV l+12+2*((zcd p l inv G[j]).length:Int),0):=by unfold stV;rw [if_neg (by omega)]
   rw [hst2]
   have hb9:=z1w (h8.trans h9) hbl
   simp only [wps,hb9]
   refine ⟨h6,by simp [hlenC]; omega,G.length-(j+1),by omega,j+1,by rw [wI_ (n:=(j:Int)+1) (by omega) (by omega)]; simp,by omega,rfl,?_⟩
   rw [jc5 (l:=j80 p l inv G) (n:=G.length) (j:=j) (z:=0) (x:=6*nV l+12+2*((zcd p l inv G[j]).length:Int)) rfl hlenC hj' (by simp [j80,hj'])]
   exact z25 ((hp.trans h8).trans h9)
  ·simp only [wps,j6u hb0]
   refine ⟨h1.trans h5,some ⟨B.length,0,none⟩,G.length,rfl,λ _=>?_⟩
   rw [List.take_of_length_le (by omega),show G.length-j=0 by omega,List.replicate_zero,List.append_nil] at hbl
   have:=j50 hbl
   rwa [hlenC] at this
 ·simp only [if_neg h2] at har ⊢
  simp only [wps]
  refine ⟨λ _=>⟨h1.trans (List.prefix_append _ _),none,0,rfl,λ h=>absurd h h2⟩,λ h=>absurd h h2⟩
theorem zim {p:Int} {S:St} {axes:Option Addr} {n c:Nat} {l:List Ax} (h:Ar S axes n 2 eAx l) (hl:n<=8796093022208) (inv:Bool) :
 Sp (jha [vU p,.slice axes n c,vB inv]) S λ v S'=>v=vT [vI (zdo p l inv).1,vI (zdo p l inv).2]:=by
 unfold Sp
 have hn:=h.1
 rw [jhb]
 simp only [wps]
 refine (zil h hl inv).use ?_
 rintro _ S1 h1 ⟨a,k,rfl,har⟩
 unfold zdo
 by_cases h2:jqm p l=0
 ·have har:=har h2
  obtain ⟨hk,hal,hall⟩:=jqn h2
  have h4:n<=4:=by have:=(j2k hal).2.1;simp [j9y] at this;omega
  obtain ⟨hst,hsl⟩:=zj9 (λ a ha=>(hall a ha).1) inv
  have hn1:=jxs h2
  have hcr:=j81 inv h2 hst
  simp only [if_pos h2]
  simp only [wps,(zbs har (by omega)).wp]
  have ha2:Ar (S1++[.cells [vI (wI (nV l+6)),vI (wI (nV l+6)),vI (nV l)] 3 none]) (some (ad S1.length 0)) 3 1 eI [wI (nV l+6),wI (nV l+6),nV l]:=Ar.blk (l:=[wI (nV l+6),wI (nV l+6),nV l]) jek (λ _ _=>rfl) rfl
  simp only [wps,(zbs ha2 (by omega)).wp]
  refine ⟨h1.trans (List.prefix_append _ _),?_⟩
  have hlen:(j80 p l inv (zau inv 0 l)).length<=100000:=by simp [j80]; omega
  have hsr:=zbr 100000 (j80 p l inv (zau inv 0 l)) (λ x hx=>by have:=hcr x hx;omega)
  rw [zja 100000 (by omega) _ 0 (λ x hx=>by have:=hcr x hx;omega) (by omega) (by omega),Int.zero_add]
  rw [wI_ (n:=nV l+6) (by omega) (by omega),zja 20000 (by omega) _ 0 (by intro x hx;simp at hx;omega) (by omega) (by simp)]
  have e:(0:Int)+[nV l+6,nV l+6,nV l].sum=3*nV l+12:=by simp;omega
  rw [e,wI_ (by omega) (by omega)]
 ·simp only [if_neg h2]
  simp only [wps]
  exact ⟨λ _=>h1,λ h=>absurd h h2⟩
theorem jry {p:Int} {S:St} {a:Option Addr} {n c:Nat} {l:List Int} (h:Ar S a n 1 eU l) (hn:n<=140737488355328):Gv (jht [vU p,.slice a n c]) S (vB (inV p l)):=by
 refine .of ?_
 have hl:=h.1
 rw [jhu]
 simp only [wps,jt8]
 refine zgd (λ st S' m=>∃ j:Nat,st=[vI j]/\j<=n/\m=n-j/\S'=S/\(l.take j).all (λ a=>decide (a < p))=true) ?_ n _ _ ⟨0,rfl,by omega,by omega,rfl,by simp⟩
 rintro st S' m ⟨j,rfl,hj,rfl,rfl,hg⟩
 simp only [wps]
 unfold inV
 refine ⟨λ h3=>⟨h3,?_⟩,λ h3=>?_⟩
 ·have hj':j < l.length:=by omega
  obtain ⟨x,rfl,c1⟩:=h.getU hj'
  simp only [wps,c1]
  refine ⟨λ h4=>?_,λ h4=>⟨n-(j+1),by omega,j+1,by rw [wI_ (n:=(j:Int)+1) (by omega) (by omega)]; simp,by omega,rfl,?_⟩⟩
  ·have : l.all (λ a=>decide (a < p))=false:=by
    rw [List.all_eq_false]
    exact ⟨l[j],List.getElem_mem hj',by simp;omega⟩
   rw [this]; simp
  ·rw [List.take_add_one,List.getElem?_eq_getElem hj',List.all_append,hg]
   simp;omega
 ·rw [List.take_of_length_le (by omega)] at hg
  rw [hg]; simp
theorem j5z {n a b:Int}:jle [vI n,vI a,vI b]=M.ret (vB (decide (a<=n/\n<=b))):=by
 refine zg6 λ S=>?_
 rw [jlf]
 simp only [wps]
 refine ⟨λ h=>?_,λ h=>?_⟩
 ·by_cases h2:n<=b <;> simp [h,h2]
 ·simp [h]
theorem z0q {S:St} {q:Req} {a1 a4 a5:Option Addr} {c1 c4 c5 b:Nat} {n:Int} {t:TypeId} (hb:S[b]? = some (.cells [vI n] t none)) :
 Sp (jkw [qv q a1 c1 a4 c4 a5 c5,.pointer (some (ad b 0))]) S λ v S'=>v=vB ((q.X.length:Int) != wI (n*q.batch)):=by
 unfold Sp
 rw [jkx]
 have hb2:∀ o,(S++[o])[b]? = _:=λ o=>jeh hb
 simp only [wps,λ o=>j6u (hb2 o)]
 exact List.prefix_append _ _
theorem z0r {S:St} {q:Req} {a1 a4 a5:Option Addr} {c1 c4 c5:Nat} (h:QA S q a1 a4 a5) :
 Sp (jkz [qv q a1 c1 a4 c4 a5 c5]) S λ v S'=>v=vB (!inV q.P q.X):=by
 unfold Sp
 rw [jl0]
 simp only [wps,(jry (h.x.mono (List.prefix_append S [j00.cells (qc q a1 c1 a4 c4 a5 c5) 62 none])) h.b2).wp]
 exact List.prefix_append _ _
theorem z0s {S:St} {q:Req} {a1 a4 a5:Option Addr} {c1 c4 c5:Nat} :
 Sp (jl2 [qv q a1 c1 a4 c4 a5 c5]) S λ v S'=>v=vB (!decide (1<=q.seeds.length/\q.seeds.length<=4)):=by
 unfold Sp
 rw [jl3]
 simp only [wps,j5z]
 refine ⟨List.prefix_append _ _,?_⟩
 have e:(1<=(q.seeds.length:Int)/\(q.seeds.length:Int)<=4)=(1<=q.seeds.length/\q.seeds.length<=4):=propext (by omega)
 simp only [e]
theorem j7f {C:FuncId->List Value->M Value} {S:St} {q:Req} {a1 a4 a5:Option Addr} {c1 c4 c5:Nat} (h:QA S q a1 a4 a5) :
 Sp (jkt C [qv q a1 c1 a4 c4 a5 c5]) S λ v S'=>v=vI (j7c q):=by
 unfold Sp
 rw [jku]
 have hk1:∀ S1 Q,Q (vI 1) S1->WP (jtm C S.length (1,[vI 1])) S1 λ a S'=>WP (jzc a) S' Q:=by
  intro S1 Q hq
  unfold jtm
  simp only [wps]; exact hq
 have hp:S <+: S++[j00.cells (qc q a1 c1 a4 c4 a5 c5) 62 none]:=List.prefix_append _ _
 have key:(1<=q.batch/\q.batch<=16/\0<=q.retry/\q.retry<=8/\0<=q.again/\q.again<=8)->WP (jtm C S.length (0,[])) (S++[j00.cells (qc q a1 c1 a4 c4 a5 c5) 62 none]) λ a S'=>WP (jzc a) S' λ v S'=>S <+: S'/\v=vI (j7c q):=by
  intro hc
  have hb:∀ k,St.cell (S++[j00.cells (qc q a1 c1 a4 c4 a5 c5) 62 none]) ⟨S.length,k,none⟩=(qc q a1 c1 a4 c4 a5 c5)[k]?:=λ k=>j6u jek k
  unfold j7c jtm
  rw [if_pos hc]
  simp only [wps]
  refine (jqo (h.ax.mono hp) h.b1).use ?_
  rintro _ S1 h1 rfl
  have hb1:=z1w h1 jek
  simp only [wps,j6u hb1]
  refine ⟨λ h2=>⟨hp.trans h1,by rw [if_neg h2]⟩,λ h2=>?_⟩
  rw [if_pos h2]
  obtain ⟨hk,hal,hall⟩:=jqn h2
  have hn1:=jxs h2
  refine (j9z (h.ax.mono (hp.trans h1)) h.b1).use ?_
  rintro _ S2 h3 ⟨b,k,rfl,hd⟩
  have hN:(allV (j9y q.axes)).1=nV q.axes:=rfl
  have hb2:=jeh (t:=[j00.cells [vI (nV q.axes)] 3 none]) (z1w h3 hb1)
  simp only [wps,(j2q hd).wp,hal,hN]
  have hS2:=hp.trans (h1.trans h3)
  have hqa:=h.mono (hS2.trans (List.prefix_append S2 [j00.cells [vI (nV q.axes)] 3 none]))
  have hnb:nV q.axes*q.batch<=4096*16:=Int.mul_le_mul hn1.2 (by omega) (by omega) (by omega)
  have hnb0:0<=nV q.axes*q.batch:=Int.mul_nonneg (by omega) (by omega)
  -- the first look
  have hql:S[S.length]? = none:=by simp
  have hbq:=jeh (t:=[j00.cells [vI (nV q.axes)] 3 none]) (z1w (h1.trans h3) jek)
  refine zgp ?_
  have hx2:∀ o o' k,St.cell (S2++[o]++[o']) ⟨S.length,k,none⟩=(qc q a1 c1 a4 c4 a5 c5)[k]?:=λ o o' k=>j6u (jeh (jeh (z1w (h1.trans h3) jek))) k
  simp only [wps,Nat.reduceMul,Int.reduceLT,Int.reduceLE,Nat.reduceBEq,hx2]
  refine (z0q (jeh jek)).use ?_
  rintro _ S3 h4 rfl
  simp only [wps,j6u (z1w h4 jek)]
  rw [wI_ (n:=nV q.axes*q.batch) (by omega) (by omega)]
  refine ⟨λ h5=>⟨(hS2.trans (z20 (z20 h4))),by rw [if_neg h5]⟩,λ h5=>?_⟩
  rw [if_pos h5,show wI (0+1)=1 from rfl]
  have hq3:=h.mono (hS2.trans (z20 (z20 h4)))
  have hb3:=z1w h4 (jeh (jeh (z1w (h1.trans h3) jek)))
  have hx3:∀ o k,St.cell (S3++[o]) ⟨S.length,k,none⟩=(qc q a1 c1 a4 c4 a5 c5)[k]?:=λ o k=>j6u (jeh hb3) k
  have hS3:=hS2.trans (z20 (z20 h4))
  -- the second look
  refine zgp ?_
  simp only [wps,Nat.reduceMul,Int.reduceLT,Int.reduceLE,Nat.reduceBEq,hx3]
  refine (z0r (hq3.mono (List.prefix_append _ _))).use ?_
  rintro _ S4 h6 rfl
  simp only [wps,j6u (z1w h6 jek)]
  have hS4:=hS3.trans (z20 h6)
  refine ⟨λ h7=>⟨hS4,by rw [if_neg (by simp [h7])]⟩,λ h7=>?_⟩
  rw [if_pos h7,show wI (1+1)=2 from rfl]
  have hb4:=z1w h6 (jeh (t:=[j00.cells [Value.func (Fn.func 123) (ar ([])) (ar ([])),vI 7] 187 none]) hb3)
  have hx4:∀ o k,St.cell (S4++[o]) ⟨S.length,k,none⟩=(qc q a1 c1 a4 c4 a5 c5)[k]?:=λ o k=>j6u (jeh hb4) k
  -- the third look
  refine zgp ?_
  simp only [wps,Nat.reduceMul,Int.reduceLT,Int.reduceLE,Nat.reduceBEq,hx4]
  refine z0s.use ?_
  rintro _ S5 h8 rfl
  simp only [wps,j6u (z1w h8 jek)]
  have hS5:=hS4.trans (z20 h8)
  refine ⟨λ h9=>⟨hS5,by rw [if_neg h9]⟩,λ h9=>?_⟩
  rw [if_pos h9,show wI (2+1)=3 from rfl]
  refine zgp ?_
  simp only [wps,Int.reduceLT]
  exact hS5
 simp only [wps,j5z]
 have one:¬ (1<=q.batch/\q.batch<=16/\0<=q.retry/\q.retry<=8/\0<=q.again/\q.again<=8)->j7c q=1:=λ h=>by unfold j7c;rw [if_neg h]
 refine ⟨λ h1=>hk1 _ _ ⟨hp,by rw [one (by omega)]⟩,λ h1=>⟨λ h2=>hk1 _ _ ⟨hp,by rw [one (by omega)]⟩,λ h2=>⟨λ h3=>hk1 _ _ ⟨hp,by rw [one (by omega)]⟩,λ h3=>key (by omega)⟩⟩⟩
theorem z3n {S:St} {axes:Option Addr} {n c:Nat} {l:List Ax} (h:Ar S axes n 2 eAx l) (hl:n<=8796093022208) :
 WP (jlw [.slice axes n c]) S λ v S'=>∃ a,v = .slice a n n/\Ap S none S' a n 3 1 ((j9y l).flatMap eI):=by
 have hn:=h.1
 rw [jlx]
 simp only [wps]
 refine zgd (λ st S' m=>∃ (j:Nat) (a:Option Addr),st=[.slice a j j,vI j]/\j<=n/\m=n-j/\Ap S none S' a j 3 1 (((j9y l).take j).flatMap eI)) ?_ n _ _ ⟨0,none,rfl,by omega,by omega,.nil⟩
 rintro st S' m ⟨j,a,rfl,hj,rfl,ha⟩
 simp only [wps]
 refine ⟨λ h3=>⟨h3,?_⟩,λ h3=>?_⟩
 ·have hj':j < l.length:=by omega
  obtain ⟨x,rfl,c1,c2⟩:=(h.mono ha.pre).getAx hj'
  simp only [wps,c1,c2]
  refine zgh (bt:=8) (ha.more (List.prefix_append _ _)) rfl (by omega) (by omega) rfl ?_
  intro b S2 h4
  simp only [wps]
  refine ⟨n-(j+1),by omega,j+1,_,by rw [wI_ (n:=(j:Int)+1) (by omega) (by omega)]; rfl,by omega,rfl,?_⟩
  rw [List.take_add_one,List.flatMap_append]
  simpa [j9y,hj',eI] using h4
 ·obtain rfl:j=n:=by omega
  rw [List.take_of_length_le (by simp [j9y]; omega)] at ha
  exact ⟨a,rfl,ha⟩
theorem z3m {S:St} {dims:Option Addr} {n c:Nat} {l:List Int} (h:Ar S dims n 1 eI l):Gv (jlt [.slice dims n c]) S (vT [vI (allV l).1,vI (allV l).2]):=by
 refine .of ?_
 rw [jlu]
 have hn:=h.1
 simp only [wps]
 refine ⟨λ h1=>by simp [allV,show l.length < 1 by omega],λ h1=>⟨λ h2=>by simp [allV,show 4 < l.length by omega],λ h2=>?_⟩⟩
 have e:allV l=z4t 1 l:=by unfold allV;rw [if_neg (by omega),z4u _ _ (by omega)]
 rw [e]
 refine zgd (λ st S' m=>∃ (i:Nat) (x:Int),st=[.int .i64 x,.int .i64 i]/\S'=S/\i<=n/\m=n-i/\1<=x/\x<=4096 ^ i/\z4t 1 l=z4t x (l.drop i)) ?_ n _ _ ⟨0,1,rfl,rfl,by omega,by omega,by omega,by decide,by simp⟩
 rintro st S' m ⟨i,x,rfl,rfl,hi,rfl,h3,h4,hg⟩
 simp only [wps]
 refine ⟨λ h5=>⟨h5,?_⟩,λ h5=>?_⟩
 ·obtain ⟨a,rfl,hc⟩:=h.getI (i:=i) (by omega)
  rw [List.drop_eq_getElem_cons (by omega),z4t] at hg
  simp only [wps,hc]
  refine ⟨λ h6=>?_,λ h6=>⟨λ h7=>?_,λ h7=>?_⟩⟩
  ·rw [if_pos (.inl h6)] at hg;simp [hg,wps]
  ·rw [if_pos (.inr h7)] at hg;simp [hg,wps]
  ·rw [if_neg (by omega)] at hg
   have hb1:1<=x*l[i]:=by
    have:=Int.mul_le_mul h3 (show 1<=l[i] by omega) (by omega) (by omega)
    simpa using this
   have hb2:x*l[i]<=4096 ^ i*4096:=Int.mul_le_mul h4 (by omega) (by omega) (Int.pow_nonneg (by omega))
   have hb3:(4096:Int) ^ i*4096<=4096 ^ 3*4096:=Int.mul_le_mul_of_nonneg_right (by
    have : i<=3:=by omega
    have h9:i=0\/i=1\/i=2\/i=3:=by omega
    rcases h9 with rfl | rfl | rfl | rfl <;> decide) (by omega)
   rw [wI_ (n:=x*l[i]) (by omega) (by omega),wI_ (n:=(i:Int)+1) (by omega) (by omega)]
   exact ⟨n-(i+1),by omega,i+1,_,rfl,by omega,rfl,hb1,by rw [Int.pow_succ]; exact hb2,hg⟩
 ·rw [List.drop_eq_nil_iff.2 (by omega),z4t] at hg
  refine ⟨λ h6=>?_,λ h6=>?_⟩
  ·rw [if_pos h6] at hg;rw [hg]
  ·rw [if_neg h6] at hg;rw [hg]
theorem z3o {S:St} {axes:Option Addr} {n c:Nat} {l:List Ax} {m:Int} (h:Ar S axes n 2 eAx l) (hl:n<=8796093022208) :
 Sp (jlz [.slice axes n c,vI m]) S λ v S'=>v=vB (jbz l m):=by
 unfold Sp
 have hn:=h.1
 rw [jm0]
 simp only [wps]
 refine (z3n h hl).mono ?_
 rintro _ S1 ⟨a,rfl,ha⟩
 simp only [wps,(z3m (ha.ar (λ _=>rfl) (by decide))).wp]
 unfold jbz
 refine ⟨λ h1=>⟨λ h2=>⟨ha.pre,?_⟩,λ h2=>⟨ha.pre,?_⟩⟩,λ h1=>⟨ha.pre,?_⟩⟩
 ·have : l.length<=10:=by omega
  simp [h2,this]
 ·have : l.length<=10:=by omega
  simp [h2,this]
 ·have : ¬ l.length<=10:=by omega
  simp [this]
theorem z3p {S:St} {q:Req} {a1 a4 a5:Option Addr} {c1 c4 c5:Nat} {m:Int} (h:QA S q a1 a4 a5) (hm:0<=m/\m<=1000) :
 Sp (jm2 [qv q a1 c1 a4 c4 a5 c5,vI m]) S λ v S'=>v=vB (jbx q m):=by
 unfold Sp
 rw [jm3]
 simp only [wps]
 have hp:S <+: S++[j00.cells (qc q a1 c1 a4 c4 a5 c5) 62 none]:=List.prefix_append _ _
 refine (z3o (h.ax.mono hp) h.b1).use ?_
 rintro _ S1 h1 rfl
 simp only [wps,j6u (z1w h1 jek)]
 rw [wI_ (n:=4*m) (by omega) (by omega)]
 have h2:=hp.trans h1
 unfold jbx
 refine ⟨λ h3=>⟨λ h4=>⟨h2,?_⟩,λ h4=>⟨h2,?_⟩⟩,λ h3=>⟨h2,?_⟩⟩
 ·simp only [h3,h4,decide_true,Bool.true_and]
  congr 1
  exact decide_eq_decide.2 (by omega)
 ·simp [h4]
 ·simp [h3]
theorem jxl {a b A B:Int} (h1:0<=a) (h2:a<=A) (h3:0<=b) (h4:b<=B):0<=a*b/\a*b<=A*B:=⟨Int.mul_nonneg h1 h3,Int.mul_le_mul h2 h4 h3 (by omega)⟩
theorem zij {S:St} {q:Req} {a1 a4 a5:Option Addr} {c1 c4 c5:Nat} (h:QA S q a1 a4 a5) :
 Sp (jh6 [qv q a1 c1 a4 c4 a5 c5]) S λ v S'=>v=vT [vI (zj3 q).1,vI (zj3 q).2]:=by
 unfold Sp
 rw [jh7]
 simp only [wps]
 have hp:S <+: S++[j00.cells (qc q a1 c1 a4 c4 a5 c5) 62 none]:=List.prefix_append _ _
 refine (j7f (h.mono hp)).use ?_
 rintro _ S1 h1 rfl
 have hb1:=z1w h1 jek
 simp only [wps,j6u hb1]
 unfold zj3
 refine ⟨λ h2=>⟨hp.trans h1,by rw [if_neg h2]⟩,λ h2=>?_⟩
 rw [if_pos h2]
 obtain ⟨q1,q2,q3,q4,q5⟩:=j7d h2
 obtain ⟨f1,f2,f3,f4⟩:=j83 q2
 have hn:=jxs q2
 refine (zil (h.ax.mono (hp.trans h1)) h.b1 q.inv).use ?_
 rintro _ S2 h3 ⟨a,k,rfl,har⟩
 have har:=har q2
 have hb2:=z1w h3 hb1
 rw [if_pos q2]
 simp only [wps,(zbs har (by omega)).wp]
 have hcl:(j80 q.P q.axes q.inv (zau q.inv 0 q.axes)).length<=16392:=by simp [j80]; omega
 obtain ⟨hk,hal,hall⟩:=jqn q2
 obtain ⟨hst,hsl⟩:=zb4 (λ a ha=>(hall a ha).1) q.inv
 have hcr:=j81 q.inv q2 hst
 rw [zja 100000 (by omega) _ 0 (λ x hx=>by have:=hcr x hx;omega) (by omega) (by omega),Int.zero_add]
 rw [wI_ (n:=nV q.axes+6) (by omega) (by omega)]
 have ha1:Ar (S2++[j00.cells [vI (nV q.axes+6),vI (nV q.axes),vI 3] 3 none]) (some (ad S2.length 0)) 3 1 eI [nV q.axes+6,nV q.axes,3]:=Ar.blk (l:=[nV q.axes+6,nV q.axes,3]) jek (λ _ _=>rfl) rfl
 have hb3:=jeh (t:=[j00.cells [vI (nV q.axes+6),vI (nV q.axes),vI 3] 3 none]) hb2
 simp only [wps,(zbs ha1 (by omega)).wp,j6u hb3]
 rw [zja 20000 (by omega) [nV q.axes+6,nV q.axes,3] 0 (by intro x hx;simp at hx;omega) (by omega) (by simp)]
 have e1:(0:Int)+[nV q.axes+6,nV q.axes,3].sum=2*nV q.axes+9:=by simp;omega
 rw [e1,wI_ (n:=q.retry+1) (by omega) (by omega)]
 generalize hC:(j80 q.P q.axes q.inv (zau q.inv 0 q.axes)).sum=C at f1 f2 ⊢
 have hW:zje q=C+3*(zau q.inv 0 q.axes).length+(2*nV q.axes+9):=by unfold zje;rw [hC]
 rw [wI_ (n:=3*((zau q.inv 0 q.axes).length:Int)) (by omega) (by omega),wI_ (n:=C+3*((zau q.inv 0 q.axes).length:Int)) (by omega) (by omega),wI_ (n:=C+3*((zau q.inv 0 q.axes).length:Int)+(2*nV q.axes+9)) (by omega) (by omega),<- hW]
 have hw:0<=zje q/\zje q<=2000000000:=by omega
 obtain ⟨m1,m2⟩:=jxl (a:=q.retry+1) (A:=9) (by omega) (by omega) hw.1 hw.2
 rw [wI_ (n:=(q.retry+1)*zje q) (by omega) (by omega)]
 have ha2:Ar (S2++[j00.cells [vI (nV q.axes+6),vI (nV q.axes),vI 3] 3 none]++[j00.cells [vI (nV q.axes+6),vI ((q.retry+1)*zje q)] 3 none]) (some (ad (S2++[j00.cells [vI (nV q.axes+6),vI (nV q.axes),vI 3] 3 none]).length 0)) 2 1 eI [nV q.axes+6,(q.retry+1)*zje q]:=
  Ar.blk (l:=[nV q.axes+6,(q.retry+1)*zje q]) jek (λ _ _=>rfl) rfl
 have hb4:=jeh (t:=[j00.cells [vI (nV q.axes+6),vI ((q.retry+1)*zje q)] 3 none]) hb3
 simp only [wps,(zbs ha2 (by omega)).wp,j6u hb4]
 rw [zja 20000000000 (by omega) [nV q.axes+6,(q.retry+1)*zje q] 0 (by intro x hx;simp at hx;omega) (by omega) (by simp)]
 have e2:(0:Int)+[nV q.axes+6,(q.retry+1)*zje q].sum=nV q.axes+6+(q.retry+1)*zje q:=by simp
 rw [e2,wI_ (n:=q.again+1) (by omega) (by omega)]
 obtain ⟨m3,m4⟩:=jxl (a:=q.batch) (A:=16) (b:=q.again+1) (B:=9) (by omega) (by omega) (by omega) (by omega)
 obtain ⟨m5,m6⟩:=jxl (b:=nV q.axes+6+(q.retry+1)*zje q) (B:=20000000000) m3 m4 (by omega) (by omega)
 rw [wI_ (n:=q.batch*(q.again+1)) (by omega) (by omega),wI_ (by omega) (by omega)]
 exact ⟨z1t (z1t (hp.trans (h1.trans h3)) _) _,rfl⟩
theorem zj2 {S:St}:Sp (jjk []) S λ v S'=>v=vB true:=by
 unfold Sp
 rw [jjl]
 simp only [wps]
 have hb:Ar (S++[j00.cells [vI 2,vB false] 113 none]) (some (ad S.length 0)) 1 2 eAx [⟨2,false⟩]:=Ar.blk (l:=([⟨2,false⟩]:List Ax)) jek (λ _ _=>rfl) rfl
 refine (zim hb (by omega) false).use ?_
 rintro _ S1 h1 rfl
 rw [show zdo 998244353 [⟨2,false⟩] false=(46,0) by decide +kernel]
 simp only [wps]
 exact ⟨z20 h1,rfl⟩
theorem zb9 {l m:List Ev} (h:l.Perm m):∀ ws,zh8 ws->(∀ x∈l,Go.Proofs.YtpecnaacgkgjmaaGreatDoor.u64r x.ma)->zb8 l ws=zb8 m ws:=by
 induction h with
 | nil => intro ws _ _; rfl
 | cons x _ ih => intro ws h1 h2; exact ih _ (jrf h1 (h2 x (by simp))) (λ y hy => h2 y (by simp [hy]))
 | swap x y l =>
   intro ws h1 h2
   show zb8 l (hit (hit ws y) x)=zb8 l (hit (hit ws x) y)
   rw [jrb h1 (h2 y (by simp)) (h2 x (by simp))]
 | trans p1 p2 ih1 ih2 => intro ws h1 h2; rw [ih1 ws h1 h2, ih2 ws h1 (λ x hx => h2 x (p1.mem_iff.2 hx))]
structure Mm where
 W:List Int
 L:List Ev
 t:Int
 ah:Int
def jaa (t:Int) (l:List Ev):List Ev:=l.filter λ x=>decide (x.ti<=t)
def ju8 (t:Int) (l:List Ev):List Ev:=l.filter λ x=>!decide (x.ti<=t)
def Mm.acc (m:Mm):Mm:=⟨zb8 (jaa m.t m.L) m.W,ju8 m.t m.L,m.t+1,m.ah⟩
def Mm.rd (m:Mm) (a:Int):Int×Mm:=(m.acc.W.getD a.toNat 0,m.acc)
def Mm.wr (m:Mm) (a w:Int):Mm:=⟨m.acc.W.set a.toNat w,m.acc.L,m.acc.t,m.acc.ah⟩
def Mm.nxt (m:Mm) (l:List Ev):Mm:=⟨zb8 m.L m.W,l,0,m.ah+m.t⟩
def Mm.hasN (m:Mm) (a n:Int):Bool:=decide (0<=a/\0<=n/\n<=m.W.length/\a<=m.W.length-n)
def Mm.rds:Mm->List Int->List Int×Mm
 | m, [] => ([], m)
 | m, a :: l => ((m.rd a).1 :: ((m.rd a).2.rds l).1, ((m.rd a).2.rds l).2)
def Mm.wrs:Mm->List (Int×Int)->Mm
 | m, [] => m
 | m, x :: l => (m.wr x.1 x.2).wrs l
structure Mm.ok (m:Mm):Prop where
 w:zh8 m.W
 l:∀ x∈m.L,Go.Proofs.YtpecnaacgkgjmaaGreatDoor.u64r x.ma
 ti:∀ x∈m.L,x.ti<=9223372036854775807
theorem Mm.acc_len (m:Mm):m.acc.W.length=m.W.length:=zbb _ _
theorem Mm.rd_len (m:Mm) (a:Int):(m.rd a).2.W.length=m.W.length:=m.acc_len
theorem Mm.wr_len (m:Mm) (a w:Int):(m.wr a w).W.length=m.W.length:=by unfold Mm.wr;rw [List.length_set,m.acc_len]
theorem Mm.nxt_len (m:Mm) (l:List Ev):(m.nxt l).W.length=m.W.length:=zbb _ _
theorem Mm.rds_len:∀ (l:List Int) (m:Mm),(m.rds l).2.W.length=m.W.length/\(m.rds l).1.length=l.length/\(m.rds l).2.t=m.t+l.length/\(m.rds l).2.ah=m.ah
 | [], m => ⟨rfl, rfl, by simp [Mm.rds], rfl⟩
 | a :: l, m => by
   obtain ⟨h1,h2,h3,h4⟩:=Mm.rds_len l (m.rd a).2
   refine ⟨by rw [Mm.rds,h1,Mm.rd_len],by simp [Mm.rds,h2],?_,by rw [Mm.rds,h4]; rfl⟩
   rw [Mm.rds,h3,List.length_cons]; show m.t+1+_=_;omega
theorem Mm.wrs_len:∀ (l:List (Int×Int)) (m:Mm),(m.wrs l).W.length=m.W.length/\(m.wrs l).t=m.t+l.length/\(m.wrs l).ah=m.ah
 | [], m => ⟨rfl, by simp [Mm.wrs], rfl⟩
 | x :: l, m => by
   obtain ⟨h1,h2,h3⟩:=Mm.wrs_len l (m.wr x.1 x.2)
   refine ⟨by rw [Mm.wrs,h1,Mm.wr_len],?_,by rw [Mm.wrs,h3]; rfl⟩
   rw [Mm.wrs,h2,List.length_cons]; show m.t+1+_=_;omega
theorem Mm.rds_app:∀ (l k:List Int) (m:Mm),m.rds (l++k)=((m.rds l).1++((m.rds l).2.rds k).1,((m.rds l).2.rds k).2)
 | [], k, m => by simp [Mm.rds]
 | a :: l, k, m => by simp only [List.cons_append, Mm.rds, Mm.rds_app l k]
theorem Mm.wrs_app:∀ (l k:List (Int×Int)) (m:Mm),m.wrs (l++k)=(m.wrs l).wrs k
 | [], k, m => rfl
 | a :: l, k, m => by simp only [List.cons_append, Mm.wrs, Mm.wrs_app l k]
theorem juc {t:Int} {l:List Ev} {x:Ev} (h:x∈ju8 t l):x∈l:=(List.mem_filter.1 h).1
theorem jae {t:Int} {l:List Ev} {x:Ev} (h:x∈jaa t l):x∈l:=(List.mem_filter.1 h).1
theorem Mm.ok.acc {m:Mm} (h:m.ok):m.acc.ok:=⟨zbc _ _ h.w λ x hx=>h.l x (jae hx),λ x hx=>h.l x (juc hx),λ x hx=>h.ti x (juc hx)⟩
theorem z84 {ws:List Int} (h:zh8 ws) {i:Nat} {w:Int} (hw:Go.Proofs.YtpecnaacgkgjmaaGreatDoor.u64r w):zh8 (ws.set i w):=λ y hy=>by
 rcases List.mem_or_eq_of_mem_set hy with hy | rfl
 ·exact h y hy
 ·exact hw
theorem Mm.ok.wr {m:Mm} (h:m.ok) (a:Int) {w:Int} (hw:Go.Proofs.YtpecnaacgkgjmaaGreatDoor.u64r w):(m.wr a w).ok:=⟨z84 h.acc.w hw,h.acc.l,h.acc.ti⟩
theorem Mm.ok.rd {m:Mm} (h:m.ok) (a:Int):(m.rd a).2.ok/\Go.Proofs.YtpecnaacgkgjmaaGreatDoor.u64r (m.rd a).1:=⟨h.acc,jeb h.acc.w _⟩
theorem Mm.ok.rds:∀ (l:List Int) {m:Mm},m.ok->(m.rds l).2.ok/\zh8 (m.rds l).1
 | [], m, h => ⟨h, λ x hx => by simp [Mm.rds] at hx⟩
 | a :: l, m, h => by
   obtain ⟨h1,h2⟩:=Mm.ok.rds l (h.rd a).1
   refine ⟨h1,λ x hx=>?_⟩
   rw [Mm.rds] at hx
   rcases List.mem_cons.1 hx with rfl | hx
   ·exact (h.rd a).2
   ·exact h2 x hx
theorem Mm.ok.wrs:∀ (l:List (Int×Int)) {m:Mm},m.ok->(∀ x∈l,Go.Proofs.YtpecnaacgkgjmaaGreatDoor.u64r x.2)->(m.wrs l).ok
 | [], m, h, _ => h
 | x :: l, m, h, hl => Mm.ok.wrs l (h.wr x.1 (hl x (by simp))) (λ y hy => hl y (by simp [hy]))
theorem Mm.ok.nxt {m:Mm} (h:m.ok) {l:List Ev} (hl:∀ x∈l,Go.Proofs.YtpecnaacgkgjmaaGreatDoor.u64r x.ma) (ht:∀ x∈l,x.ti<=9223372036854775807):(m.nxt l).ok:=⟨zbc _ _ h.w h.l,hl,ht⟩
theorem jac (t:Int) (l:List Ev):(jaa t l).length+(ju8 t l).length=l.length:=by
 have:=(Go.AM.due_split Ev.ti t l).length_eq
 rw [List.length_append] at this;exact this
theorem jad {t:Int} {l:List Ev} (h:∀ x∈l,t < x.ti):jaa t l=[]:=by
 unfold jaa;rw [List.filter_eq_nil_iff]; intro x hx;have:=h x hx;simp;omega
theorem ju9 {t:Int} {l:List Ev} (h:∀ x∈l,t < x.ti):ju8 t l=l:=by
 unfold ju8;rw [List.filter_eq_self]; intro x hx;have:=h x hx;simp;omega
structure QB (S:St) (ba:Nat) (aq:Option Addr) (l:List En) (put:Int):Prop where
 ag:S[ba]? = some (.cells [.slice aq l.length l.length,vI put] 247 none)
 own:(aq=none/\l=[])\/∃ bq,aq=some ⟨bq,0,none⟩/\bq≠ba/\S[bq]? = some (.cells (l.flatMap En.cells) 273 (some 7))
def KpA (ba:Nat) (aq:Option Addr) (S S':St):Prop:=S.length<=S'.length/\∀ i,i < S.length->i≠ba->aq≠some ⟨i,0,none⟩->S'[i]? = S[i]?
theorem zft {S:St} {aq:Option Addr} {n:Nat} {e:TypeId} {w:Nat} {cs:List Value} (ho:(aq=none/\n=0/\cs=[])\/∃ b,aq=some ⟨b,0,none⟩/\S[b]? = some (.cells cs e (some w))) (hcs:cs.length=n*w) {bt m:Nat} {xs:List Value} {Q:Sl->St->Prop}
 (hm0:0 < m) (hsz:(n+m)*bt<=140737488355328) (hbt:1<=bt) (hlf:xs.all juu=true)
 (q:∀ S',S'.length=S.length+1->(∀ i,i < S.length->aq≠some ⟨i,0,none⟩->S'[i]? = S[i]?)->S'[S.length]? = some (.cells (cs++xs) e (some w))->Q ⟨some ⟨S.length,0,none⟩,n+m,n+m⟩ S') :
 WP (j33 e w bt aq n n m xs) S Q:=by
 have hsz2:n+m<=9223372036854775807:=by
  have:=Nat.mul_le_mul_left (n+m) hbt
  omega
 unfold j33
 rw [if_neg (by omega),if_pos ⟨hsz,hsz2⟩]
 rcases ho with ⟨rfl,h3,h4⟩ | ⟨b,rfl,hb⟩
 ·subst h3 h4
  dsimp only
  rw [if_pos rfl]
  refine ⟨_,_,rfl,q _ (by simp) (λ i hi hne=>?_) (by simp)⟩
  rw [List.getElem?_append_left hi]
 ·dsimp only
  rw [zg4]
  refine zgm hb rfl (by simp [hcs]) ?_
  have e1:((cs.drop 0).take (n*w))=cs:=by rw [List.drop_zero,<- hcs,List.take_length]
  dsimp only
  rw [e1]
  refine ⟨⟨some ⟨S.length,0,none⟩,n+m,n+m⟩,S.set b .dead++[.cells (cs++xs) e (some w)],by dsimp only;rw [hb]; dsimp only;rw [if_pos ⟨rfl,rfl,rfl,hlf⟩],?_⟩
  refine q _ (by simp) (λ i hi hne=>?_) (by rw [List.getElem?_append_right (by simp)]; simp)
  rw [List.getElem?_append_left (by simp;exact hi),List.getElem?_set_ne ?_]
  rintro rfl;exact hne rfl
theorem z3g {S:St} {ba:Nat} {aq:Option Addr} {l:List En} {put:Int} (h:QB S ba aq l put) (hl:l.length<=2000) (x:En) :
 WP (jfm [.pointer (some ⟨ba,0,none⟩),.iface 273 x.val]) S λ v S'=>v=vT []/\∃ bq,S.length<=bq/\QB S' ba (some ⟨bq,0,none⟩) (l++[x]) put/\KpA ba aq S S':=by
 rw [jfn]
 have hlt:=z1y h.ag
 simp only [wps,List.append_assoc,List.cons_append,List.nil_append,List.length_append,List.length_cons,List.length_nil,Nat.zero_add,Nat.reduceAdd,sA0,gA0,j6u gA0]
 have g1:∀ L:St,(S++L)[ba]? = some (.cells [.slice aq l.length l.length,vI put] 247 none):=λ L=>jeh h.ag
 simp only [wps,j6u (g1 _),j6u gA0,List.append_assoc,List.cons_append,List.nil_append,List.length_append,List.length_cons,List.length_nil,Nat.zero_add,Nat.reduceAdd,gcz,gcs]
 generalize hY:S++[j00.cells [vI x.e.it,vI x.e.tr,vI x.e.wi,vI x.e.ti,vI x.e.ad,vU x.e.ma,vI x.at_] 273 none,j00.cells [vI x.e.it,vI x.e.tr,vI x.e.wi,vI x.e.ti,vI x.e.ad,vU x.e.ma,vI x.at_] 273 none]=Y
 have hp:S <+: Y:=⟨_,hY⟩
 have y1:Y[S.length+1]? = some (j00.cells [vI x.e.it,vI x.e.tr,vI x.e.wi,vI x.e.ti,vI x.e.ad,vU x.e.ma,vI x.at_] 273 none):=by rw [<- hY]; exact gA1
 refine z4y y1 rfl ?_
 have own':(aq=none/\l.length=0/\l.flatMap En.cells=[])\/∃ b,aq=some ⟨b,0,none⟩/\Y[b]? = some (.cells (l.flatMap En.cells) 273 (some 7)):=by
  rcases h.own with ⟨h1,h2⟩ | ⟨b,h1,_,h3⟩
  ·exact .inl ⟨h1,by rw [h2]; rfl,by rw [h2]; rfl⟩
  ·exact .inr ⟨b,h1,z1w hp h3⟩
 have hYl:Y.length=S.length+2:=by rw [<- hY]; simp
 refine zft own' (jaq l) (by omega) (by omega) (by omega) rfl ?_
 intro S' hl' hk hn
 have hab:aq≠some ⟨ba,0,none⟩:=by
  rcases h.own with ⟨h1,_⟩ | ⟨b,h1,h2,_⟩
  ·rw [h1]; exact λ e=>by cases e
  ·rw [h1]; intro e;injection e with e;injection e with e1;exact h2 e1
 have z:S'[ba]? = some (.cells [.slice aq l.length l.length,vI put] 247 none):=by rw [hk ba (by omega) hab]; exact z1w hp h.ag
 simp only [wps,z]
 refine ⟨by simp,Y.length,by omega,⟨?_,.inr ⟨Y.length,rfl,by omega,?_⟩⟩,by rw [List.length_set]; omega,λ i hi h1 h2=>?_⟩
 ·rw [List.getElem?_set_self (by omega),List.length_append]; rfl
 ·rw [List.getElem?_set_ne (by omega),hn,List.flatMap_append]; simp
 ·rw [List.getElem?_set_ne (Ne.symm h1),hk i (by omega) h2]; exact z1u hp hi
theorem z3b {C:FuncId->List Value->M Value} (hC:HL C) {S:St} {ba:Nat} {aq:Option Addr} {l:List En} {put:Int} (h:QB S ba aq l put) (hp:HP (fT En.tk l) l.length) (hl:l.length<=2000) (x:En) :
 WP (jgx C [qP ⟨ba,0,none⟩,.iface 273 x.val]) S λ v S'=>v=vT []/\∃ bq l',S.length<=bq/\QB S' ba (some ⟨bq,0,none⟩) l' put/\l'.Perm (l++[x])/\HP (fT En.tk l') l'.length/\KpA ba aq S S':=by
 rw [jgy,jsd,jv2]
 have e1:∀ a,jvv [((266:Nat),jh3 C)] C (302:Nat) a=jfm a:=hC.u
 have e2:∀ a,jvv [((266:Nat),jh3 C)] C (298:Nat) a=jfd a:=hC.n
 simp only [e1,e2]
 have hlt:=z1y h.ag
 simp only [wps]
 refine (z3g h hl x).mono ?_
 rintro _ S1 ⟨rfl,bq,hb,h1,k1⟩
 have hl1:(l++[x]).length=l.length+1:=by simp
 obtain ⟨bq',h2,h3,h4⟩:∃ bq',some (⟨bq,0,none⟩:Addr)=some ⟨bq',0,none⟩/\bq'≠ba/\S1[bq']? = some (.cells ((l++[x]).flatMap En.cells) 273 (some 7)):=by
  rcases h1.own with ⟨h2,_⟩ | h2
  ·cases h2
  ·exact h2
 injection h2 with h2;injection h2 with h2;subst h2
 simp only [wps,j6u h1.ag,List.getElem?_cons_zero,jfe]
 rw [show wI (((l++[x]).length:Int)-1)=(l.length:Int) by rw [hl1,wI_ (by omega) (by omega)]; omega]
 have hup:HUp (fT En.tk (l++[x])) (l++[x]).length l.length:=by rw [hl1]; exact hp.push jbr
 refine (zeq (l:=l++[x]) (rest:=[]) (j:=l.length) hC h1.ag (Ne.symm h3) (by rw [List.append_nil]; exact h4) (by omega) (by omega) (by omega) hup).mono ?_
 rintro _ S2 ⟨rfl,l',hpm,hhp,rfl⟩
 have hlen:=hpm.length_eq
 simp only [wps]
 have hlt1:=z1y h4
 refine ⟨bq,l',hb,⟨?_,.inr ⟨bq,rfl,h3,?_⟩⟩,hpm,hhp,by rw [List.length_set]; exact k1.1,λ i hi i1 i2=>?_⟩
 ·rw [List.getElem?_set_ne h3,h1.ag,hlen]
 ·rw [List.getElem?_set_self hlt1]
 ·rw [List.getElem?_set_ne (by omega)]; exact k1.2 i hi i1 i2
set_option maxHeartbeats 1000000 in
/-- a new agenda of events that are not too many -/
theorem j30 {S:St} {p:Option Addr} {n c:Nat} {l:List Ev} (h:Ar S p n 6 Ev.cells l) (hn:n<=1024) :
 WP (jf7 [.slice p n c]) S λ v S'=>v=vT [.pointer (some ⟨S.length,0,none⟩),vI 0]/\S <+: S'/\∃ aq q put,QB S' S.length aq q put/\(∀ b,aq=some ⟨b,0,none⟩->S.length < b)/\(q.map En.e).Perm l/\HP (fT En.tk q) q.length:=by
 have hl:=h.1
 rw [jf8]
 simp only [wps]
 rw [jez]
 unfold jtd
 have hb0:=jek (S:=S) (o:=j00.cells [.slice none 0 0,vI 0] 247 none)
 simp only [wps,j6u hb0,List.getElem?_cons_zero,Option.isNone_some]
 rw [show wI (1024-((0:Nat):Int))=1024 by decide]
 refine ⟨λ h0=>by omega,λ _=>?_⟩
 refine zgd (λ st S' m=>∃ (j:Nat) (aq:Option Addr) (q:List En) (put:Int),st=[vI j]/\m=n-j/\j<=n/\S <+: S'/\QB S' S.length aq q put/\(∀ b,aq=some ⟨b,0,none⟩->S.length < b)/\(q.map En.e).Perm (l.take j)/\HP (fT En.tk q) q.length) ?_ n _ _ ?_
 rotate_left
 ·refine ⟨0,none,[],0,rfl,rfl,Nat.zero_le _,List.prefix_append _ _,⟨hb0,.inl ⟨rfl,rfl⟩⟩,?_,?_,?_⟩
  ·intro b hb;cases hb
  ·exact .nil
  ·intro i h0 h1;simp at h1
 rintro st S1 m ⟨j,aq,q,put,rfl,rfl,hj,hS,hq,hab,hpm,hhp⟩
 have hql:q.length=j:=by have:=hpm.length_eq;simp at this;omega
 simp only [wps]
 refine ⟨λ h3=>⟨h3,?_⟩,λ h3=>?_⟩
 ·have hj':j < l.length:=by omega
  obtain ⟨a,rfl,d0,d1,d2,d3,d4,d5⟩:=(h.mono hS).getEv hj'
  simp only [wps,d0,d1,d2,d3,d4,d5,sA0,j6u gA0,gcz,gcs]
  generalize hY:S1++[j00.cells [vI l[j].it,vI l[j].tr,vI l[j].wi,vI l[j].ti,vI l[j].ad,vU l[j].ma] 82 none]=Y
  have hp:S1 <+: Y:=⟨_,hY⟩
  have hqY:QB Y S.length aq q put:=⟨z1w hp hq.ag,hq.own.imp id λ ⟨b,h1,h2,h4⟩=>⟨b,h1,h2,z1w hp h4⟩⟩
  simp only [wps,j6u hqY.ag,List.getElem?_cons_succ,List.getElem?_cons_zero]
  refine (z3b ⟨λ _=>rfl,λ _=>rfl,λ _=>rfl,λ _=>rfl,λ _=>rfl⟩ hqY hhp (by omega) ⟨l[j],put⟩).mono ?_
  rintro _ S2 ⟨rfl,bq,q',hbq,hq2,hpm2,hhp2,k2⟩
  have hlt:=z1y hq2.ag
  have hSl:=hS.length_le
  have hYl:=hp.length_le
  have hag:=hq.ag
  have hlt1:=z1y hag
  have hS2:S <+: S2.set S.length (.cells [.slice (some ⟨bq,0,none⟩) q'.length q'.length,vI (wI (put+1))] 247 none):=by
   refine z24 ?_ (Nat.le_refl _)
   rw [List.prefix_iff_getElem?]
   intro i hi
   rw [k2.2 i (by omega) (by omega) (by intro e;have:=hab i e;omega),z1u hp (by omega),z1u hS hi,List.getElem?_eq_getElem hi]
  simp only [wps,j6u hq2.ag,hq2.ag,List.getElem?_cons_succ,List.getElem?_cons_zero]
  rw [wI_ (n:=(j:Int)+1) (by omega) (by omega)]
  refine ⟨n-(j+1),by omega,j+1,some ⟨bq,0,none⟩,q',wI (put+1),rfl,rfl,by omega,hS2,⟨?_,?_⟩,?_,?_,hhp2⟩
  ·rw [List.getElem?_set_self hlt]
  ·rcases hq2.own with ⟨h4,_⟩ | ⟨b,h4,h5,h6⟩
   ·cases h4
   ·exact .inr ⟨b,h4,h5,by rw [List.getElem?_set_ne (Ne.symm h5)]; exact h6⟩
  ·intro b hb;injection hb with hb;injection hb with hb;omega
  ·rw [zcr hj']
   have:=hpm2.map En.e
   rw [List.map_append] at this
   exact this.trans (hpm.append_right _)
 ·obtain rfl:j=n:=by omega
  rw [List.take_of_length_le (by omega)] at hpm
  exact ⟨hS,aq,q,put,hq,hab,hpm,hhp⟩
theorem HDn.congr {f g:Nat->Int} {n:Nat} (h:HDn f n 0) (e:∀ i,i < n->f i=g i):HDn g n 0:=by
 refine ⟨λ k h0 hk hne=>?_,λ k h0 hk he hi=>by omega⟩
 rw [<- e k hk,<- e _ (by omega)]; exact h.1 k h0 hk hne
structure QS (S:St) (ba:Nat) (aq:Option Addr) (l:List En):Prop where
 ex:∃ (c:Nat) (put:Int),S[ba]? = some (.cells [.slice aq l.length c,vI put] 247 none)/\l.length<=c
 own:(aq=none/\l=[])\/∃ bq rest g,aq=some ⟨bq,0,none⟩/\bq≠ba/\S[bq]? = some (.cells (l.flatMap En.cells++rest) 273 g)
theorem QB.qs {S:St} {ba:Nat} {aq:Option Addr} {l:List En} {put:Int} (h:QB S ba aq l put):QS S ba aq l:=
 ⟨⟨_,_,h.ag,Nat.le_refl _⟩,h.own.imp id λ ⟨b,h1,h2,h3⟩=>⟨b,[],_,h1,h2,by rw [List.append_nil]; exact h3⟩⟩
theorem zc2 {l:List En} (h0:0 < l.length):∃ m,zc1 l 0 (l.length-1) h0 (by omega)=m++[l[0]]/\m.length=l.length-1/\(l[0] :: m).Perm l:=by
 have hn:l.length-1 < l.length:=by omega
 have hs:(zc1 l 0 (l.length-1) h0 hn).length=l.length:=zc3 _ _
 have hg:(zc1 l 0 (l.length-1) h0 hn)[l.length-1]? = some l[0]:=by
  unfold zc1;rw [List.getElem?_set_self (by simp;omega)]
 have hne:zc1 l 0 (l.length-1) h0 hn≠[]:=λ e=>by rw [e] at hs;simp at hs;omega
 have e:=List.dropLast_concat_getLast hne
 have hlast:(zc1 l 0 (l.length-1) h0 hn).getLast hne=l[0]:=by
  rw [List.getLast_eq_getElem]
  have : (zc1 l 0 (l.length-1) h0 hn)[(zc1 l 0 (l.length-1) h0 hn).length-1]? = some l[0]:=by rw [hs]; exact hg
  rw [List.getElem?_eq_getElem (by omega)] at this
  exact Option.some.inj this
 rw [hlast] at e
 refine ⟨_,e.symm,by simp [hs],?_⟩
 have hp:=zc4 (l:=l) h0 hn
 rw [<- e] at hp
 exact (List.perm_append_comm (l₁:=[l[0]])).trans hp
theorem z3f {S:St} {ba bq:Nat} {m:List En} {x:En} {rest:List Value} {g:Option Nat} {c:Nat} {put:Int} (hb:S[ba]? = some (.cells [.slice (some ⟨bq,0,none⟩) (m.length+1) c,vI put] 247 none)) (hc:m.length+1<=c) (hne:bq≠ba) (hm:m.length<=100000)
 (h:S[bq]? = some (.cells (m.flatMap En.cells++(x.cells++rest)) 273 g)) :
 WP (jfj [.pointer (some ⟨ba,0,none⟩)]) S λ v S'=>v = .iface 273 x.val/\QS S' ba (some ⟨bq,0,none⟩) m/\KpA ba (some ⟨bq,0,none⟩) S S':=by
 rw [jfk]
 have e1:wI (((m.length+1:Nat):Int)-1)=(m.length:Int):=by rw [wI_ (by omega) (by omega)]; omega
 have h2:S[bq]? = some (.cells ((m++[x]).flatMap En.cells++rest) 273 g):=by rw [h,List.flatMap_append]; simp
 obtain ⟨a0,a1,a2,a3,a4,a5,a6⟩:=en7 h2 (i:=m.length) (by simp)
 have ex:(m++[x])[m.length]'(by simp)=x:=by simp
 rw [ex] at a0 a1 a2 a3 a4 a5 a6
 have hlt:=z1y hb
 simp only [wps,j6u hb,List.getElem?_cons_zero,e1,a0,a1,a2,a3,a4,a5,a6]
 refine ⟨by omega,?_⟩
 have g1:∀ L:St,(S++L)[ba]? = some (.cells [.slice (some ⟨bq,0,none⟩) (m.length+1) c,vI put] 247 none):=λ L=>jeh hb
 simp only [wps,sA0,j6u (g1 _),j6u gA0,gcz,gcs]
 unfold j8c
 have e2:decide ((0:Int)=(c:Int))=false:=by simp;omega
 simp only [wps,Int.ofNat_zero,Int.natCast_zero,e2,Bool.false_and,cond_false,Option.map_some,Int.toNat_natCast,Int.toNat_zero,Nat.sub_zero,Nat.zero_mul,g1]
 refine ⟨by omega,by omega,?_⟩
 have g2:∀ v w:j00,(List.set (S++[v]) ba w)[S.length]? = some v:=λ v w=>by rw [List.getElem?_set_ne (by omega)]; exact gA0
 simp only [wps,j6u (g2 _ _),gcz,gcs]
 refine ⟨⟨⟨c,put,?_,by omega⟩,.inr ⟨bq,x.cells++rest,g,rfl,hne,?_⟩⟩,by simp,λ i hi h1 h2=>?_⟩
 ·rw [List.getElem?_set_self (by simp;omega)]
 ·rw [List.getElem?_set_ne (Ne.symm hne)]; exact jeh h
 ·rw [List.getElem?_set_ne (Ne.symm h1)]; exact List.getElem?_append_left hi
theorem KpA.trans {ba:Nat} {aq:Option Addr} {S S1 S2:St} (h:KpA ba aq S S1) (k:KpA ba aq S1 S2):KpA ba aq S S2:=⟨Nat.le_trans h.1 k.1,λ i hi h1 h2=>by rw [k.2 i (Nat.lt_of_lt_of_le hi h.1) h1 h2,h.2 i hi h1 h2]⟩
theorem KpA.set {ba bq:Nat} {S:St} {o:j00}:KpA ba (some ⟨bq,0,none⟩) S (S.set bq o):=⟨by simp,λ i hi h1 h2=>by rw [List.getElem?_set_ne]; rintro rfl;exact h2 rfl⟩
theorem z1d {C:FuncId->List Value->M Value} (hC:HL C) {S:St} {ba:Nat} {aq:Option Addr} {l:List En} (h:QS S ba aq l) (hp:HP (fT En.tk l) l.length) (hl:l.length<=100000) (h0:0 < l.length) :
 WP (jgu C [qP ⟨ba,0,none⟩]) S λ v S'=>v = .iface 273 l[0].val/\∃ l',QS S' ba aq l'/\(l[0] :: l').Perm l/\HP (fT En.tk l') l'.length/\KpA ba aq S S':=by
 obtain ⟨c,put,hb,hc⟩:=h.ex
 rcases h.own with ⟨_,h1⟩ | ⟨bq,rest,g,rfl,hne,hq⟩
 ·rw [h1] at h0;simp at h0
 rw [jgv,jv2,jsc]
 have e1:∀ a,jvv [((267:Nat),jh0 C)] C (301:Nat) a=jfj a:=hC.o
 have e2:∀ a,jvv [((267:Nat),jh0 C)] C (298:Nat) a=jfd a:=hC.n
 have hC':HL (jvv [((267:Nat),jh0 C)] C):=⟨hC.l,hC.s,hC.n,hC.u,hC.o⟩
 simp only [e1,e2]
 have e3:wI ((l.length:Int)-1)=((l.length-1:Nat):Int):=by rw [wI_ (by omega) (by omega)]; omega
 simp only [wps,j6u hb,List.getElem?_cons_zero,jfe,e3]
 have hsw:=zbx (i:=0) (j:=l.length-1) hC' hb hq (Nat.le_refl _) h0 (by omega)
 refine hsw.mono ?_
 rintro _ S1 ⟨rfl,rfl⟩
 simp only [wps]
 obtain ⟨m,hm,hml,hmp⟩:=zc2 h0
 have hlt:=z1y hq
 have hltb:=z1y hb
 rw [hm,List.flatMap_append,List.append_assoc]
 have hdn:HDn (fT En.tk m) m.length 0:=by
  have h1:=HP.pop (n:=l.length-1) (f:=fT En.tk l) (by rw [show l.length-1+1=l.length by omega]; exact hp)
  rw [<- jbt h0 (by omega),hm] at h1
  rw [hml]
  refine h1.congr λ i hi=>?_
  rw [jbr i (by omega)]
 have hb1:(S.set bq (.cells (m.flatMap En.cells++([l[0]].flatMap En.cells++rest)) 273 g))[ba]? = some (.cells [.slice (some ⟨bq,0,none⟩) l.length c,vI put] 247 none):=by rw [List.getElem?_set_ne hne]; exact hb
 have hq1:(S.set bq (.cells (m.flatMap En.cells++([l[0]].flatMap En.cells++rest)) 273 g))[bq]? = some (.cells (m.flatMap En.cells++([l[0]].flatMap En.cells++rest)) 273 g):=List.getElem?_set_self hlt
 have hd:=ja6 hC hb1 (Ne.symm hne) hq1 (by omega) (by omega) hdn
 rw [hml] at hd
 refine hd.mono ?_
 rintro _ S2 ⟨⟨b,rfl⟩,m',hpm,hhp,rfl⟩
 have hml':=hpm.length_eq
 simp only [wps,List.set_set]
 have hb2:(S.set bq (.cells (m'.flatMap En.cells++([l[0]].flatMap En.cells++rest)) 273 g))[ba]? = some (.cells [.slice (some ⟨bq,0,none⟩) (m'.length+1) c,vI put] 247 none):=by rw [List.getElem?_set_ne hne,hb,show m'.length+1=l.length by omega]
 have hq2:(S.set bq (.cells (m'.flatMap En.cells++([l[0]].flatMap En.cells++rest)) 273 g))[bq]? = some (.cells (m'.flatMap En.cells++(l[0].cells++rest)) 273 g):=by rw [List.getElem?_set_self hlt]; simp
 refine (z3f hb2 (by omega) hne (by omega) hq2).mono ?_
 rintro _ S3 ⟨rfl,hqs,hk⟩
 exact ⟨rfl,m',hqs,((hpm.cons _).trans hmp),hhp,KpA.set.trans hk⟩
theorem QS.kp {S S':St} {ba:Nat} {aq:Option Addr} {l:List En} (h:QS S ba aq l) (k:∀ i,(i=ba\/aq=some ⟨i,0,none⟩)->i < S.length->S'[i]? = S[i]?):QS S' ba aq l:=by
 obtain ⟨c,put,h1,h2⟩:=h.ex
 refine ⟨⟨c,put,by rw [k ba (.inl rfl) (z1y h1)]; exact h1,h2⟩,h.own.imp id λ ⟨bq,rest,g,e,hne,hq⟩=>⟨bq,rest,g,e,hne,by rw [k bq (.inr e) (z1y hq)]; exact hq⟩⟩
theorem QS.lt {S:St} {ba:Nat} {aq:Option Addr} {l:List En} (h:QS S ba aq l):∀ i,(i=ba\/aq=some ⟨i,0,none⟩)->i < S.length:=by
 obtain ⟨c,put,h1,h2⟩:=h.ex
 rintro i (rfl | hi)
 ·exact z1y h1
 ·rcases h.own with ⟨e,_⟩ | ⟨bq,rest,g,e,hne,hq⟩
  ·rw [hi] at e;cases e
  ·rw [hi] at e;injection e with e;injection e with e;subst e;exact z1y hq
def j0u (S S':St) (a:Option Addr) (out:List Ev):Prop:=(a=none/\out=[])\/∃ b,a=some ⟨b,0,none⟩/\S.length<=b/\S'[b]? = some (.cells (out.flatMap Ev.cells) 82 (some 6))
theorem j0u.ar {S S':St} {a:Option Addr} {out:List Ev} (h:j0u S S' a out):Ar S' a out.length 6 Ev.cells out:=by
 rcases h with ⟨rfl,rfl⟩ | ⟨b,rfl,_,hb⟩
 ·exact .nil
 ·exact Ar.blk hb (λ _ _=>rfl) rfl
set_option maxHeartbeats 1000000 in
theorem jag {S:St} {ba:Nat} {aq:Option Addr} {q:List En} (h:QS S ba aq q) (hp:HP (fT En.tk q) q.length) (hl:q.length<=2000) (T:Int) :
 WP (jes [.pointer (some ⟨ba,0,none⟩),vI T]) S λ v S'=>∃ a out q',v = .slice a out.length out.length/\j0u S S' a out/\QS S' ba aq q'/\HP (fT En.tk q') q'.length/\(out++q'.map En.e).Perm (q.map En.e)/\(∀ x∈out,x.ti<=T)/\(∀ x∈q',T < x.tk)/\KpA ba aq S S':=by
 have hS:=h.lt
 rw [jet]
 simp only [wps,Option.isNone_some]
 rw [jf5]
 simp only [wps]
 refine zgd (λ st S' m=>∃ (a:Option Addr) (out:List Ev) (q':List En),st=[.slice a out.length out.length]/\m=q'.length/\j0u S S' a out/\QS S' ba aq q'/\HP (fT En.tk q') q'.length/\(out++q'.map En.e).Perm (q.map En.e)/\(∀ x∈out,x.ti<=T)/\KpA ba aq S S') ?_ q.length _ _ ?_
 rotate_left
 ·refine ⟨none,[],q,rfl,rfl,.inl ⟨rfl,rfl⟩,h,hp,.refl _,?_,Nat.le_refl _,λ _ _ _ _=>rfl⟩
  intro x hx;cases hx
 rintro st S1 m ⟨a,out,q',rfl,rfl,ho,hq,hhp,hpm,hout,hk⟩
 obtain ⟨c,put,hb,hc⟩:=hq.ex
 have hlen:=hpm.length_eq
 simp only [List.length_append,List.length_map] at hlen
 simp only [wps,j6u hb,List.getElem?_cons_zero]
 have stop:(∀ x∈q',T < x.tk)->∃ a' out' q'',Value.slice a out.length out.length = .slice a' out'.length out'.length/\j0u S S1 a' out'/\QS S1 ba aq q''/\HP (fT En.tk q'') q''.length/\(out'++q''.map En.e).Perm (q.map En.e)/\(∀ x∈out',x.ti<=T)/\(∀ x∈q'',T < x.tk)/\KpA ba aq S S1:=
  λ hx=>⟨a,out,q',rfl,ho,hq,hhp,hpm,hout,hx,hk⟩
 refine ⟨λ h0=>?_,λ h0=>?_⟩
 rotate_left
 ·have : q'=[]:=List.eq_nil_of_length_eq_zero (by omega)
  subst this
  exact stop λ x hx=>by cases hx
 have h0':0 < q'.length:=by omega
 rcases hq.own with ⟨_,h1⟩ | ⟨bq,rest,g,rfl,hne,hqq⟩
 ·rw [h1] at h0'; simp at h0'
 obtain ⟨_,_,_,a3,_,_,_⟩:=en7 hqq h0'
 rw [Nat.zero_mul,Nat.zero_add] at a3
 simp only [wps,a3,jfb,Nat.reduceBEq,Bool.false_eq_true,false_implies,forall_const,true_and,beq_self_eq_true,and_true,reduceCtorEq]
 refine ⟨⟨by decide,by omega⟩,λ h2=>?_,λ h2=>?_⟩
 rotate_left
 ·refine stop λ x hx=>?_
  have:=hhp.first h0' x hx
  have h3:¬ q'[0].e.ti<=T:=by simpa using h2
  unfold En.tk at this ⊢; omega
 refine (z1d ⟨λ _=>rfl,λ _=>rfl,λ _=>rfl,λ _=>rfl,λ _=>rfl⟩ hq hhp (by omega) h0').mono ?_
 rintro _ S2 ⟨rfl,l',hq2,hpm2,hhp2,hk2⟩
 have hpl:=hpm2.length_eq
 rw [List.length_cons] at hpl
 simp only [wps,sA0,j6u gA0,gcz,gcs,List.append_assoc,List.cons_append,List.nil_append,List.length_append,List.length_cons,List.length_nil,Nat.zero_add,Nat.reduceAdd]
 generalize hY:S2++_=Y
 have hp2:S2 <+: Y:=⟨_,hY⟩
 have hYl:=hp2.length_le
 have y1:Y[S2.length+1]? = some (j00.cells [vI q'[0].e.it,vI q'[0].e.tr,vI q'[0].e.wi,vI q'[0].e.ti,vI q'[0].e.ad,vU q'[0].e.ma] 82 none):=by rw [<- hY]; exact gA1
 refine z4y y1 rfl ?_
 have hS12:=hk2.1
 have hSS1:=hk.1
 have keep2:∀ i,S.length<=i->i < S1.length->Y[i]? = S1[i]?:=by
  intro i hi hi1
  rw [z1u hp2 (by omega),hk2.2 i hi1 (by intro e;have:=hS i (.inl e); omega) (by intro e;have:=hS i (.inr e); omega)]
 have own':(a=none/\out.length=0/\out.flatMap Ev.cells=[])\/∃ b,a=some ⟨b,0,none⟩/\Y[b]? = some (.cells (out.flatMap Ev.cells) 82 (some 6)):=by
  rcases ho with ⟨h1,h3⟩ | ⟨b,h1,h3,h4⟩
  ·exact .inl ⟨h1,by rw [h3]; rfl,by rw [h3]; rfl⟩
  ·exact .inr ⟨b,h1,by rw [keep2 b h3 (z1y h4)]; exact h4⟩
 have hab:∀ i,a=some ⟨i,0,none⟩->S.length<=i:=by
  intro i hi
  rcases ho with ⟨h1,h3⟩ | ⟨b,h1,h3,h4⟩
  ·rw [hi] at h1;cases h1
  ·rw [hi] at h1;injection h1 with h1;injection h1 with h1;omega
 refine zft own' (jcv (e:=Ev.cells) (w:=6) (λ _=>rfl) out) (by omega) (by omega) (by omega) rfl ?_
 intro S3 hl3 hk3 hn3
 simp only [wps]
 refine ⟨l'.length,by omega,some ⟨Y.length,0,none⟩,out++[q'[0].e],l',by simp,rfl,.inr ⟨Y.length,rfl,by omega,?_⟩,?_,hhp2,?_,?_,?_⟩
 ·rw [hn3,List.flatMap_append]; simp [Ev.cells]
 ·refine hq2.kp λ i hi hlt=>?_
  have:=hS i hi
  rw [hk3 i (by omega) (by intro e;have:=hab i e;omega),z1u hp2 hlt]
 ·have:=hpm2.map En.e
  rw [List.map_cons] at this
  rw [List.append_assoc]
  exact (List.Perm.append_left out this).trans hpm
 ·intro x hx
  rcases List.mem_append.1 hx with hx | hx
  ·exact hout x hx
  ·rw [List.mem_singleton] at hx;subst hx;simpa using h2
 ·refine ⟨by omega,λ i hi h1 h3=>?_⟩
  rw [hk3 i (by omega) (by intro e;have:=hab i e;omega),z1u hp2 (by omega),hk2.2 i (by omega) h1 h3,hk.2 i hi h1 h3]
def jy1:List En->Value
 | [] => vT [vI 0, vI 9]
 | x :: _ => vT [vI x.tk, vI 0]
theorem jy3 {S:St} {ba:Nat} {aq:Option Addr} {q:List En} (h:QS S ba aq q) (hl:q.length<=2000) :
 Gv (jev [.pointer (some ⟨ba,0,none⟩)]) S (jy1 q):=by
 refine .of ?_
 obtain ⟨c,put,hb,hc⟩:=h.ex
 rw [jew]
 simp only [wps,j6u hb,List.getElem?_cons_zero,Option.isNone_some]
 cases q with
 | nil => simp [jy1]
 | cons x l =>
   rcases h.own with ⟨_,h1⟩ | ⟨bq,rest,g,rfl,hne,hqq⟩
   ·cases h1
   obtain ⟨_,_,_,a3,_,_,_⟩:=en7 hqq (i:=0) (by simp)
   rw [Nat.zero_mul,Nat.zero_add] at a3
   simp only [wps,a3]
   refine ⟨λ h=>by simp at h;omega,λ _=>?_⟩
   exact ⟨⟨by decide,by simp⟩,rfl⟩
theorem jrc {ws:List Int} {x:Ev} (h:zh8 ws) (hx:Go.Proofs.YtpecnaacgkgjmaaGreatDoor.u64r x.ma):hit ws x=if 0<=x.ad/\x.ad < ws.length then ws.set x.ad.toNat (bits .xor .u64 (ws.getD x.ad.toNat 0) x.ma) else ws:=by
 unfold Go.Proofs.YtpecnaacgkgjmaaGreatDoor.hit Ev.nothing
 by_cases h1:0<=x.ad/\x.ad < ws.length
 ·rw [if_pos h1]
  by_cases h2:x.ma=0
  ·rw [if_pos (by simp [h2])]
   have hg:=jeb h x.ad.toNat
   have h3:bits .xor .u64 (ws.getD x.ad.toNat 0) x.ma=ws.getD x.ad.toNat 0:=(zho hg hx).2 h2
   rw [h3,List.getD_eq_getElem?_getD,List.getElem?_eq_getElem (by omega)]
   simp
  ·rw [if_neg]; simp [h2]; omega
 ·rw [if_neg h1,if_pos]
  simp only [Bool.or_eq_true,decide_eq_true_eq]; omega
abbrev mC (bw n:Nat) (ba:Nat) (t ah:Int):List Value:=[.slice (some ⟨bw,0,none⟩) n n,.pointer (some ⟨ba,0,none⟩),vI t,vI ah]
set_option maxHeartbeats 1000000 in
theorem zbe {C:FuncId->List Value->M Value} {S:St} {b bw ba:Nat} {W:List Int} {t ah:Int} {ty:TypeId} {g:Option Nat} {told:Value} {R:List Ev->St->Prop} (hne:b≠bw) (hlt:bw < S.length) (hW:zh8 W)
 (ht:WP (j6k C told []) S λ v S1=>∃ a out,v = .slice a out.length out.length/\j0u S S1 a out/\S1[b]? = some (.cells (mC bw W.length ba t ah) 137 none)/\S1[bw]? = some (.cells (W.flatMap eU) ty g)/\out.length<=10000/\(∀ x∈out,Go.Proofs.YtpecnaacgkgjmaaGreatDoor.u64r x.ma)/\R out S1) :
 WP (jkb C [.pointer (some ⟨b,0,none⟩),told]) S λ v S'=>v=vT []/\∃ out S1,R out S1/\Kp [bw] S1 S'/\S'[bw]? = some (.cells ((zb8 out W).flatMap eU) ty g):=by
 rw [jkc]
 simp only [wps]
 refine ht.mono ?_
 rintro v S1 ⟨a,out,rfl,ho,hb,hw,hn,hu,hR⟩
 have har:=ho.ar
 have hbw:=z1y hw
 simp only [wps]
 refine zgd (λ st S' m=>∃ j:Nat,st=[vI j]/\m=out.length-j/\j<=out.length/\Kp [bw] S1 S'/\S'[bw]? = some (.cells ((zb8 (out.take j) W).flatMap eU) ty g)) ?_ out.length _ _ ⟨0,rfl,rfl,by omega,.refl,hw⟩
 rintro st S2 m ⟨j,rfl,rfl,hj,hk,hw2⟩
 simp only [wps]
 refine ⟨λ h3=>⟨h3,?_⟩,λ h3=>?_⟩
 ·have hj':j < out.length:=by omega
  have har2:Ar S2 a out.length 6 Ev.cells out:=hk.ar har λ hm x hx=>by
   rcases ho with ⟨h1,h2⟩ | ⟨b',h1,h2,h4⟩
   ·exact absurd h2 hm
   ·rw [h1] at hx;injection hx with hx;subst hx;simp;omega
  obtain ⟨x,rfl,d0,d1,d2,d3,d4,d5⟩:=har2.getEv hj'
  have hb2:=hk.get hb (by simpa using hne)
  simp only [wps,d0,d1,d2,d3,d4,d5,sA0,j6u gA0,gcz,gcs]
  generalize hY:S2++[j00.cells [vI out[j].it,vI out[j].tr,vI out[j].wi,vI out[j].ti,vI out[j].ad,vU out[j].ma] 82 none]=Y
  have hp:S2 <+: Y:=⟨_,hY⟩
  have y0:Y[S2.length]? = some (j00.cells [vI out[j].it,vI out[j].tr,vI out[j].wi,vI out[j].ti,vI out[j].ad,vU out[j].ma] 82 none):=by rw [<- hY]; exact jek
  have z1:=z1w hp hb2
  have z2:=z1w hp hw2
  have kY:=hk.more hp
  have hok:zh8 (zb8 (out.take j) W):=zbc _ _ hW λ x hx=>hu x (List.mem_of_mem_take hx)
  have hsl:=zbb (out.take j) W
  have hst:=zbd (ws:=W) hj'
  rw [jrc hok (hu _ (List.getElem_mem hj'))] at hst
  have fin:∀ S',Kp [bw] S1 S'->S'[bw]? = some (.cells ((zb8 (out.take (j+1)) W).flatMap eU) ty g)->∃ n' < out.length-j,∃ j_1:Nat,[vI (wI ((j:Int)+1))]=[vI j_1]/\n'=out.length-j_1/\j_1<=out.length/\Kp [bw] S1 S'/\S'[bw]? = some (.cells ((zb8 (out.take j_1) W).flatMap eU) ty g):=by
   intro S' h1 h2
   rw [wI_ (n:=(j:Int)+1) (by omega) (by omega)]
   exact ⟨out.length-(j+1),by omega,j+1,rfl,rfl,by omega,h1,h2⟩
  simp only [wps,j6u y0,j6u z1,gcz,gcs]
  unfold jtj
  refine ⟨λ c1=>?_,λ c1=>?_⟩
  ·simp only [wps,j6u y0,j6u z1,gcz,gcs]
   refine ⟨λ c2=>?_,λ c2=>?_⟩
   ·have hc:0<=out[j].ad/\out[j].ad < (zb8 (out.take j) W).length:=by rw [hsl]; exact ⟨c1,by simpa using c2⟩
    rw [if_pos hc] at hst
    have hu1:=(Ob.refl (e:=eU) z2).u (i:=out[j].ad.toNat) (by omega)
    have hput:=(Ob.refl (e:=eU) z2).put (w:=1) (λ _=>rfl) (i:=out[j].ad.toNat) (by omega) (bits .xor .u64 ((zb8 (out.take j) W).getD out[j].ad.toNat 0) out[j].ma)
    have hgd:(zb8 (out.take j) W).getD out[j].ad.toNat 0=(zb8 (out.take j) W)[out[j].ad.toNat]'(by omega):=by rw [List.getD_eq_getElem?_getD,List.getElem?_eq_getElem (by omega)]; rfl
    rw [Nat.mul_one] at hput
    simp only [wps,hu1,j6u y0,gcz,gcs,z2,zhs]
    rw [<- hgd]
    refine ⟨by omega,by omega,?_,fin _ ?_ ?_⟩
    ·have:=jcv (e:=eU) (w:=1) (λ _=>rfl) (zb8 (out.take j) W); omega
    ·exact kY.trans ⟨by simp,λ i hi hn=>by rw [List.getElem?_set_ne]; rintro rfl;simp at hn⟩
    ·rw [hst]; exact hput.at_
   ·rw [if_neg (by rw [hsl]; simp at c2;omega)] at hst
    exact fin _ kY (by rw [hst]; exact z2)
  ·simp only [wps]
   rw [if_neg (by rintro ⟨h,_⟩; exact c1 h)] at hst
   exact fin _ kY (by rw [hst]; exact z2)
 ·rw [List.take_of_length_le (by omega)] at hw2
  exact ⟨out,S1,hR,hk,hw2⟩
structure MS (S:St) (b:Nat) (m:Mm) (T:List Nat):Prop where
 ex:∃ bw ba aq q g,S[b]? = some (.cells (mC bw m.W.length ba m.t m.ah) 137 none)/\S[bw]? = some (.cells (m.W.flatMap eU) 24 g)/\QS S ba aq q/\HP (fT En.tk q) q.length/\(q.map En.e).Perm m.L /\
  b≠bw/\b≠ba/\bw≠ba/\aq≠some ⟨b,0,none⟩/\aq≠some ⟨bw,0,none⟩/\∀ i,(i=b\/i=bw\/i=ba\/aq=some ⟨i,0,none⟩)->i∈T
 lt:∀ i∈T,i < S.length
 ok:m.ok
 n:m.L.length<=1024
 w:m.W.length<=16384
theorem MS.kp {S S':St} {b:Nat} {m:Mm} {T M:List Nat} (h:MS S b m T) (k:Kp M S S') (hd:∀ i∈T,i∉M):MS S' b m T:=by
 obtain ⟨bw,ba,aq,q,g,h1,h2,h3,h4,h5,h6,h7,h8,h9,h10,h11⟩:=h.ex
 refine ⟨⟨bw,ba,aq,q,g,k.get h1 (hd _ (h11 _ (.inl rfl))),k.get h2 (hd _ (h11 _ (.inr (.inl rfl)))),?_,h4,h5,h6,h7,h8,h9,h10,h11⟩,λ i hi=>Nat.lt_of_lt_of_le (h.lt i hi) k.len,h.ok,h.n,h.w⟩
 refine h3.kp λ i hi hl=>k.keep i hl (hd _ (h11 _ ?_))
 rcases hi with rfl | hi
 ·exact .inr (.inr (.inl rfl))
 ·exact .inr (.inr (.inr hi))
theorem MS.pre {S S':St} {b:Nat} {m:Mm} {T:List Nat} (h:MS S b m T) (k:S <+: S'):MS S' b m T:=h.kp (Kp.of (M:=[]) k) λ _ _=>by simp
theorem KpA.kp {ba:Nat} {aq:Option Addr} {S S':St} {T:List Nat} (h:KpA ba aq S S') (h1:ba∈T) (h2:∀ i,aq=some ⟨i,0,none⟩->i∈T):Kp T S S':=
 ⟨h.1,λ i hi hn=>h.2 i hi (λ e=>hn (e ▸ h1)) λ e=>hn (h2 i e)⟩
set_option maxHeartbeats 1000000 in
theorem j1r {S:St} {b:Nat} {m:Mm} {T:List Nat} (h:MS S b m T) {a:Int} (ha:0<=a/\a < m.W.length) (ht:0<=m.t/\m.t < 4611686018427387904) :
 WP (jk2 [.pointer (some ⟨b,0,none⟩),vI a]) S λ v S'=>v=vI 0/\Kp T S S'/\MS S' b m.acc T:=by
 obtain ⟨bw,ba,aq,q,g,h1,h2,h3,h4,h5,h6,h7,h8,h9,h10,h11⟩:=h.ex
 have hql:q.length=m.L.length:=by simpa using h5.length_eq
 have hn:=h.n
 rw [jk3]
 simp only [wps]
 generalize hY:S++[j00.cells [.pointer (some ⟨b,0,none⟩)] 34 none]=Y
 have hp:S <+: Y:=⟨_,hY⟩
 have y0:Y[S.length]? = some (.cells [.pointer (some ⟨b,0,none⟩)] 34 none):=by rw [<- hY]; exact jek
 have hYl:=hp.length_le
 have z1:=z1w hp h1
 have z2:=z1w hp h2
 have z3:QS Y ba aq q:=h3.kp λ i _ hi=>z1u hp hi
 have hS:∀ i∈T,i < S.length:=h.lt
 have hba:=hS _ (h11 _ (.inr (.inr (.inl rfl))))
 have hbw:=hS _ (h11 _ (.inr (.inl rfl)))
 have hb:=hS _ (h11 _ (.inl rfl))
 simp only [wps,j6u y0,j6u z1,gcz,gcs,Option.isNone_some]
 refine ⟨λ c=>by omega,λ _=>?_⟩
 unfold jti
 have e0:(decide ((m.W.length:Int)<=a))=false:=by simp;omega
 simp only [wps,e0,j6u y0,j6u z1,gcz,gcs,Bool.false_eq_true,false_implies,forall_const,true_and,and_true]
 have fin:∀ (S':St) (W':List Int) (L':List Ev) (q':List En),Kp T S S'->S'[b]? = some (.cells (mC bw m.W.length ba m.t m.ah) 137 none)->S'[bw]? = some (.cells (W'.flatMap eU) 24 g)->QS S' ba aq q'->HP (fT En.tk q') q'.length->(q'.map En.e).Perm m.acc.L->W'=m.acc.W ->
  Kp T S (List.set S' b (.cells (mC bw m.W.length ba (wI (m.t+1)) m.ah) 137 none))/\MS (List.set S' b (.cells (mC bw m.W.length ba (wI (m.t+1)) m.ah) 137 none)) b m.acc T:=by
  intro S' W' L' q' k i1 i2 i3 i4 i5 i6
  have hbl:=z1y i1
  have hk2:Kp T S (List.set S' b (.cells (mC bw m.W.length ba (wI (m.t+1)) m.ah) 137 none)):=
   k.trans ⟨by simp,λ i hi hn=>by rw [List.getElem?_set_ne]; rintro rfl;exact hn (h11 _ (.inl rfl))⟩
  subst i6
  refine ⟨hk2,⟨bw,ba,aq,q',g,?_,?_,?_,i4,i5,h6,h7,h8,h9,h10,h11⟩,λ i hi=>Nat.lt_of_lt_of_le (hS i hi) hk2.len,h.ok.acc,?_,?_⟩
  ·rw [List.getElem?_set_self hbl,wI_ (by omega) (by omega),m.acc_len]; rfl
  ·rw [List.getElem?_set_ne h6]; exact i2
  ·refine i3.kp λ i hi _=>?_
   rw [List.getElem?_set_ne]
   rintro rfl
   rcases hi with e | e
   ·exact h7 e
   ·exact h9 e
  ·have:=jac m.t m.L;show (ju8 m.t m.L).length<=1024;omega
  ·rw [m.acc_len]; exact h.w
 have idle:(∀ x∈q,m.t < x.tk)->(q.map En.e).Perm m.acc.L/\m.W=m.acc.W:=by
  intro hx
  have hx':∀ y∈m.L,m.t < y.ti:=by
   intro y hy
   obtain ⟨x,hxq,rfl⟩:=List.mem_map.1 (h5.mem_iff.2 hy)
   exact hx x hxq
  constructor
  ·show (q.map En.e).Perm (ju8 m.t m.L); rw [ju9 hx']; exact h5
  ·show m.W=zb8 (jaa m.t m.L) m.W;rw [jad hx']; rfl
 refine ⟨λ c=>by omega,λ _=>?_⟩
 simp only [(jy3 z3 (by omega)).wp]
 cases hq:q with
 | nil =>
   obtain ⟨i1,i2⟩:=idle (by rw [hq]; intro x hx;cases hx)
   rw [hq] at i1 z3 h4
   unfold jy1
   simp only [wps,j6u y0,j6u z1,z1,gcz,gcs]
   refine ⟨λ e=>absurd e (by decide),λ _=>?_⟩
   exact ⟨by decide,fin Y m.W m.L [] (Kp.of hp) z1 z2 z3 h4 i1 i2⟩
 | cons x l =>
   unfold jy1
   simp only [wps,j6u y0,j6u z1,z1,gcz,gcs]
   refine ⟨λ c=>?_,λ c=>?_⟩
   ·have hpre:∀ S',S <+: S'->S'.length=S'.length:=λ _ _=>rfl
    refine (zbe (bw:=bw) (ba:=ba) (W:=m.W) (t:=m.t) (ah:=m.ah) (ty:=24) (g:=g) (R:=λ out S1=>Kp T S S1/\S1[b]? = some (.cells (mC bw m.W.length ba m.t m.ah) 137 none)/\S1[S.length]? = some (.cells [.pointer (some ⟨b,0,none⟩)] 34 none)/\out.Perm (jaa m.t m.L)/\∃ q',QS S1 ba aq q'/\HP (fT En.tk q') q'.length/\(q'.map En.e).Perm (ju8 m.t m.L)) h6 (z1y z2) h.ok.w ?_).mono ?_
    ·simp only [wps,beq_self_eq_true,cond_true,forall_const,true_implies]
     rw [jk6]
     simp only [wps,j6u y0,j6u z1,gcz,gcs]
     have hqn:q.length<=2000:=by omega
     refine (jag z3 h4 hqn m.t).mono ?_
     rintro _ S1 ⟨a',out,q',rfl,ho,q1,q2,q3,q4,q5,hk⟩
     have hpm:(out++q'.map En.e).Perm m.L:=q3.trans h5
     obtain ⟨p1,p2⟩:=jaf (t:=Ev.ti) (T:=m.t) hpm q4 (λ x hx=>by
      obtain ⟨y,hy,rfl⟩:=List.mem_map.1 hx
      exact q5 y hy)
     have kT:Kp T Y S1:=hk.kp (h11 _ (.inr (.inr (.inl rfl)))) λ i e=>h11 _ (.inr (.inr (.inr e)))
     simp only [wps]
     have hol:=p1.length_eq
     have hdl:=jac m.t m.L
     have hll:(jaa m.t m.L).length<=1024:=by omega
     refine ⟨a',out,rfl,ho,?_,?_,?_,λ x hx=>h.ok.l x (jae (p1.mem_iff.1 hx)),.pre hp kT,?_,?_,p1,q',q1,q2,p2⟩
     ·rw [hk.2 b (by omega) h7 h9]; exact z1
     ·rw [hk.2 bw (by omega) h8 h10]; exact z2
     ·unfold jaa at hll;omega
     ·rw [hk.2 b (by omega) h7 h9]; exact z1
     ·rw [hk.2 S.length (z1y y0) (by omega) (by intro e;have:=hS _ (h11 _ (.inr (.inr (.inr e)))); omega)]; exact y0
    ·rintro _ S3 ⟨rfl,out,S1,⟨k1,b1,y1,o1,q',q1,q2,q3⟩,k2,w2⟩
     have b3:=k2.get b1 (by simpa using h6)
     have y3:=k2.get y1 (by simp;omega)
     simp only [wps,j6u y3,j6u b3,b3,gcz,gcs]
     have hst:zb8 out m.W=m.acc.W:=zb9 o1 _ h.ok.w λ x hx=>h.ok.l x (jae (o1.mem_iff.1 hx))
     refine ⟨by decide,fin S3 (zb8 out m.W) (ju8 m.t m.L) q' (k1.trans (k2.mono λ i hi=>by simp at hi;rw [hi]; exact h11 _ (.inr (.inl rfl)))) b3 w2 (q1.kp λ i hi hl=>k2.keep i hl ?_) q2 q3 hst⟩
     intro hm
     rw [List.mem_singleton] at hm
     subst hm
     rcases hi with e | e
     ·exact h8 e
     ·exact h10 e
   ·have hx:∀ y∈q,m.t < y.tk:=λ y hy=>by
     have h0:0 < q.length:=by rw [hq]; simp
     have:=h4.first h0 y hy
     simp only [hq,List.getElem_cons_zero] at this
     omega
    obtain ⟨i1,i2⟩:=idle hx
    exact ⟨by decide,fin Y m.W m.L q (Kp.of hp) z1 z2 z3 h4 i1 i2⟩
section
variable {S:St} {b:Nat} {m:Mm} {T:List Nat}
theorem jvs (h:MS S b m T) {a:Int} (ha:0<=a/\a < m.W.length) (ht:0<=m.t/\m.t < 4611686018427387904) :
 WP (jjq [.pointer (some ⟨b,0,none⟩),vI a]) S λ v S'=>v=vT [vU (m.rd a).1,vI 0]/\Kp T S S'/\MS S' b (m.rd a).2 T:=by
 rw [jjr]
 simp only [wps]
 refine (j1r h ha ht).mono ?_
 rintro _ S1 ⟨rfl,k,h1⟩
 have h1':=h1
 obtain ⟨bw,ba,aq,q,g,e1,e2,_⟩:=h1.ex
 have hal:=m.acc_len
 have hu:=(Ob.refl (e:=eU) e2).u (i:=a.toNat) (by omega)
 have hg:m.acc.W[a.toNat]'(by omega)=(m.rd a).1:=by
  unfold Mm.rd;rw [List.getD_eq_getElem?_getD,List.getElem?_eq_getElem (by omega)]; rfl
 simp only [wps,j6u e1,List.getElem?_cons_zero,hu,hg]
 exact ⟨by omega,k,h1'⟩
theorem zb6 (h:MS S b m T) {a w:Int} (ha:0<=a/\a < m.W.length) (ht:0<=m.t/\m.t < 4611686018427387904) (hw:Go.Proofs.YtpecnaacgkgjmaaGreatDoor.u64r w) :
 WP (jjw [.pointer (some ⟨b,0,none⟩),vI a,vU w]) S λ v S'=>v=vI 0/\Kp T S S'/\MS S' b (m.wr a w) T:=by
 rw [jjx]
 simp only [wps]
 refine (j1r h ha ht).mono ?_
 rintro _ S1 ⟨rfl,k,h1⟩
 obtain ⟨bw,ba,aq,q,g,i1,i2,i3,i4,i5,i6,i7,i8,i9,i10,i11⟩:=h1.ex
 have hal:=m.acc_len
 have hfl:=jcv (e:=eU) (w:=1) (λ _=>rfl) m.acc.W
 have hput:=(Ob.refl (e:=eU) i2).put (w:=1) (λ _=>rfl) (i:=a.toNat) (by omega) w
 rw [Nat.mul_one] at hput
 simp only [wps,j6u i1,i2,List.getElem?_cons_zero]
 refine ⟨by omega,by omega,?_,?_⟩
 ·exact k.trans ⟨by simp,λ i hi hn=>by rw [List.getElem?_set_ne]; rintro rfl;exact hn (i11 _ (.inr (.inl rfl)))⟩
 ·refine ⟨⟨bw,ba,aq,q,g,?_,hput.at_,?_,i4,i5,i6,i7,i8,i9,i10,i11⟩,λ i hi=>by rw [List.length_set]; exact h1.lt i hi,h.ok.wr a hw,h1.n,?_⟩
  ·rw [List.getElem?_set_ne (Ne.symm i6),i1]; unfold Mm.wr;rw [List.length_set]
  ·refine i3.kp λ i hi hl=>?_
   rw [List.getElem?_set_ne]
   rintro rfl
   rcases hi with e | e
   ·exact i8 e
   ·exact i10 e
  ·rw [m.wr_len]; exact h.w
theorem zfq (h:MS S b m T):WP (jjz [.pointer (some ⟨b,0,none⟩)]) S λ v S'=>∃ a,v = .slice a m.W.length m.W.length/\j0x S S' a m.W:=by
 obtain ⟨bw,ba,aq,q,g,e1,e2,_⟩:=h.ex
 rw [jk0]
 have hw:=h.w
 simp only [wps,j6u e1,List.getElem?_cons_zero,Option.isNone_some]
 refine (j7l (c:=m.W.length) ((Ob.refl (e:=eU) e2).ar (w:=1) (λ _=>rfl)) (by omega)).mono ?_
 rintro _ S1 ⟨a,rfl,ho⟩
 simp only [wps]
 exact ⟨a,rfl,ho⟩
theorem zcu (h:MS S b m T) {a n:Int}:Sp (jkk [.pointer (some ⟨b,0,none⟩),vI a,vI n]) S λ v _=>v=vB (m.hasN a n):=by
 unfold Sp
 rw [jkl]
 simp only [wps]
 refine (zfq h).mono ?_
 rintro _ S1 ⟨p,rfl,ho⟩
 have hw:=h.w
 unfold Mm.hasN
 have hx:∀ c:Bool,c=decide (0<=a/\0<=n/\n<=m.W.length/\a<=m.W.length-n)->S <+: S1/\vB c=vB (decide (0<=a/\0<=n/\n<=m.W.length/\a<=m.W.length-n)):=λ c hc=>⟨ho.1,by rw [hc]⟩
 simp only [wps,Option.isNone_some]
 refine ⟨λ h1=>⟨λ h2=>⟨λ h3=>hx _ ?_,λ h3=>hx _ ?_⟩,λ h2=>hx _ ?_⟩,λ h1=>hx _ ?_⟩
 ·rw [wI_ (by omega) (by omega)]; simp [h1,h2,h3]
 ·simp [h3]
 ·simp [h2]
 ·simp [h1]
end
def jxy (S S':St):List Nat:=(List.range S'.length).filter λ i=>decide (S.length<=i)
theorem jxz {S S':St} {i:Nat}:i∈jxy S S'↔i < S'.length/\S.length<=i:=by simp [jxy]
theorem z7m {S:St} {a:Option Addr} {n c:Nat}:Gv (jmp [.slice a n c]) S (vI (if 1024 < n then 1 else 0)):=by
 refine .of ?_
 rw [jmq]
 simp only [wps]
 refine ⟨λ h=>by rw [if_pos (by omega)],λ h=>by rw [if_neg (by omega)]⟩
theorem j5y {S:St} {b bw:Nat} {n0:Nat} {p0:Option Addr} {t ah:Int} (hb:S[b]? = some (.cells [.slice (some ⟨bw,0,none⟩) n0 n0,.pointer p0,vI t,vI ah] 137 none)) {p:Option Addr} {n c:Nat} {l:List Ev} (h:Ar S p n 6 Ev.cells l) (hn:n<=1024) :
 WP (jk8 [.pointer (some ⟨b,0,none⟩),.slice p n c]) S λ v S'=>v=vI 0/\∃ S1,S <+: S1/\S'=S1.set b (.cells (mC bw n0 S.length t ah) 137 none) /\
  ∃ aq q put,QB S1 S.length aq q put/\(∀ i,aq=some ⟨i,0,none⟩->S.length < i)/\(q.map En.e).Perm l/\HP (fT En.tk q) q.length:=by
 rw [jk9]
 simp only [wps,z7m.wp,if_neg (show ¬ 1024 < n by omega)]
 refine (j30 (c:=c) h hn).mono ?_
 rintro _ S1 ⟨rfl,hp,aq,q,put,hq⟩
 have hb1:=z1w hp hb
 simp only [wps,hb1]
 exact ⟨by simp,S1,hp,rfl,aq,q,put,hq⟩
theorem jy0 {S:St} {w:Int} {p:Option Addr} {n c:Nat} {l:List Ev} (h:Ar S p n 6 Ev.cells l) (hn:n<=1024) (hl:∀ x∈l,Go.Proofs.YtpecnaacgkgjmaaGreatDoor.u64r x.ma) (ht:∀ x∈l,x.ti<=9223372036854775807) (hw:1<=w/\w<=16384) :
 WP (jke [vI w,.slice p n c]) S λ v S'=>∃ b,v=vT [.pointer (some ⟨b,0,none⟩),vI 0]/\S <+: S'/\MS S' b ⟨List.replicate w.toNat 0,l,0,0⟩ (jxy S S'):=by
 rw [jkf]
 have hln:=h.1
 simp only [wps]
 refine ⟨λ e=>by omega,λ _=>⟨λ e=>by omega,λ _=>?_⟩⟩
 simp only [wps,zhy]
 refine ⟨by refine ⟨by omega,by omega,by omega,by omega,rfl⟩,?_⟩
 have hrep:List.replicate w.toNat (vU 0)=(List.replicate w.toNat (0:Int)).flatMap eU:=by
  induction w.toNat with
  | zero=>rfl
  | succ k ih=>rw [List.replicate_succ,List.replicate_succ,List.flatMap_cons,<- ih]; rfl
 rw [hrep]
 simp only [wps,List.length_append,List.length_singleton,List.append_assoc,List.cons_append,List.nil_append]
 generalize hY:S++[j00.cells ((List.replicate w.toNat (0:Int)).flatMap eU) 24 none,j00.cells [.slice (some (ad S.length 0)) w.toNat w.toNat,.pointer none,vI 0,vI 0] 137 none]=Y
 have hp:S <+: Y:=⟨_,hY⟩
 have y0:Y[S.length]? = some (j00.cells ((List.replicate w.toNat (0:Int)).flatMap eU) 24 none):=by rw [<- hY]; exact gA0
 have y1:Y[S.length+1]? = some (j00.cells [.slice (some (ad S.length 0)) w.toNat w.toNat,.pointer none,vI 0,vI 0] 137 none):=by rw [<- hY]; exact gA1
 have hYl:Y.length=S.length+2:=by rw [<- hY]; simp
 refine (j5y (c:=c) y1 (h.mono hp) hn).mono ?_
 rintro _ S2 ⟨rfl,S1,k1,rfl,aq,q,put,hq,hab,hpm,hhp⟩
 have hY1:=k1.length_le
 have hql:=hq.qs.lt
 simp only [wps]
 refine ⟨S.length+1,rfl,z24 (hp.trans k1) (by omega),⟨S.length,Y.length,aq,q,none,?_,?_,?_,hhp,hpm,by omega,by omega,by omega,?_,?_,?_⟩,λ i hi=>(jxz.1 hi).1,⟨?_,hl,ht⟩,by dsimp only;omega,by dsimp only;rw [List.length_replicate]; omega⟩
 ·rw [List.getElem?_set_self (by omega),List.length_replicate]
 ·rw [List.getElem?_set_ne (by omega)]; exact z1w k1 y0
 ·refine hq.qs.kp λ i hi _=>?_
  rw [List.getElem?_set_ne]
  rcases hi with e | e
  ·omega
  ·have:=hab i e;omega
 ·intro e;have:=hab _ e;omega
 ·intro e;have:=hab _ e;omega
 ·intro i hi
  rw [jxz,List.length_set]
  rcases hi with e | e | e | e
  ·omega
  ·omega
  ·have:=hql i (.inl e); omega
  ·have:=hql i (.inr e); have:=hab i e;omega
 ·intro x hx
  rw [List.mem_replicate] at hx
  rw [hx.2]; exact ⟨by omega,by omega⟩
set_option maxHeartbeats 1000000 in
theorem jy4 {S:St} {b:Nat} {m:Mm} {T:List Nat} (h:MS S b m T) {p:Option Addr} {n c:Nat} {l:List Ev} (hr:Ar S p n 6 Ev.cells l) (hn:n<=1024) (hl:∀ x∈l,Go.Proofs.YtpecnaacgkgjmaaGreatDoor.u64r x.ma) (ht:0<=m.t/\m.t < 4611686018427387904) (hah:0<=m.ah/\m.ah < 4611686018427387904) (hti:∀ x∈l,x.ti<=9223372036854775807) :
 WP (jjt [.pointer (some ⟨b,0,none⟩),.slice p n c]) S λ v S'=>v=vI 0/\Mo T S (T++jxy S S') S'/\MS S' b (m.nxt l) (T++jxy S S'):=by
 obtain ⟨bw,ba,aq,q,g,h1,h2,h3,h4,h5,h6,h7,h8,h9,h10,h11⟩:=h.ex
 have hln:=hr.1
 have hql0:q.length=m.L.length:=by simpa using h5.length_eq
 have hn0:=h.n
 rw [jju]
 simp only [wps,j6u h1,gcz,gcs,Option.isNone_some]
 refine (j5y (c:=c) h1 hr hn).mono ?_
 rintro _ S2 ⟨rfl,S1,k1,rfl,aq',q',put',hq',hab',hpm',hhp'⟩
 have hS:=h.lt
 have hba:=hS _ (h11 _ (.inr (.inr (.inl rfl))))
 have hbw:=hS _ (h11 _ (.inr (.inl rfl)))
 have hb:=hS _ (h11 _ (.inl rfl))
 have hS1:=k1.length_le
 simp only [wps]
 generalize hY:List.set S1 b (.cells (mC bw m.W.length S.length m.t m.ah) 137 none)=Y
 have hYl:Y.length=S1.length:=by rw [<- hY]; simp
 have z1:Y[b]? = some (.cells (mC bw m.W.length S.length m.t m.ah) 137 none):=by rw [<- hY]; exact List.getElem?_set_self (by omega)
 have zk:∀ i,i≠b->Y[i]? = S1[i]?:=λ i hi=>by rw [<- hY]; exact List.getElem?_set_ne (Ne.symm hi)
 have z2:Y[bw]? = some (.cells (m.W.flatMap eU) 24 g):=by rw [zk bw (Ne.symm h6)]; exact z1w k1 h2
 have z3:QS Y ba aq q:=h3.kp λ i hi hl=>by
  rw [zk i (by rcases hi with e | e;exact λ x=>h7 (x.symm.trans e); exact λ x=>h9 (by rw [e,x]))]; exact z1u k1 hl
 have z4:QS Y S.length aq' q':=hq'.qs.kp λ i hi hl=>by
  refine zk i ?_
  rcases hi with e | e
  ·omega
  ·have:=hab' i e;omega
 have hlt4:=z4.lt
 refine (zbe (bw:=bw) (ba:=S.length) (W:=m.W) (t:=m.t) (ah:=m.ah) (ty:=24) (g:=g) (R:=λ out S3=>Kp T Y S3/\S3[b]? = some (.cells (mC bw m.W.length S.length m.t m.ah) 137 none)/\out.Perm m.L) h6 (z1y z2) h.ok.w ?_).mono ?_
 ·simp only [wps,beq_self_eq_true,cond_true,forall_const,true_implies]
  rw [jf2]
  simp only [wps]
  refine (jag z3 h4 (by omega) 9223372036854775807).mono ?_
  rintro _ S3 ⟨a',out,q2,rfl,ho,q3,q4,q5,q6,q7,hk⟩
  have hpm:(out++q2.map En.e).Perm m.L:=q5.trans h5
  have hq2:q2=[]:=by
   cases hc:q2 with
   | nil=>rfl
   | cons y r=>
     have hy:y∈q2:=by rw [hc]; simp
     have i1:=q7 y hy
     have i2:=h.ok.ti y.e (hpm.mem_iff.1 (List.mem_append_right _ (List.mem_map_of_mem hy)))
     unfold En.tk at i1;omega
  rw [hq2,List.map_nil,List.append_nil] at hpm
  have kT:Kp T Y S3:=hk.kp (h11 _ (.inr (.inr (.inl rfl)))) λ i e=>h11 _ (.inr (.inr (.inr e)))
  have hol:=hpm.length_eq
  simp only [wps]
  refine ⟨a',out,rfl,ho,?_,?_,by omega,λ x hx=>h.ok.l x (hpm.mem_iff.1 hx),kT,?_,hpm⟩
  ·rw [hk.2 b (by omega) h7 h9]; exact z1
  ·rw [hk.2 bw (by omega) h8 h10]; exact z2
  ·rw [hk.2 b (by omega) h7 h9]; exact z1
 ·rintro _ S4 ⟨rfl,out,S3,⟨k3,b3,o3⟩,k4,w4⟩
  have hst:zb8 out m.W=zb8 m.L m.W:=zb9 o3 _ h.ok.w λ x hx=>h.ok.l x (o3.mem_iff.1 hx)
  have b4:=k4.get b3 (by simpa using h6)
  have l4:=k4.len
  have l3:=k3.len
  have hb4:=z1y b4
  have kYS:Kp T Y S4:=k3.trans (k4.mono λ i hi=>by simp at hi;rw [hi]; exact h11 _ (.inr (.inl rfl)))
  have kS:Kp T S S4:=⟨by omega,λ i hi hn=>by rw [kYS.keep i (by omega) hn,zk i (by rintro rfl;exact hn (h11 _ (.inl rfl))),z1u k1 hi]⟩
  simp only [wps,j6u b4,b4,gcz,gcs,List.getElem?_set_self hb4,List.set_set]
  rw [wI_ (n:=m.ah+m.t) (by omega) (by omega)]
  generalize hZ:List.set S4 b _=Z
  have hZl:Z.length=S4.length:=by rw [<- hZ]; simp
  have kSZ:Kp T S Z:=⟨by rw [hZl]; exact kS.len,λ i hi hn=>by rw [<- hZ,List.getElem?_set_ne (by rintro rfl;exact hn (h11 _ (.inl rfl))),kS.keep i hi hn]⟩
  have kZ:∀ i,i≠b->Z[i]? = S4[i]?:=λ i hi=>by rw [<- hZ]; exact List.getElem?_set_ne (Ne.symm hi)
  refine ⟨by decide,⟨kSZ,λ i hi=>?_⟩,⟨bw,S.length,aq',q',g,?_,?_,?_,hhp',hpm',h6,by omega,by omega,?_,?_,?_⟩,?_,h.ok.nxt hl hti,by show l.length<=1024;omega,by rw [m.nxt_len]; exact h.w⟩
  ·rcases List.mem_append.1 hi with hi | hi
   ·exact .inl hi
   ·exact .inr (jxz.1 hi).2
  ·rw [<- hZ,List.getElem?_set_self hb4,m.nxt_len]; rfl
  ·rw [kZ bw (Ne.symm h6),w4,hst]; rfl
  ·refine z4.kp λ i hi hil=>?_
   have hiS:S.length<=i:=by
    rcases hi with e | e
    ·omega
    ·have:=hab' i e;omega
   rw [kZ i (by omega),kYS.keep i hil λ hm=>by have:=hS i hm;omega]
  ·intro e;have:=hab' _ e;omega
  ·intro e;have:=hab' _ e;omega
  ·intro i hi
   rw [List.mem_append,jxz]
   rcases hi with e | e | e | e
   ·exact .inl (e ▸ h11 _ (.inl rfl))
   ·exact .inl (e ▸ h11 _ (.inr (.inl rfl)))
   ·right;have:=hlt4 i (.inl e); have:=kYS.len;omega
   ·right;have:=hlt4 i (.inr e); have:=hab' i e;have:=kYS.len;omega
  ·intro i hi
   rcases List.mem_append.1 hi with hi | hi
   ·have:=hS i hi;have:=kSZ.len;omega
   ·exact (jxz.1 hi).1
abbrev vN (n:Nat):Value:=vI (n:Int)
theorem z6h {S:St} {f m n:Nat} (h:f+m*n<=1000000000) (hn:n<=100000) :
 WP (jov [vN f,vN m,vN n]) S λ v S'=>v = .slice (some ⟨S.length,0,none⟩) n n/\S'=S++[.cells ((List.range n).map λ t=>vN (f+m*t)) 3 none]:=by
 rw [jow]
 simp only [wps,Int.toNat_natCast,zhy]
 refine ⟨⟨by omega,by omega,by omega,rfl⟩,?_⟩
 refine zgd (λ st S' k=>∃ j:Nat,st=[vI j]/\k=n-j/\j<=n/\S'=S++[.cells ((List.range j).map (λ t=>vN (f+m*t))++List.replicate (n-j) (vI 0)) 3 none]) ?_ n _ _ ⟨0,rfl,rfl,by omega,by simp⟩
 rintro st S' k ⟨j,rfl,rfl,hj,rfl⟩
 simp only [wps]
 refine ⟨λ h3=>?_,λ h3=>?_⟩
 ·have hj':j < n:=by omega
  have hm:m*j<=m*n:=Nat.mul_le_mul_left _ hj
  have e:vI (wI ((f:Int)+wI ((m:Int)*(j:Int))))=vN (f+m*j):=by
   rw [show (m:Int)*(j:Int)=((m*j:Nat):Int) by rw [Int.natCast_mul],wI_ (n:=((m*j:Nat):Int)) (by omega) (by omega),show (f:Int)+((m*j:Nat):Int)=((f+m*j:Nat):Int) by omega,wI_ (by omega) (by omega)]
  rw [e,wI_ (n:=(j:Int)+1) (by omega) (by omega)]
  refine ⟨h3,by simp;omega,n-(j+1),by omega,j+1,rfl,rfl,by omega,?_⟩
  rw [jc4 (f:=λ t=>vN (f+m*t)) (z:=vI 0) rfl hj' rfl]
 ·obtain rfl:j=n:=by omega
  simp
theorem z15 {S:St} {pl pa:Option Addr} {nl na cl ca:Nat} {ln at_:List Nat} (hl:Ar S pl nl 1 eI (ln.map λ x:Nat=>(x:Int))) (ha:Ar S pa na 1 eI (at_.map λ x:Nat=>(x:Int))) (hb:∀ x∈at_,x < ln.length) (hn:na<=100000) :
 WP (jos [.slice pl nl cl,.slice pa na ca]) S λ v S'=>v = .slice (some ⟨S.length,0,none⟩) at_.length at_.length/\S'=S++[.cells ((List.range at_.length).map λ t=>vN (ln.getD (at_.getD t 0) 0)) 3 none]:=by
 have h1:=hl.1
 have h2:=ha.1
 rw [List.length_map] at h1 h2
 subst h2 h1
 rw [jot]
 simp only [wps,Int.toNat_natCast,zhy]
 refine ⟨⟨by omega,by omega,by omega,rfl⟩,?_⟩
 refine zgd (λ st S' k=>∃ j:Nat,st=[vI j]/\k=at_.length-j/\j<=at_.length/\S'=S++[.cells ((List.range j).map (λ t=>vN (ln.getD (at_.getD t 0) 0))++List.replicate (at_.length-j) (vI 0)) 3 none]) ?_ at_.length _ _ ⟨0,rfl,rfl,by omega,by simp⟩
 rintro st S' k ⟨j,rfl,rfl,hj,rfl⟩
 simp only [wps]
 refine ⟨λ h3=>?_,λ h3=>?_⟩
 ·have hj':j < at_.length:=by omega
  have hb':=hb _ (List.getElem_mem hj')
  have hpre:=List.prefix_append S [j00.cells ((List.range j).map (λ t=>vN (ln.getD (at_.getD t 0) 0))++List.replicate (at_.length-j) (vI 0)) 3 none]
  obtain ⟨a,rfl,c1⟩:=(ha.mono hpre).getI (i:=j) (by simpa using hj')
  obtain ⟨a2,rfl,c2⟩:=(hl.mono hpre).getI (i:=at_[j]) (by simpa using hb')
  rw [List.getElem_map] at c1 c2
  simp only [wps,c1,c2,Int.toNat_natCast]
  rw [wI_ (n:=(j:Int)+1) (by omega) (by omega)]
  refine ⟨h3,by omega,h3,by simp;omega,at_.length-(j+1),by omega,j+1,rfl,rfl,by omega,?_⟩
  rw [jc4 (f:=λ t=>vN (ln.getD (at_.getD t 0) 0)) (z:=vI 0) rfl hj' ?_]
  simp [List.getD_eq_getElem?_getD,hj',hb']
 ·obtain rfl:j=at_.length:=by omega
  simp
theorem js1 {nd:List Nat} (h:∀ x∈nd,1<=x/\x<=4096) (hp:z2r nd<=4096) (j:Nat):1<=z2r (nd.drop j)/\z2r (nd.drop j)<=4096:=by
 have h1:=z2u (nd.drop j) λ x hx=>(h x (List.mem_of_mem_drop hx)).1
 have h2:=z2u (nd.take j) λ x hx=>(h x (List.mem_of_mem_take hx)).1
 have e:z2r nd=z2r (nd.take j)*z2r (nd.drop j):=by rw [<- z2s,List.take_append_drop]
 have h3:1*z2r (nd.drop j)<=z2r (nd.take j)*z2r (nd.drop j):=Nat.mul_le_mul_right _ h2
 omega
theorem z2v (l:List Nat) (x:Nat):z2r (l++[x])=z2r l*x:=by rw [z2s]; simp [z2r]
structure DA (S:St) (a:Option Addr) (n c:Nat) (nd:List Nat):Prop where
 ar:Ar S a n 1 eI (nd.map λ x:Nat=>(x:Int))
 c:n<=c
 len:1<=nd.length/\nd.length<=4
 all:∀ x∈nd,1<=x/\x<=4096
 p:z2r nd<=4096
theorem DA.allV {S:St} {a:Option Addr} {n c:Nat} {nd:List Nat} (h:DA S a n c nd):Go.AM.allV (nd.map λ x:Nat=>(x:Int))=(((z2r nd:Nat):Int),0):=by
 have key:∀ (l:List Nat) (k:Nat),(∀ x∈l,1<=x/\x<=4096)->1<=k->k*z2r l<=4096->j2e (k:Int) (l.map λ x:Nat=>(x:Int))=(((k*z2r l:Nat):Int),0):=by
  intro l
  induction l with
  | nil=>intro k _ _ _;simp [j2e,z2r]
  | cons x l ih=>
    intro k hx hk hp
    have h1:=hx x (by simp)
    have h2:=z2u l λ y hy=>(hx y (by simp [hy])).1
    rw [z2t] at hp
    have h3:k*x*1<=k*x*z2r l:=Nat.mul_le_mul_left _ h2
    have h4:k*1<=k*x:=Nat.mul_le_mul_left _ h1.1
    have hp':k*x*z2r l<=4096:=by rw [Nat.mul_assoc]; exact hp
    rw [List.map_cons]
    unfold j2e
    rw [if_neg]
    ·rw [<- Int.natCast_mul,ih (k*x) (λ y hy=>hx y (by simp [hy])) (by omega) hp',z2t,Nat.mul_assoc]
    ·rw [<- Int.natCast_mul]; omega
 unfold Go.AM.allV
 rw [if_neg (by have:=h.len;rw [List.length_map]; omega)]
 have:=key nd 1 h.all (Nat.le_refl _) (by rw [Nat.one_mul]; exact h.p)
 rwa [Nat.one_mul] at this
theorem j9x {S:St} {axes:Option Addr} {n c:Nat} {l:List Ax} (h:Ar S axes n 2 eAx l) (hl:n<=8796093022208) :
 WP (jj5 [.slice axes n c]) S λ v S'=>v = .slice (some ⟨S.length,0,none⟩) n n/\S <+: S'/\Ar S' (some ⟨S.length,0,none⟩) n 1 eI (j9y l):=by
 rw [jj6]
 have hn:=h.1
 simp only [wps,zhy]
 refine ⟨⟨by omega,by omega,by omega,rfl⟩,?_⟩
 refine zgd (λ st S' m=>∃ j:Nat,st=[vI j]/\j<=n/\m=n-j/\(S++[.cells (((j9y l).take j).map (.int .i64)++List.replicate (n-j) (.int .i64 0)) 3 none]) <+: S') ?_ n _ _ ⟨0,rfl,by omega,by omega,by simp⟩
 rintro st S' m ⟨j,rfl,hj,rfl,hp⟩
 simp only [wps]
 refine ⟨λ h1=>?_,λ h1=>?_⟩
 ·have hj':j < l.length:=by omega
  obtain ⟨a,rfl,c1,c2⟩:=(h.mono (z20 hp)).getAx hj'
  have hb:=z1w hp jek
  have hb2:∀ o,(S'++[o])[S.length]? = _:=λ o=>jeh hb
  simp only [wps,c1,c2,hb2]
  refine ⟨h1,h1,?_,n-(j+1),by omega,j+1,?_,by omega,rfl,?_⟩
  ·simp [j9y]; omega
  ·rw [wI_ (by omega) (by omega)]; simp
  ·rw [jc5 (l:=j9y l) (n:=n) (j:=j) (z:=0) (x:=l[j].N) rfl (by simp [j9y]; omega) (by omega) (by simp [j9y,hj'])]
   exact z25 (z1t hp _)
 ·have : n-j=0:=by omega
  refine ⟨z20 hp,?_⟩
  have hb:=z1w hp jek
  have e:n=(j9y l).length:=by simp [j9y]; omega
  rw [List.take_of_length_le (by omega),this] at hb
  conv=>arg 3;rw [e]
  exact j50 (by simpa using hb)
theorem js2 {S:St} {a:Option Addr} {n c:Nat} {nd:List Nat} (h:DA S a n c nd) {k:Nat} (hk:k < nd.length) :
 WP (jn4 [.slice a n c,vN k]) S λ v S'=>v=vT [vN (js0 nd k),vI 0]/\S'=S:=by
 have hn:=h.ar.1
 have hlen:=h.len
 have hc:=h.c
 rw [List.length_map] at hn
 have hal:=h.allV
 rw [jn5]
 have e1:wI ((k:Int)+1)=((k+1:Nat):Int):=by rw [wI_ (by omega) (by omega)]; omega
 simp only [wps,(j2q (c:=c) h.ar).wp,hal,e1]
 refine ⟨λ e=>by omega,λ _=>⟨λ e=>by omega,λ _=>?_⟩⟩
 refine j8e h.ar (λ _=>rfl) (by decide) (by omega) (by omega) (by omega) hc ?_
 intro a' k' hk' har
 rw [Int.toNat_natCast,Int.toNat_natCast] at har hk'
 simp only [wps,Int.toNat_natCast]
 have el:((nd.map λ x:Nat=>(x:Int)).drop (k+1)).take (n-(k+1))=(nd.drop (k+1)).map λ x:Nat=>(x:Int):=by
  rw [List.take_of_length_le (by simp;omega),List.map_drop]
 rw [el] at har
 generalize hr:nd.drop (k+1)=r at har
 have hrl:r.length=n-(k+1):=by rw [<- hr]; simp;omega
 have hb:∀ j,z2r (r.take j)<=4096:=by
  intro j
  have h1:=js1 h.all h.p (k+1)
  rw [hr] at h1
  have e:z2r r=z2r (r.take j)*z2r (r.drop j):=by rw [<- z2s,List.take_append_drop]
  have h2:=z2u (r.drop j) λ x hx=>(h.all x (by rw [<- hr] at hx;exact List.mem_of_mem_drop (List.mem_of_mem_drop hx))).1
  have h3:z2r (r.take j)*1<=z2r (r.take j)*z2r (r.drop j):=Nat.mul_le_mul_left _ h2
  omega
 refine zgd (λ st S' m=>∃ j:Nat,st=[vN (z2r (r.take j)),vI j]/\m=r.length-j/\j<=r.length/\S'=S) ?_ r.length _ _ ⟨0,by simp [z2r],rfl,by omega,rfl⟩
 rintro st S' m ⟨j,rfl,rfl,hj,rfl⟩
 simp only [wps]
 refine ⟨λ h3=>?_,λ h3=>?_⟩
 ·have hj':j < r.length:=by omega
  obtain ⟨x,rfl,c1⟩:=har.getI (i:=j) (by simpa using hj')
  rw [List.getElem_map] at c1
  simp only [wps,c1]
  have e2:(z2r (r.take j):Int)*(r[j]:Int)=((z2r (r.take (j+1)):Nat):Int):=by rw [zcr hj',z2v,Int.natCast_mul]
  have:=hb (j+1)
  rw [e2,wI_ (n:=(j:Int)+1) (by omega) (by omega),wI_ (by omega) (by omega)]
  exact ⟨by omega,r.length-(j+1),by omega,j+1,rfl,rfl,by omega⟩
 ·rw [List.take_of_length_le (by omega)]
  unfold js0
  rw [hr]
theorem wN {q:Nat} (h:q<=1000000000000):wI ((q:Nat):Int)=(q:Int):=wI_ (by omega) (by omega)
theorem jvc {inner d n m k i:Nat} (hn:n=m*(d*inner)) (hi:i < d) (hin:1<=inner) (hk:k < n / d):jvb inner d k i < n:=by
 have hd:0 < d:=by omega
 have e1:n / d=m*inner:=by rw [hn,Nat.mul_comm d inner,<- Nat.mul_assoc,Nat.mul_div_cancel _ hd]
 rw [e1] at hk
 have hq:k / inner < m:=Nat.div_lt_of_lt_mul (by rw [Nat.mul_comm]; exact hk)
 have hr:k % inner < inner:=Nat.mod_lt _ hin
 have h1:(k / inner+1)*(d*inner)<=m*(d*inner):=Nat.mul_le_mul_right _ hq
 have h2:(i+1)*inner<=d*inner:=Nat.mul_le_mul_right _ hi
 rw [Nat.succ_mul] at h1 h2
 unfold jvb
 rw [Nat.mul_assoc]
 omega
theorem jvd {S:St} {a:Option Addr} {n c:Nat} {nd:List Nat} (h:DA S a n c nd) {k j:Nat} (hk:k < nd.length) (hj:j < z2r nd / nd[k]) :
 WP (jn7 [.slice a n c,vN k,vN j]) S λ v S'=>v=vT [.slice (some ⟨S.length,0,none⟩) nd[k] nd[k],vI 0]/\S'=S++[.cells ((List.range nd[k]).map λ i=>vN (jvb (js0 nd k) nd[k] j i)) 3 none]:=by
 have hn:=h.ar.1
 have hlen:=h.len
 have hp:=h.p
 rw [List.length_map] at hn
 have hal:=h.allV
 obtain ⟨x,rfl,c1⟩:=h.ar.getI (i:=k) (by simpa using hk)
 rw [List.getElem_map] at c1
 have hd:=h.all _ (List.getElem_mem hk)
 have hi:=js1 h.all h.p (k+1)
 have hnm:=z9y hk
 generalize hD:nd[k]=d at hj c1 hd hnm ⊢
 have hin:z2r (nd.drop (k+1))=js0 nd k:=rfl
 rw [hin] at hi
 rw [jn8]
 simp only [wps]
 refine (js2 h hk).mono ?_
 rintro _ S1 ⟨rfl,rfl⟩
 generalize hI:js0 nd k=inner at hi hnm ⊢
 generalize hN:z2r nd=N at hj hp hal hnm
 have hjN:j < 4096:=Nat.lt_of_lt_of_le hj (Nat.le_trans (Nat.div_le_self _ _) hp)
 have e1:wI ((N:Int).tdiv (d:Int))=((N / d:Nat):Int):=by
  have : (N:Int).tdiv (d:Int)=((N / d:Nat):Int):=rfl
  have h2:=Nat.div_le_self N d
  rw [this,wI_ (by omega) (by omega)]
 simp only [wps,(j2q (c:=c) h.ar).wp,hal,c1,e1]
 refine ⟨by omega,λ e=>by omega,λ _=>⟨by omega,?_⟩⟩
 unfold jtp
 have e2:decide (((N / d:Nat):Int)<=(j:Int))=false:=by simp;omega
 simp only [wps,e2,zhy,Int.toNat_natCast]
 refine ⟨λ e=>by omega,λ _=>?_⟩
 refine ⟨⟨by omega,by omega,by omega,rfl⟩,by omega,by omega,?_⟩
 refine zgd (λ st S' m=>∃ i:Nat,st=[vI i]/\m=d-i/\i<=d/\S'=S1++[.cells ((List.range i).map (λ i=>vN (jvb inner d j i))++List.replicate (d-i) (vI 0)) 3 none]) ?_ d _ _ ⟨0,rfl,rfl,by omega,by simp⟩
 rintro st S' m ⟨i,rfl,rfl,hi',rfl⟩
 simp only [wps]
 refine ⟨λ h3=>?_,λ h3=>?_⟩
 ·have hid:i < d:=by omega
  have hl:=jvc hnm hid hi.1 hj
  have b1:j / inner*d*inner+j % inner+i*inner < 4097:=by unfold jvb at hl;omega
  have e3:wI (wI (wI (wI (wI ((j:Int).tdiv (inner:Int))*(d:Int))*(inner:Int))+(j:Int).tmod (inner:Int))+wI ((i:Int)*(inner:Int)))=((jvb inner d j i:Nat):Int):=by
   have t1:(j:Int).tdiv (inner:Int)=((j / inner:Nat):Int):=rfl
   have t2:(j:Int).tmod (inner:Int)=((j % inner:Nat):Int):=rfl
   have q1:=Nat.div_le_self j inner
   have q2:=Nat.mod_le j inner
   have q3:j / inner*d<=j / inner*d*inner:=Nat.le_mul_of_pos_right _ hi.1
   rw [t1,t2,wN (q:=j / inner) (by omega),<- Int.natCast_mul,wN (q:=j / inner*d) (by omega),<- Int.natCast_mul,wN (q:=j / inner*d*inner) (by omega),<- Int.natCast_mul,wN (q:=i*inner) (by omega),<- Int.natCast_add,wN (q:=j / inner*d*inner+j % inner) (by omega),<- Int.natCast_add,wN (by omega)]; rfl
  rw [e3,wI_ (n:=(i:Int)+1) (by omega) (by omega)]
  refine ⟨h3,by simp;omega,d-(i+1),by omega,i+1,rfl,rfl,by omega,?_⟩
  rw [jc4 (f:=λ i=>vN (jvb inner d j i)) (z:=vI 0) rfl hid rfl]
 ·obtain rfl:i=d:=by omega
  simp
def j7y (nd:List Nat) (i:Nat):List Nat:=(List.range nd.length).map λ k=>i / js0 nd k % nd.getD k 1
theorem j7z {S:St} {a:Option Addr} {n c:Nat} {nd:List Nat} (h:DA S a n c nd) {i:Nat} (hi:i < z2r nd) :
 WP (jn1 [.slice a n c,vN i]) S λ v S'=>v=vT [.slice (some ⟨S.length,0,none⟩) nd.length nd.length,vI 0]/\S'=S++[.cells ((j7y nd i).map λ x=>vN x) 3 none]:=by
 have hn:=h.ar.1
 have hlen:=h.len
 have hp:=h.p
 rw [List.length_map] at hn
 have hal:=h.allV
 rw [jn2]
 subst hn
 rw [show wI ((nd.length:Int)-1)=((nd.length:Int)-1) from wI_ (by omega) (by omega)]
 simp only [wps,(j2q (c:=c) h.ar).wp,hal,zhy,Int.toNat_natCast]
 refine ⟨λ e=>by omega,λ _=>⟨λ e=>by omega,λ _=>?_⟩⟩
 refine ⟨⟨by omega,by omega,by omega,rfl⟩,?_⟩
 refine zgd (λ st S' m=>∃ j:Nat,st=[vN (i / z2r (nd.drop j)),vI ((j:Int)-1)]/\m=j/\j<=nd.length/\S'=S++[.cells (List.replicate j (vI 0)++((j7y nd i).drop j).map λ x=>vN x) 3 none]) ?_ nd.length _ _ ⟨nd.length,by simp [z2r],rfl,by omega,by simp [j7y]⟩
 rintro st S' m ⟨j,rfl,rfl,hj,rfl⟩
 simp only [wps]
 refine ⟨λ h3=>?_,λ h3=>?_⟩
 ·obtain ⟨k,rfl⟩:∃ k,m=k+1:=⟨m-1,by omega⟩
  have hk:k < nd.length:=by omega
  have hpre:=List.prefix_append S [j00.cells (List.replicate (k+1) (vI 0)++((j7y nd i).drop (k+1)).map λ x=>vN x) 3 none]
  obtain ⟨x,rfl,c1⟩:=(h.ar.mono hpre).getI (i:=k) (by simpa using hk)
  rw [List.getElem_map] at c1
  have hd:=h.all _ (List.getElem_mem hk)
  have ek:((k+1:Nat):Int)-1=(k:Int):=by omega
  have hib:=Nat.div_le_self i (z2r (nd.drop (k+1)))
  have t1:((i / z2r (nd.drop (k+1)):Nat):Int).tdiv (nd[k]:Int)=((i / z2r (nd.drop k):Nat):Int):=by
   show ((i / z2r (nd.drop (k+1)) / nd[k]:Nat):Int)=_
   rw [Nat.div_div_eq_div_mul,List.drop_eq_getElem_cons hk,z2t,Nat.mul_comm]
  have t2:((i / z2r (nd.drop (k+1)):Nat):Int).tmod (nd[k]:Int)=((i / js0 nd k % nd[k]:Nat):Int):=rfl
  have hib2:=Nat.div_le_self i (z2r (nd.drop k))
  simp only [wps,ek,Int.toNat_natCast,c1,t1,t2]
  rw [wN (q:=i / z2r (nd.drop k)) (by omega),wI_ (n:=(k:Int)-1) (by omega) (by omega)]
  refine ⟨by omega,by omega,by omega,by omega,by omega,by simp,k,by omega,k,rfl,rfl,by omega,?_⟩
  have hcl:(j7y nd i).length=nd.length:=by simp [j7y]
  have hck:(j7y nd i)[k]'(by omega)=i / js0 nd k % nd[k]:=by simp [j7y,hk]
  rw [z9v (by simp;omega),List.set_append_left _ _ (by simp),List.replicate_succ',List.set_append_right _ _ (by simp)]
  simp only [List.length_replicate,Nat.sub_self,List.set_cons_zero,List.append_assoc,List.cons_append,List.nil_append]
  rw [List.drop_eq_getElem_cons (l:=j7y nd i) (i:=k) (by omega),List.map_cons,hck]
 ·obtain rfl:m=0:=by omega
  simp
abbrev jxp (l:List Nat):j00:=.cells (l.map λ x=>vN x) 3 none
abbrev spV (s:Stp):Value:=vA [vI s.ax,vB s.tw,vI s.st.R,vI s.st.L,vI s.st.M]
abbrev spC (s:Stp):List Value:=[vI s.ax,vB s.tw,vI s.st.R,vI s.st.L,vI s.st.M]
abbrev grV (b0 b1 b2:Nat) (g:GrN):Value:=vA [.slice (some ⟨b0,0,none⟩) g.i.length g.i.length,.slice (some ⟨b1,0,none⟩) g.f.length g.f.length,.slice (some ⟨b2,0,none⟩) g.o.length g.o.length]
theorem DA.kp {S S':St} {b:Nat} {n c:Nat} {nd:List Nat} {M:List Nat} (h:DA S (some ⟨b,0,none⟩) n c nd) (k:Kp M S S') (hb:b∉M):DA S' (some ⟨b,0,none⟩) n c nd:=
 ⟨k.ar h.ar λ _ x hx=>by injection hx with hx;subst hx;exact hb,h.c,h.len,h.all,h.p⟩
theorem jxq {S:St} {b:Nat} {l:List Nat} (h:S[b]? = some (jxp l)):Ar S (some ⟨b,0,none⟩) l.length 1 eI (l.map λ x:Nat=>(x:Int)):=by
 have:=Ar.blk (e:=eI) (w:=1) (l:=l.map λ x:Nat=>(x:Int)) h (λ _ _=>rfl) (by rw [List.flatMap_map,List.map_eq_flatMap]; rfl)
 rwa [List.length_map] at this
section
variable {C:FuncId->List Value->M Value} {tell:Value} {I:List GrN->List Nat->St->Prop} {gs:List GrN}
noncomputable abbrev eC (C:FuncId->List Value->M Value):FuncId->List Value->M Value:=jvv [((117:Nat),jj5),((116:Nat),jmy),((234:Nat),jn1),((227:Nat),jn7),((236:Nat),jov),((235:Nat),jos)] C
structure j1h (C:FuncId->List Value->M Value) (tell:Value) (gs:List GrN) (I:List GrN->List Nat->St->Prop) (L:Nat):Prop where
 lt:∀ pre T S,I pre T S->∀ i∈T,i < S.length
 mono:∀ pre T S S',I pre T S->S <+: S'->I pre T S'
 step:∀ pre g T S b0 b1 b2,I pre T S->g∈gs->pre.length < gs.length->S[b0]? = some (jxp g.i)->S[b1]? = some (jxp g.f)->S[b2]? = some (jxp g.o)->b0∉T->b1∉T->b2∉T->L<=b0->L<=b1->L<=b2 ->
  WP (j6k (eC C) tell [grV b0 b1 b2 g]) S λ v S'=>v=vT []/\∃ T',Mo T S T' S'/\I (pre++[g]) T' S'
def JJ (I:List GrN->List Nat->St->Prop) (T0:List Nat) (S0:St) (pre:List GrN) (S:St):Prop:=∃ T,Mo T0 S0 T S/\I pre T S
set_option maxHeartbeats 2000000 in
theorem jam {S0:St} {axes:Option Addr} {n c:Nat} {l:List Ax} {s:Stp} {k d inner nn m:Nat} (hs:Shp l s k d inner nn m) (ht:s.tw=true) (h:Ar S0 axes n 2 eAx l) {T0:List Nat} (hT:j1h C tell (jqs l s) I S0.length) (h0:I [] T0 S0) :
 WP (jop C [.slice axes n c,spV s,tell]) S0 λ v S'=>v=vI 0/\JJ I T0 S0 (jqs l s) S':=by
 have hn:=h.1
 have hlen:=hs.len
 have hT0:=hT.lt _ _ _ h0
 rw [joq]
 simp only [wps]
 have hp0:=List.prefix_append S0 [j00.cells (spC s) 29 none]
 have z0:=jek (S:=S0) (o:=j00.cells (spC s) 29 none)
 generalize hY:S0++[j00.cells (spC s) 29 none]=Y at hp0 z0
 have hYl:Y.length=S0.length+1:=by rw [<- hY]; simp
 refine (j9x (c:=c) (h.mono hp0) (by omega)).mono ?_
 rintro _ S1 ⟨rfl,hp1,har⟩
 have hS1:=z1w hp1 z0
 have hdl:j9y l=(jxv l).map λ x:Nat=>(x:Int):=by
  unfold j9y jxv
  rw [List.map_map]
  refine List.map_congr_left λ a ha=>?_
  have:=hs.all a.N.toNat (List.mem_map_of_mem ha)
  show a.N=((a.N.toNat:Nat):Int); omega
 have hnl:n=(jxv l).length:=by rw [hn]; simp [jxv]
 have hda:DA S1 (some ⟨Y.length,0,none⟩) n n (jxv l):=⟨by rw [<- hdl]; exact har,Nat.le_refl _,by simp [jxv]; omega,hs.all,by rw [hs.np]; exact hs.n1.2⟩
 have hb1:Y.length < S1.length:=by
  have:=har.low (λ x=>⟨_,rfl⟩) (by rw [hdl]; intro e;have:=congrArg List.length e;simp [jxv] at this;rw [this] at hlen;simp at hlen) _ rfl
  exact this
 have i1:I [] T0 S1:=hT.mono _ _ _ _ (hT.mono _ _ _ _ h0 hp0) hp1
 simp only [wps,(j2q (c:=n) hda.ar).wp,hda.allV,j6u hS1,gcz,gcs,ht]
 rw [jqv hs ht] at hT ⊢
 rw [hs.np]
 refine zgd (λ st S' m=>∃ j:Nat,st=[vN j]/\m=nn-j/\j<=nn/\JJ I T0 S1 ((List.range j).map λ i=>⟨[i],[i / inner % d],[i]⟩) S') ?_ nn _ _ ⟨0,rfl,rfl,by omega,T0,.refl,i1⟩
 rintro st S' q ⟨j,rfl,rfl,hj,T,hm,hi⟩
 simp only [wps]
 refine ⟨λ h3=>?_,λ h3=>?_⟩
 ·have hj':j < nn:=by omega
  have hn1:=hs.n1
  have hda':=hda.kp hm.kp (λ hx=>by have:=hT0 _ hx;omega)
  have z':=hm.get hS1 (λ hx=>by have:=hT0 _ hx;omega)
  refine (j7z hda' (i:=j) (by rw [hs.np]; exact hj')).mono ?_
  rintro _ S2 ⟨rfl,rfl⟩
  have hSl:=hm.kp.len
  have zl:=z1y z'
  have z2:∀ L:St,(S'++L)[S0.length]? = some (.cells (spC s) 29 none):=λ L=>jeh z'
  have hkl:k < (jxv l).length:=by rw [<- hnl,hn]; exact hs.kl
  have hgd:(jxv l).getD k 1=d:=by rw [List.getD_eq_getElem?_getD,hs.dk]; rfl
  have hcx:((j7y (jxv l) j).map λ x=>vN x)[k]? = some (vN (j / inner % d)):=by
   have hkd:(jxv l)[k]'hkl=d:=by have:=hs.dk;rw [List.getElem?_eq_getElem hkl] at this;exact Option.some.inj this
   unfold j7y
   simp [hkl,hkd,hs.inn]
  have g0:∀ L:St,(S'++jxp (j7y (jxv l) j) :: L)[S'.length]? = some (jxp (j7y (jxv l) j)):=λ L=>gA0
  simp only [wps,j6u (z2 _),gcz,gcs,hs.ax,List.append_assoc,List.cons_append,List.nil_append,j6u (g0 _),Int.toNat_natCast,hcx,List.length_append,List.length_cons,List.length_nil,Nat.add_assoc,Nat.zero_add,Nat.reduceAdd]
  rw [wI_ (n:=(j:Int)+1) (by omega) (by omega)]
  refine ⟨by omega,?_⟩
  generalize hZ:S'++[j00.cells (List.map (λ x=>vN x) (j7y (jxv l) j)) 3 none,j00.cells [vI (j:Int)] 3 none,j00.cells [vI ((j / inner % d:Nat):Int)] 3 none,j00.cells [vI (j:Int)] 3 none]=Z
  have hpz:S' <+: Z:=⟨_,hZ⟩
  have hTl:=hT.lt _ _ _ hi
  have hbl:S0.length<=S'.length:=by have:=hm.kp.len;omega
  have y1:Z[S'.length+1]? = some (jxp [j]):=by rw [<- hZ]; exact gA
  have y2:Z[S'.length+2]? = some (jxp [j / inner % d]):=by rw [<- hZ]; exact gA
  have y3:Z[S'.length+3]? = some (jxp [j]):=by rw [<- hZ]; exact gA
  refine (hT.step _ ⟨[j],[j / inner % d],[j]⟩ T Z _ _ _ (hT.mono _ _ _ _ hi hpz) (List.mem_map.2 ⟨j,List.mem_range.2 hj',rfl⟩) (by simp;omega) y1 y2 y3 (λ hx=>by have:=hTl _ hx;omega) (λ hx=>by have:=hTl _ hx;omega) (λ hx=>by have:=hTl _ hx;omega) (by omega) (by omega) (by omega)).mono ?_
  rintro _ S4 ⟨rfl,T',hm',hi'⟩
  simp only [wps]
  exact ⟨nn-(j+1),by omega,j+1,rfl,rfl,by omega,T',(hm.more hpz).trans hm',by rw [List.range_succ,List.map_append]; exact hi'⟩
 ·obtain rfl:j=nn:=by omega
  exact ⟨T,Mo.pre (hp0.trans hp1) hm,hi⟩
end
section
variable {C:FuncId->List Value->M Value} {tell:Value} {I:List GrN->List Nat->St->Prop}
def stG (inner d R L M k a b:Nat):GrN:=⟨(List.range R).map λ t=>jvb inner d k (b+L*a+L*M*t),(List.range R).map λ t=>a*R+t,(List.range R).map λ t=>jvb inner d k (b+L*R*a+L*t)⟩
def stA (inner d R L M k a:Nat):List GrN:=(List.range L).map (stG inner d R L M k a)
def stK (inner d R L M k:Nat):List GrN:=(List.range M).flatMap (stA inner d R L M k)
theorem za8 (inner d n R L M:Nat):stN inner d n R L M=(List.range (n / d)).flatMap (stK inner d R L M):=rfl
theorem z4x {α:Type} (f:Nat->List α) (k:Nat):(List.range (k+1)).flatMap f=(List.range k).flatMap f++f k:=by
 rw [List.range_succ,List.flatMap_append]; simp
theorem za3 {inner d n R L M k a b:Nat} (hk:k < n / d) (ha:a < M) (hb:b < L):stG inner d R L M k a b∈stN inner d n R L M:=by
 rw [za8]
 exact List.mem_flatMap.2 ⟨k,List.mem_range.2 hk,List.mem_flatMap.2 ⟨a,List.mem_range.2 ha,List.mem_map.2 ⟨b,List.mem_range.2 hb,rfl⟩⟩⟩
theorem jcw {α β:Type} {e:α->List β} {w:Nat} (h:∀ x,(e x).length=w):∀ l:List α,(l.flatMap e).length=l.length*w
 | [] => by simp
 | x :: l => by rw [List.flatMap_cons, List.length_append, jcw h l, h, List.length_cons, Nat.succ_mul]; omega
theorem za2 (inner d R L M k a:Nat):(stA inner d R L M k a).length=L:=by simp [stA]
theorem za6 (inner d R L M k:Nat):(stK inner d R L M k).length=M*L:=by
 unfold stK;rw [jcw (za2 inner d R L M k),List.length_range]
theorem zac (inner d n R L M:Nat):(stN inner d n R L M).length=n / d*(M*L):=by
 rw [za8,jcw (za6 inner d R L M),List.length_range]
theorem z1x {inner d n R L M j a b:Nat} (hj:j < n / d) (ha:a < M) (hb:b < L):((List.range j).flatMap (stK inner d R L M)++(List.range a).flatMap (stA inner d R L M j)++(List.range b).map (stG inner d R L M j a)).length < (stN inner d n R L M).length:=by
 rw [zac,List.length_append,List.length_append,jcw (za6 inner d R L M),jcw (za2 inner d R L M j),List.length_map,List.length_range,List.length_range,List.length_range]
 have h1:(j+1)*(M*L)<=n / d*(M*L):=Nat.mul_le_mul_right _ hj
 have h2:(a+1)*L<=M*L:=Nat.mul_le_mul_right _ ha
 rw [Nat.succ_mul] at h1 h2
 omega
theorem z0z {inner d k R:Nat} {f:Nat->Nat} (h:∀ t,t < R->f t < d) :
 ((List.range ((List.range R).map f).length).map λ t=>vN (((List.range d).map λ i=>jvb inner d k i).getD (((List.range R).map f).getD t 0) 0))=((List.range R).map λ t=>jvb inner d k (f t)).map λ x=>vN x:=by
 rw [List.length_map,List.length_range,List.map_map]
 refine List.map_congr_left λ t ht=>?_
 rw [List.mem_range] at ht
 have:=h t ht
 simp [List.getD_eq_getElem?_getD,ht,this]
set_option maxHeartbeats 4000000 in
theorem jal {S0:St} {axes:Option Addr} {n c:Nat} {l:List Ax} {s:Stp} {k d inner nn m:Nat} (hs:Shp l s k d inner nn m) (ht:s.tw=false) (h:Ar S0 axes n 2 eAx l) {T0:List Nat} (hT:j1h C tell (jqs l s) I S0.length) (h0:I [] T0 S0) :
 WP (jop C [.slice axes n c,spV s,tell]) S0 λ v S'=>v=vI 0/\JJ I T0 S0 (jqs l s) S':=by
 obtain ⟨R,L,M,hst,r1,r2,l1,m1,hd⟩:∃ R L M:Nat,s.st=⟨R,L,M⟩/\2<=R/\R<=5/\1<=L/\1<=M/\d=L*(R*M):=by
  rcases hs.st with ⟨h1,_⟩ | ⟨_,h1⟩
  ·rw [ht] at h1;cases h1
  ·exact h1
 have hn:=h.1
 have hlen:=hs.len
 have hn1:=hs.n1
 have hd1:=hs.d1
 have hT0:=hT.lt _ _ _ h0
 rw [joq]
 simp only [wps]
 have hp0:=List.prefix_append S0 [j00.cells (spC s) 29 none]
 have z0:=jek (S:=S0) (o:=j00.cells (spC s) 29 none)
 generalize hY:S0++[j00.cells (spC s) 29 none]=Y at hp0 z0
 have hYl:Y.length=S0.length+1:=by rw [<- hY]; simp
 refine (j9x (c:=c) (h.mono hp0) (by omega)).mono ?_
 rintro _ S1 ⟨rfl,hp1,har⟩
 have hS1:=z1w hp1 z0
 have hdl:j9y l=(jxv l).map λ x:Nat=>(x:Int):=by
  unfold j9y jxv
  rw [List.map_map]
  refine List.map_congr_left λ a ha=>?_
  have:=hs.all a.N.toNat (List.mem_map_of_mem ha)
  show a.N=((a.N.toNat:Nat):Int); omega
 have hnl:n=(jxv l).length:=by rw [hn]; simp [jxv]
 have hda:DA S1 (some ⟨Y.length,0,none⟩) n n (jxv l):=⟨by rw [<- hdl]; exact har,Nat.le_refl _,by simp [jxv]; omega,hs.all,by rw [hs.np]; exact hs.n1.2⟩
 have hb1:Y.length < S1.length:=by
  have:=har.low (λ x=>⟨_,rfl⟩) (by rw [hdl]; intro e;have:=congrArg List.length e;simp [jxv] at this;rw [this] at hlen;simp at hlen) _ rfl
  exact this
 have hkl:k < (jxv l).length:=by rw [<- hnl,hn]; exact hs.kl
 have hkd:(jxv l)[k]'hkl=d:=by have:=hs.dk;rw [List.getElem?_eq_getElem hkl] at this;exact Option.some.inj this
 have i1:I [] T0 S1:=hT.mono _ _ _ _ (hT.mono _ _ _ _ h0 hp0) hp1
 obtain ⟨xa,hxa,c1⟩:=hda.ar.getI (i:=k) (by simpa using hkl)
 injection hxa with hxa;subst hxa
 rw [List.getElem_map,hkd,j23,Nat.zero_add] at c1
 simp only [wps,(j2q (c:=n) hda.ar).wp,hda.allV,j6u hS1,gcz,gcs,ht,hs.ax,Int.toNat_natCast,c1]
 rw [jqu hs ht hst] at hT ⊢
 rw [hs.np]
 have eD:wI ((nn:Int).tdiv (d:Int))=((nn / d:Nat):Int):=by
  have e1:(nn:Int).tdiv (d:Int)=((nn / d:Nat):Int):=rfl
  have e2:=Nat.div_le_self nn d
  rw [e1,wN (by omega)]
 have hLM:L*M<=d:=by rw [hd]; exact Nat.mul_le_mul_left _ (Nat.le_mul_of_pos_left _ (by omega))
 have hLR:L*R<=d:=by rw [hd]; exact Nat.mul_le_mul_left _ (Nat.le_mul_of_pos_right _ (by omega))
 have hMR:M*R<=d:=by rw [hd,Nat.mul_comm M R]; exact Nat.le_mul_of_pos_left _ (by omega)
 have hM:M<=d:=Nat.le_trans (Nat.le_mul_of_pos_left _ (by omega)) hLM
 have hL:L<=d:=Nat.le_trans (Nat.le_mul_of_pos_right _ (by omega)) hLM
 have hLMR:L*M*R=d:=by rw [hd,Nat.mul_comm R M,Nat.mul_assoc]
 have hLRM:L*R*M=d:=by rw [hd,Nat.mul_assoc]
 rw [eD]
 refine ⟨by omega,by omega,?_⟩
 refine zgd (λ st S' q=>∃ j:Nat,st=[vN j]/\q=nn / d-j/\j<=nn / d/\JJ I T0 S1 ((List.range j).flatMap (stK inner d R L M)) S') ?_ (nn / d) _ _ ⟨0,rfl,rfl,Nat.zero_le _,T0,.refl,i1⟩
 rintro st S' q ⟨j,rfl,rfl,hj,T,hm,hi⟩
 have hnd:=Nat.div_le_self nn d
 have z':=hm.get hS1 (λ hx=>by have:=hT0 _ hx;omega)
 simp only [wps]
 refine ⟨λ h3=>?_,λ h3=>?_⟩
 rotate_left
 ·obtain rfl:j=nn / d:=by omega
  exact ⟨T,Mo.pre (hp0.trans hp1) hm,hi⟩
 have hj':j < nn / d:=by omega
 have hda':=hda.kp hm.kp (λ hx=>by have:=hT0 _ hx;omega)
 simp only [wps,j6u z',gcz,gcs,hs.ax]
 refine (jvd hda' hkl (j:=j) (by rw [hs.np,hkd]; exact hj')).mono ?_
 rintro _ S2 ⟨rfl,rfl⟩
 rw [hkd,hs.inn]
 have hp2:=List.prefix_append S' [j00.cells ((List.range d).map λ i=>vN (jvb inner d j i)) 3 none]
 have y2:(S'++[j00.cells ((List.range d).map λ i=>vN (jvb inner d j i)) 3 none])[S'.length]? = some (jxp ((List.range d).map λ i=>jvb inner d j i)):=by rw [jek,jxp,List.map_map]; rfl
 generalize hZ:S'++[j00.cells ((List.range d).map λ i=>vN (jvb inner d j i)) 3 none]=Z at hp2 y2
 have hTl:=hT.lt _ _ _ hi
 have hnT:S0.length∉T:=hm.out (λ hx=>by have:=hT0 _ hx;omega) (z1y hS1)
 have zZ:=z1w hp2 z'
 have iZ:=hT.mono _ _ _ _ hi hp2
 simp only [wps,j6u zZ,gcz,gcs,hst]
 rw [wI_ (n:=(j:Int)+1) (by omega) (by omega)]
 refine zgd (λ st S3 q=>∃ a:Nat,st=[vN a]/\q=M-a/\a<=M/\JJ I T Z ((List.range j).flatMap (stK inner d R L M)++(List.range a).flatMap (stA inner d R L M j)) S3) ?_ M _ _ ⟨0,rfl,rfl,by omega,T,.refl,by simpa using iZ⟩
 rintro st S3 q ⟨a,rfl,rfl,ha,T3,hm3,hi3⟩
 simp only [wps]
 refine ⟨λ h4=>?_,λ h4=>?_⟩
 rotate_left
 ·obtain rfl:a=M:=by omega
  refine ⟨nn / d-(j+1),by omega,j+1,rfl,rfl,by omega,T3,(hm.more hp2).trans hm3,?_⟩
  rw [z4x]; exact hi3
 have ha':a < M:=by omega
 have z3:=hm3.get zZ hnT
 simp only [wps,j6u z3,gcz,gcs,hst]
 rw [wI_ (n:=(a:Int)+1) (by omega) (by omega)]
 refine zgd (λ st S4 q=>∃ b:Nat,st=[vN b]/\q=L-b/\b<=L/\JJ I T Z ((List.range j).flatMap (stK inner d R L M)++(List.range a).flatMap (stA inner d R L M j)++(List.range b).map (stG inner d R L M j a)) S4) ?_ L _ _ ⟨0,rfl,rfl,by omega,T3,hm3,by simpa using hi3⟩
 rintro st S4 q ⟨b,rfl,rfl,hb,T4,hm4,hi4⟩
 simp only [wps]
 refine ⟨λ h5=>?_,λ h5=>?_⟩
 rotate_left
 ·obtain rfl:b=L:=by omega
  refine ⟨M-(a+1),by omega,a+1,rfl,rfl,by omega,T4,hm4,?_⟩
  rw [z4x,<- List.append_assoc]; exact hi4
 have hb':b < L:=by omega
 have z4:=hm4.get zZ hnT
 have zl:=hm4.get y2 (λ hx=>by have:=hTl _ hx;omega)
 have zlt:=z1y z4
 have t1:L*a+L<=L*M:=by rw [<- Nat.mul_succ]; exact Nat.mul_le_mul_left _ ha'
 have t2:a*R+R<=M*R:=by rw [<- Nat.succ_mul]; exact Nat.mul_le_mul_right _ ha'
 have t3:L*R*a+L*R<=L*R*M:=by rw [<- Nat.mul_succ]; exact Nat.mul_le_mul_left _ ha'
 have eA1:wI ((b:Int)+wI ((L:Int)*(a:Int)))=((b+L*a:Nat):Int):=by rw [<- Int.natCast_mul,wN (by omega),<- Int.natCast_add,wN (by omega)]
 have eA2:wI ((L:Int)*(M:Int))=((L*M:Nat):Int):=by rw [<- Int.natCast_mul,wN (by omega)]
 have eA3:wI ((a:Int)*(R:Int))=((a*R:Nat):Int):=by rw [<- Int.natCast_mul,wN (by omega)]
 have eA4:wI ((b:Int)+wI (wI ((L:Int)*(R:Int))*(a:Int)))=((b+L*R*a:Nat):Int):=by rw [<- Int.natCast_mul,wN (by omega),<- Int.natCast_mul,wN (by omega),<- Int.natCast_add,wN (by omega)]
 simp only [wps,j6u z4,gcz,gcs,hst,eA1,eA2,eA3,eA4]
 refine (z6h (f:=b+L*a) (m:=L*M) (n:=R) (by rw [hLMR]; omega) (by omega)).mono ?_
 rintro _ S5 ⟨rfl,rfl⟩
 have g4:∀ Q:St,(S4++Q)[S0.length]? = some (.cells (spC s) 29 none):=λ Q=>jeh z4
 have gl:∀ Q:St,(S4++Q)[S'.length]? = some (jxp ((List.range d).map λ i=>jvb inner d j i)):=λ Q=>jeh zl
 simp only [wps,j6u (g4 _),gcz,gcs,hst,and_true,true_and]
 have hlin:((List.range d).map λ i=>jvb inner d j i).length=d:=by simp
 generalize hB1:j00.cells ((List.range R).map λ t=>vN (b+L*a+L*M*t)) 3 none=B1
 have ln1:=jxq (gl [B1])
 have b1:(S4++[B1])[S4.length]? = some (jxp ((List.range R).map λ t=>b+L*a+L*M*t)):=by rw [jek,<- hB1,jxp,List.map_map]; rfl
 have ar1:=jxq b1
 rw [hlin] at ln1
 rw [List.length_map,List.length_range] at ar1
 have in1:∀ t,t < R->b+L*a+L*M*t < d:=by
  intro t h
  have : L*M*t+L*M<=L*M*R:=by rw [<- Nat.mul_succ]; exact Nat.mul_le_mul_left _ h
  omega
 have in2:∀ t,t < R->b+L*R*a+L*t < d:=by
  intro t h
  have : L*t+L<=L*R:=by rw [<- Nat.mul_succ]; exact Nat.mul_le_mul_left _ h
  omega
 refine (z15 (cl:=d) (ca:=R) ln1 ar1 ?_ (by omega)).mono ?_
 ·intro x hx
  obtain ⟨t,h,rfl⟩:=List.mem_map.1 hx
  rw [hlin]; exact in1 t (List.mem_range.1 h)
 rintro _ S5 ⟨rfl,rfl⟩
 rw [z0z in1]
 simp only [wps,j6u (g4 _),gcz,gcs,hst,and_true,true_and,List.append_assoc,List.cons_append,List.nil_append,List.length_map,List.length_range,List.length_append,List.length_cons,List.length_nil,Nat.zero_add]
 generalize hB2:j00.cells (List.map (λ x=>vN x) (List.map (λ t=>jvb inner d j (b+L*a+L*M*t)) (List.range R))) 3 none=B2
 refine (z6h (f:=a*R) (m:=1) (n:=R) (by omega) (by omega)).mono ?_
 rintro _ S5 ⟨rfl,rfl⟩
 simp only [wps,j6u (g4 _),gcz,gcs,hst,and_true,true_and,List.append_assoc,List.cons_append,List.nil_append,List.length_map,List.length_range,List.length_append,List.length_cons,List.length_nil,Nat.zero_add]
 generalize hB3:j00.cells ((List.range R).map λ t=>vN (a*R+1*t)) 3 none=B3
 refine (z6h (f:=b+L*R*a) (m:=L) (n:=R) (by omega) (by omega)).mono ?_
 rintro _ S5 ⟨rfl,rfl⟩
 simp only [wps,j6u (g4 _),gcz,gcs,hst,and_true,true_and,List.append_assoc,List.cons_append,List.nil_append,List.length_map,List.length_range,List.length_append,List.length_cons,List.length_nil,Nat.zero_add]
 generalize hB4:j00.cells ((List.range R).map λ t=>vN (b+L*R*a+L*t)) 3 none=B4
 have b4:(S4++[B1,B2,B3,B4])[S4.length+3]? = some (jxp ((List.range R).map λ t=>b+L*R*a+L*t)):=by rw [gA,<- hB4,jxp,List.map_map]; rfl
 have ar4:=jxq b4
 have ln4:=jxq (gl [B1,B2,B3,B4])
 rw [hlin] at ln4
 rw [List.length_map,List.length_range] at ar4
 refine (z15 (cl:=d) (ca:=R) ln4 ar4 ?_ (by omega)).mono ?_
 ·intro x hx
  obtain ⟨t,h,rfl⟩:=List.mem_map.1 hx
  rw [hlin]; exact in2 t (List.mem_range.1 h)
 rintro _ S5 ⟨rfl,rfl⟩
 rw [z0z in2]
 simp only [wps,List.append_assoc,List.cons_append,List.nil_append,List.length_map,List.length_range,List.length_append,List.length_cons,List.length_nil,Nat.zero_add]
 generalize hB5:j00.cells (List.map (λ x=>vN x) (List.map (λ t=>jvb inner d j (b+L*R*a+L*t)) (List.range R))) 3 none=B5
 generalize hX:S4++[B1,B2,B3,B4,B5]=X
 have hpx:S4 <+: X:=⟨_,hX⟩
 have hTl4:=hT.lt _ _ _ hi4
 have hbl:S0.length<=S4.length:=by have:=hm.kp.len;have:=hm4.kp.len;have:=hp2.length_le;omega
 have x1:X[S4.length+1]? = some (jxp (stG inner d R L M j a b).i):=by rw [<- hX,gA,<- hB2]; rfl
 have x2:X[S4.length+2]? = some (jxp (stG inner d R L M j a b).f):=by
  rw [<- hX,gA,<- hB3]
  unfold stG jxp
  simp only [List.getElem?_cons_succ,List.getElem?_cons_zero,List.map_map]
  congr 2
  refine List.map_congr_left λ t _=>?_
  show vN (a*R+1*t)=vN (a*R+t)
  rw [Nat.one_mul]
 have x3:X[S4.length+4]? = some (jxp (stG inner d R L M j a b).o):=by rw [<- hX,gA,<- hB5]; rfl
 have hst':=hT.step _ (stG inner d R L M j a b) T4 X _ _ _ (hT.mono _ _ _ _ hi4 hpx) (za3 hj' ha' hb') (z1x hj' ha' hb') x1 x2 x3 (λ hx=>by have:=hTl4 _ hx;omega) (λ hx=>by have:=hTl4 _ hx;omega) (λ hx=>by have:=hTl4 _ hx;omega) (by omega) (by omega) (by omega)
 have l1:(stG inner d R L M j a b).i.length=R:=by simp [stG]
 have l2:(stG inner d R L M j a b).f.length=R:=by simp [stG]
 have l3:(stG inner d R L M j a b).o.length=R:=by simp [stG]
 unfold grV at hst'
 rw [l1,l2,l3] at hst'
 rw [wI_ (n:=(b:Int)+1) (by omega) (by omega)]
 refine hst'.mono ?_
 rintro _ S6 ⟨rfl,T',hm',hi'⟩
 simp only [wps]
 exact ⟨L-(b+1),by omega,b+1,rfl,rfl,by omega,T',(hm4.more hpx).trans hm',by simp only [List.range_succ,List.map_append,List.append_assoc,List.map_cons,List.map_nil] at hi' ⊢; exact hi'⟩
theorem jan {S0:St} {axes:Option Addr} {n c:Nat} {l:List Ax} {s:Stp} {k d inner nn m:Nat} (hs:Shp l s k d inner nn m) (h:Ar S0 axes n 2 eAx l) {T0:List Nat} (hT:j1h C tell (jqs l s) I S0.length) (h0:I [] T0 S0) :
 WP (jop C [.slice axes n c,spV s,tell]) S0 λ v S'=>v=vI 0/\JJ I T0 S0 (jqs l s) S':=by
 cases ht:s.tw with
 | true => exact jam hs ht h hT h0
 | false => exact jal hs ht h hT h0
end
structure Gp where
 b0:Nat
 b1:Nat
 b2:Nat
 g:GrN
abbrev Gp.cells (x:Gp):List Value:=[.slice (some ⟨x.b0,0,none⟩) x.g.i.length x.g.i.length,.slice (some ⟨x.b1,0,none⟩) x.g.f.length x.g.f.length,.slice (some ⟨x.b2,0,none⟩) x.g.o.length x.g.o.length]
structure j0j (S:St) (T:List Nat) (L:Nat) (x:Gp):Prop where
 i:S[x.b0]? = some (jxp x.g.i)
 f:S[x.b1]? = some (jxp x.g.f)
 o:S[x.b2]? = some (jxp x.g.o)
 n:x.b0∉T/\x.b1∉T/\x.b2∉T
 l:L<=x.b0/\L<=x.b1/\L<=x.b2
theorem j0j.move {S S':St} {T T':List Nat} {L:Nat} {x:Gp} (h:j0j S T L x) (k:Mo T S T' S'):j0j S' T' L x:=
 ⟨k.get h.i h.n.1,k.get h.f h.n.2.1,k.get h.o h.n.2.2,⟨k.out h.n.1 (z1y h.i),k.out h.n.2.1 (z1y h.f),k.out h.n.2.2 (z1y h.o)⟩,h.l⟩
structure GI (nb L:Nat) (pre:List GrN) (T:List Nat) (S:St):Prop where
 ex:∃ aq ps,S[nb]? = some (.cells [.slice aq pre.length pre.length] 124 none)/\ps.map Gp.g=pre/\(∀ x∈ps,j0j S T L x) /\
  ((aq=none/\ps=[])\/∃ bq,aq=some ⟨bq,0,none⟩/\bq≠nb/\L<=bq/\bq∈T/\S[bq]? = some (.cells (ps.flatMap Gp.cells) 128 (some 3)))
 nb:nb∈T
 lt:∀ i∈T,i < S.length
theorem jqy {S:St} {T:List Nat} {nb L:Nat} {pre:List GrN} (h:GI nb L pre T S) {g:GrN} {b0 b1 b2:Nat} (hn:pre.length<=5000) (h0:S[b0]? = some (jxp g.i)) (h1:S[b1]? = some (jxp g.f)) (h2:S[b2]? = some (jxp g.o)) (n0:b0∉T) (n1:b1∉T) (n2:b2∉T) (l0:L<=b0) (l1:L<=b1) (l2:L<=b2) (hL:L<=S.length) :
 WP (joa [grV b0 b1 b2 g,.pointer (some ⟨nb,0,none⟩)]) S λ v S'=>v=vT []/\∃ T',Mo T S T' S'/\GI nb L (pre++[g]) T' S':=by
 obtain ⟨aq,ps,hb,hps,hok,hown⟩:=h.ex
 have hlt:=z1y hb
 have hpl:ps.length=pre.length:=by rw [<- hps,List.length_map]
 rw [job]
 have g1:∀ Q:St,(S++Q)[nb]? = some (.cells [.slice aq pre.length pre.length] 124 none):=λ Q=>jeh hb
 simp only [wps,j6u (g1 _),gA0,j6u gA0,List.append_assoc,List.cons_append,List.nil_append,List.length_append,List.length_cons,List.length_nil,Nat.zero_add,Nat.reduceAdd,gcz,gcs]
 generalize hY:S++_=Y
 have hp:S <+: Y:=⟨_,hY⟩
 have y1:Y[S.length+1]? = some (.cells (Gp.cells ⟨b0,b1,b2,g⟩) 128 none):=by rw [<- hY]; exact gA
 have hYl:Y.length=S.length+2:=by rw [<- hY]; simp
 refine z4y y1 rfl ?_
 have own':(aq=none/\pre.length=0/\ps.flatMap Gp.cells=[])\/∃ b,aq=some ⟨b,0,none⟩/\Y[b]? = some (.cells (ps.flatMap Gp.cells) 128 (some 3)):=by
  rcases hown with ⟨e1,e2⟩ | ⟨b,e1,_,_,_,e3⟩
  ·exact .inl ⟨e1,by rw [<- hpl,e2]; rfl,by rw [e2]; rfl⟩
  ·exact .inr ⟨b,e1,z1w hp e3⟩
 refine zft own' (by rw [jcv (e:=Gp.cells) (w:=3) (λ _=>rfl),hpl]) (by omega) (by omega) (by omega) rfl ?_
 intro S3 hl3 hk3 hn3
 have hanb:aq≠some ⟨nb,0,none⟩:=by
  rcases hown with ⟨e1,e2⟩ | ⟨b,e1,e2,_⟩
  ·rw [e1]; exact λ e=>by cases e
  ·rw [e1]; intro e;injection e with e;injection e with e;exact e2 e
 have haT:∀ i,aq=some ⟨i,0,none⟩->i∈T:=by
  intro i hi
  rcases hown with ⟨e1,e2⟩ | ⟨b,e1,e2,_,e4,_⟩
  ·rw [hi] at e1;cases e1
  ·rw [hi] at e1;injection e1 with e1;injection e1 with e1;subst e1;exact e4
 have z3:S3[nb]? = some (.cells [.slice aq pre.length pre.length] 124 none):=by rw [hk3 nb (by omega) hanb]; exact z1w hp hb
 simp only [wps,z3]
 have hmo:Mo T S (Y.length :: T) (List.set S3 nb (.cells [.slice (some ⟨Y.length,0,none⟩) (pre.length+1) (pre.length+1)] 124 none)):=by
  refine ⟨⟨by rw [List.length_set]; omega,λ i hi hn'=>?_⟩,λ i hi=>?_⟩
  ·rw [List.getElem?_set_ne (by rintro rfl;exact hn' h.nb),hk3 i (by omega) (λ e=>hn' (haT i e)),z1u hp hi]
  ·rcases List.mem_cons.1 hi with rfl | hi
   ·right;omega
   ·exact .inl hi
 refine ⟨Y.length :: T,hmo,⟨some ⟨Y.length,0,none⟩,ps++[⟨b0,b1,b2,g⟩],?_,by rw [List.map_append,hps]; rfl,?_,.inr ⟨Y.length,rfl,by omega,by omega,by simp,?_⟩⟩,List.mem_cons_of_mem _ h.nb,?_⟩
 ·rw [List.getElem?_set_self (by omega),List.length_append]; rfl
 ·intro x hx
  rcases List.mem_append.1 hx with hx | hx
  ·exact (hok x hx).move hmo
  ·rw [List.mem_singleton] at hx
   subst hx
   exact j0j.move ⟨h0,h1,h2,⟨n0,n1,n2⟩,⟨l0,l1,l2⟩⟩ hmo
 ·rw [List.getElem?_set_ne (by omega),hn3,List.flatMap_append]; simp
 ·intro i hi
  rw [List.length_set,hl3]
  rcases List.mem_cons.1 hi with rfl | hi
  ·omega
  ·have:=h.lt i hi;omega
theorem jqq {S:St} {p:Int} {axes:Option Addr} {n c:Nat} {l:List Ax} {s:Stp} (hp:zam p l s=0) (h:Ar S axes n 2 eAx l) (hl:n<=8796093022208) :
 WP (jo7 [vU p,.slice axes n c,spV s]) S λ v S'=>∃ a ps,v=vT [.slice a (jqs l s).length (jqs l s).length,vI 0]/\S <+: S'/\ps.map Gp.g=jqs l s/\(∀ x∈ps,j0j S' [] S.length x)/\Ar S' a (jqs l s).length 3 Gp.cells ps/\(∀ x,a=some x->S.length<=x.block):=by
 obtain ⟨k,d,inner,nn,m,hs⟩:=zas hp
 rw [jo8]
 have hp0:=List.prefix_append S [j00.cells (spC s) 29 none]
 have z0:=jek (S:=S) (o:=j00.cells (spC s) 29 none)
 simp only [wps]
 generalize hY:S++[j00.cells (spC s) 29 none]=Y at hp0 z0 ⊢
 have hYl:Y.length=S.length+1:=by rw [<- hY]; simp
 refine (zat (c:=c) (h.mono hp0) hl s).use ?_
 rintro _ S1 k1 rfl
 have z1:=z1w k1 z0
 simp only [wps,hp]
 have hp1:=hp0.trans k1
 have hl1:=k1.length_le
 have z2:=λ o=>jeh (t:=[o]) z1
 simp only [wps,j6u (z2 _),gcz,gcs]
 generalize hZ:S1++[j00.cells [.slice none 0 0] 124 none]=Z
 have hpz:S1 <+: Z:=⟨_,hZ⟩
 have zb:Z[S1.length]? = some (.cells [.slice none 0 0] 124 none):=by rw [<- hZ]; exact jek
 have hgl:(jqs l s).length<=4096:=by
  have hn1:=hs.n1
  rcases hs.st with ⟨ht,_⟩ | ⟨ht,R,L,M,hst,r1,r2,l1,m1,hd⟩
  ·rw [jqv hs ht,List.length_map,List.length_range]; omega
  ·rw [jqu hs ht hst,zac]
   have h1:M*L<=d:=by rw [hd,Nat.mul_comm]; exact Nat.mul_le_mul_left _ (Nat.le_mul_of_pos_left _ (by omega))
   have h2:nn / d*(M*L)<=nn / d*d:=Nat.mul_le_mul_left _ h1
   have h3:=Nat.div_mul_le_self nn d
   omega
 have hLZ:S.length<=S1.length:=hp1.length_le
 have hT:j1h (jvv [((182:Nat),joa)] noC) (.func (.func 182) (ar []) (ar [.pointer (some (ad S1.length 0))])) (jqs l s) (GI S1.length Z.length) Z.length:=by
  refine ⟨λ pre T S h=>h.lt,λ pre T S S' h k=>?_,?_⟩
  ·obtain ⟨aq,ps,h1,h2,h3,h4⟩:=h.ex
   exact ⟨⟨aq,ps,z1w k h1,h2,λ x hx=>(h3 x hx).move (.of k),h4.imp id λ ⟨bq,e1,e2,e3,e4,e5⟩=>⟨bq,e1,e2,e3,e4,z1w k e5⟩⟩,h.nb,λ i hi=>Nat.lt_of_lt_of_le (h.lt i hi) k.length_le⟩
  ·intro pre g T S4 b0 b1 b2 hi _ hpl h0 h1 h2 n0 n1 n2 l0 l1 l2
   have hx:∀ a,j6k (eC (jvv [((182:Nat),joa)] noC)) (.func (.func 182) (ar []) (ar [.pointer (some (ad S1.length 0))])) [a]=joa [a,.pointer (some (ad S1.length 0))]:=λ _=>rfl
   rw [hx]
   have:=z1y h0
   exact jqy hi (by omega) h0 h1 h2 n0 n1 n2 l0 l1 l2 (by omega)
 have i0:GI S1.length Z.length [] [S1.length] Z:=by
  refine ⟨⟨none,[],zb,rfl,?_,.inl ⟨rfl,rfl⟩⟩,by simp,λ i hi=>by rw [List.mem_singleton] at hi;subst hi;exact z1y zb⟩
  intro x hx;cases hx
 refine (jan (c:=c) hs (h.mono (hp1.trans hpz)) hT i0).mono ?_
 rintro _ S5 ⟨rfl,T,hm,hi⟩
 obtain ⟨aq,ps,h1,h2,h3,h4⟩:=hi.ex
 simp only [wps,j6u h1,List.getElem?_cons_zero]
 have hZl:=hpz.length_le
 have hfin:S <+: S5:=hm.low (hp1.trans hpz) (λ i hi=>by rw [List.mem_singleton] at hi;omega)
 refine ⟨aq,ps,rfl,hfin,h2,λ x hx=>?_,?_,?_⟩
 ·have h5:=h3 x hx
  exact ⟨h5.i,h5.f,h5.o,⟨by simp,by simp,by simp⟩,⟨by have:=h5.l;omega,by have:=h5.l;omega,by have:=h5.l;omega⟩⟩
 ·have e:(jqs l s).length=ps.length:=by rw [<- h2,List.length_map]
  rw [e]
  rcases h4 with ⟨e1,e2⟩ | ⟨bq,e1,_,_,_,e5⟩
  ·rw [e1,e2]; exact .nil
  ·rw [e1]; exact Ar.blk e5 (λ _ _=>rfl) rfl
 ·intro x hx
  rcases h4 with ⟨e1,e2⟩ | ⟨bq,e1,_,e3,_,e5⟩
  ·rw [hx] at e1;cases e1
  ·rw [hx] at e1;injection e1 with e1;subst e1;show S.length<=bq;omega
theorem jt6 {p:Int} (hk:jt3 p=true):p<=18446744069414584321/\2<=p:=by rcases jt5 hk with rfl | rfl | rfl <;> decide
theorem zex (n:Int):wU n=n % 18446744073709551616:=wrap_u64 n
theorem j1w {p a b:Int} (ha:inU a) (hb:inU b):jhr [vU p,vU a,vU b]=M.ret (vU (j1t p a b)):=by
 refine zg6 λ S=>?_
 rw [zia,jt8,z5j ha,z5j hb]
 unfold j1t
 cases hk:jt3 p with
 | false => simp only [wps]; simp
 | true =>
   obtain ⟨h1,h2⟩:=z5f p a hk
   obtain ⟨h3,h4⟩:=z5f p b hk
   obtain ⟨h5,h6⟩:=jt6 hk
   have e:(a+b) % p=(red p a+red p b) % p:=by unfold red;rw [if_pos hk,if_pos hk,<- Int.add_emod]
   rw [if_pos rfl,e]
   generalize red p a=x at h1 h2
   generalize red p b=y at h3 h4
   have hin:inA x y 0=true:=by unfold inA;simp;omega
   simp only [wps,hin]
   unfold j6m zbl
   have key:∀ v:Int,v=(x+y) % p->vU v=vU ((x+y) % p)/\S=S:=λ v hv=>⟨by rw [hv],rfl⟩
   have small:x+y < p->(x+y) % p=x+y:=λ h=>Int.emod_eq_of_lt (by omega) h
   have big:p<=x+y->(x+y) % p=x+y-p:=λ h=>by rw [<- Int.sub_emod_right]; exact Int.emod_eq_of_lt (by omega) (by omega)
   rw [Int.add_zero]
   by_cases hc:18446744073709551616<=x+y
   ·have e1:(x+y) / 18446744073709551616=1:=by omega
    have e2:(x+y) % 18446744073709551616=x+y-18446744073709551616:=by omega
    rw [e1,e2,big (by omega),zex]
    refine ⟨λ _=>?_,λ h=>by omega⟩
    congr 1;omega
   ·have e1:(x+y) / 18446744073709551616=0:=by omega
    have e2:(x+y) % 18446744073709551616=x+y:=by omega
    rw [e1,e2,zex]
    refine ⟨λ h=>by omega,λ _=>⟨λ h=>?_,λ h=>?_⟩⟩
    ·rw [big h]; congr 1;omega
    ·rw [small (by omega)]
theorem zbj {p a b:Int} (ha:inU a) (hb:inU b):ji5 [vU p,vU a,vU b]=M.ret (vU (zbg p a b)):=by
 refine zg6 λ S=>?_
 rw [ji6,jt8,z5j ha,z5j hb]
 unfold zbg
 cases hk:jt3 p with
 | false => simp only [wps]; simp
 | true =>
   obtain ⟨h1,h2⟩:=z5f p a hk
   obtain ⟨h3,h4⟩:=z5f p b hk
   obtain ⟨h5,h6⟩:=jt6 hk
   have e:(a-b) % p=(red p a-red p b) % p:=by unfold red;rw [if_pos hk,if_pos hk,<- Int.sub_emod]
   rw [if_pos rfl,e]
   generalize red p a=x at h1 h2
   generalize red p b=y at h3 h4
   have hin:inS x y 0=true:=by unfold inS;simp;omega
   simp only [wps,hin]
   unfold j6c j9w
   rw [Int.add_zero,Int.sub_zero,zex]
   by_cases hc:x < y
   ·have e1:(bif decide (x < y) then (1:Int) else 0)=1:=by simp [hc]
    rw [e1]
    refine ⟨λ _=>?_,λ h=>by omega⟩
    have e3:(x-y) % p=x-y+p:=by rw [<- Int.add_emod_right]; exact Int.emod_eq_of_lt (by omega) (by omega)
    rw [e3]; congr 1;omega
   ·have e1:(bif decide (x < y) then (1:Int) else 0)=0:=by simp [hc]
    rw [e1]
    refine ⟨λ h=>by omega,λ _=>?_⟩
    have e3:(x-y) % p=x-y:=Int.emod_eq_of_lt (by omega) (by omega)
    rw [e3]; congr 1;omega
theorem jru {p a:Int} (hk:jt3 p=true) (h:inP p a):inU a:=by have:=jt7 hk;exact ⟨h.1,by have:=h.2;omega⟩
theorem j1v (p a b:Int):inU (j1t p a b):=by
 unfold j1t
 cases hk:jt3 p with
 | false => simp [inU]
 | true => exact jru hk (jrp hk _)
theorem zbi (p a b:Int):inU (zbg p a b):=by
 unfold zbg
 cases hk:jt3 p with
 | false => simp [inU]
 | true => exact jru hk (jrp hk _)
abbrev wgV (p:Int) (a:Option Addr) (n c:Nat):Value:=vA [vU p,.slice a n c]
theorem j20 (p:Int) {l:List Int} {j:Nat} (h:j < l.length):j1x p (l.take (j+1))=j1t p (j1x p (l.take j)) l[j]:=by
 unfold j1x;rw [zcr h,List.foldl_append]; rfl
theorem j21 (p:Int) (l:List Int):inU (j1x p l):=by
 unfold j1x
 have : ∀ (l:List Int) (a:Int),inU a->inU (l.foldl (j1t p) a):=by
  intro l
  induction l with
  | nil=>intro a h;exact h
  | cons x l ih=>intro a h;exact ih _ (j1v p a x)
 exact this l 0 (by simp [inU])
theorem zey {S:St} {p:Int} {wa a:Option Addr} {wn wc n c:Nat} {l:List Int} (h:Ar S a n 1 eU l) (hu:∀ x∈l,inU x) (hn:n<=100000) :
 Sp (jih [wgV p wa wn wc,.slice a n c]) S λ v _=>v=vU (j1x p l):=by
 have hl:=h.1
 unfold Sp
 rw [jii]
 simp only [wps]
 have hp:=List.prefix_append S [j00.cells [vU p,.slice wa wn wc] 232 none]
 have z:=jek (S:=S) (o:=j00.cells [vU p,.slice wa wn wc] 232 none)
 generalize hY:S++[j00.cells [vU p,.slice wa wn wc] 232 none]=Y at hp z
 refine zgd (λ st S' m=>∃ j:Nat,st=[vU (j1x p (l.take j)),vI j]/\m=n-j/\j<=n/\S'=Y) ?_ n _ _ ⟨0,rfl,rfl,by omega,rfl⟩
 rintro st S' m ⟨j,rfl,rfl,hj,rfl⟩
 simp only [wps]
 refine ⟨λ h3=>⟨h3,?_⟩,λ h3=>?_⟩
 ·have hj':j < l.length:=by omega
  obtain ⟨x,rfl,c1⟩:=(h.mono hp).getU hj'
  have hx:=hu _ (List.getElem_mem hj')
  have hadd:=j1w (p:=p) (j21 p (l.take j)) hx
  simp only [wps,c1,j6u z,List.getElem?_cons_zero,hadd]
  rw [wI_ (n:=(j:Int)+1) (by omega) (by omega)]
  exact ⟨n-(j+1),by omega,j+1,by rw [j20 p hj']; rfl,rfl,by omega⟩
 ·rw [List.take_of_length_le (by omega)]
  exact ⟨hp,rfl⟩
theorem zhh {S:St} {p x y:Int} {wa:Option Addr} {wn wc:Nat} (hx:inU x) (hy:inU y):Sp (jit [wgV p wa wn wc,vU x,vU y]) S λ v _=>v=vU (zbg p x y):=by
 unfold Sp
 rw [jiu]
 have z:=jek (S:=S) (o:=j00.cells [vU p,.slice wa wn wc] 232 none)
 simp only [wps,j6u z,List.getElem?_cons_zero,zbj (p:=p) hx hy]
 simp
theorem zfl {S:St} {p x y:Int} {wa:Option Addr} {wn wc:Nat} (hx:inU x) (hy:inU y):Sp (jiq [wgV p wa wn wc,vU x,vU y]) S λ v _=>v=vU (jxc p x y):=by
 unfold Sp
 rw [jir]
 have z:=jek (S:=S) (o:=j00.cells [vU p,.slice wa wn wc] 232 none)
 simp only [wps,j6u z,List.getElem?_cons_zero,jxn (p:=p) hx hy]
 simp
structure Nw (S S':St) (b:Nat) (l:List Int):Prop where
 p:S <+: S'
 lt:S.length<=b
 at_:∃ g,S'[b]? = some (.cells (l.flatMap eU) 24 g)
theorem Nw.more {S S' S2:St} {b:Nat} {l:List Int} (h:Nw S S' b l) (k:S' <+: S2):Nw S S2 b l:=⟨h.p.trans k,h.lt,by obtain ⟨g,e⟩:=h.at_;exact ⟨g,z1w k e⟩⟩
theorem Nw.base {S0 S S':St} {b:Nat} {l:List Int} (h:Nw S S' b l) (k:S0 <+: S):Nw S0 S' b l:=⟨k.trans h.p,Nat.le_trans k.length_le h.lt,h.at_⟩
theorem Nw.ar {S S':St} {b:Nat} {l:List Int} (h:Nw S S' b l):Ar S' (some ⟨b,0,none⟩) l.length 1 eU l:=by
 obtain ⟨g,e⟩:=h.at_
 exact Ar.blk e (λ _ _=>rfl) rfl
theorem j6t {S:St} {x:Addr} {n:Nat} {l:List Int} (h:Ar S (some x) n 1 eU l) (i:Nat) {v:Int} (hi:l[i]? = some v):S.cell (x.add i)=some (vU v):=by
 obtain ⟨hlt,rfl⟩:=List.getElem?_eq_some_iff.1 hi
 obtain ⟨a,e,c⟩:=h.getU (i:=i) hlt
 injection e with e;subst e;exact c
theorem addrOf {S:St} {a:Option Addr} {n:Nat} {l:List Int} (h:Ar S a n 1 eU l) (h0:0 < l.length):∃ x,a=some x:=by
 obtain ⟨x,e,_⟩:=h.getU h0
 exact ⟨x,e⟩
theorem zee {S:St} {p:Int} {wa a:Option Addr} {wn wc n c:Nat} {x0 x1:Int} (h:Ar S a n 1 eU [x0,x1]) (h0:inU x0) (h1:inU x1) :
 WP (jiz [wgV p wa wn wc,.slice a n c]) S λ v S'=>∃ b,v = .slice (some ⟨b,0,none⟩) 2 2/\Nw S S' b (zec p x0 x1):=by
 have hl:n=2:=h.1
 subst hl
 obtain ⟨x,rfl⟩:=addrOf h (by simp)
 rw [jj0]
 simp only [wps]
 have z:=jek (S:=S) (o:=j00.cells [vU p,.slice wa wn wc] 232 none)
 have hp:=List.prefix_append S [j00.cells [vU p,.slice wa wn wc] 232 none]
 generalize hY:S++[j00.cells [vU p,.slice wa wn wc] 232 none]=Y at hp z ⊢
 have C:=λ (S':St) (k:Y <+: S')=>And.intro (j6t (h.mono (hp.trans k)) 0 rfl) (And.intro (j6t (h.mono (hp.trans k)) 1 rfl) (z1w k z))
 simp only [j25] at C
 obtain ⟨c0,c1,c2⟩:=C Y List.prefix_rfl
 simp only [wps,j6u c2,c0,c1,gcz,gcs]
 refine ⟨by decide,by decide,?_⟩
 have hp2:=List.prefix_append Y [j00.cells [vU x0,vU x1] 24 none]
 have z2:=jek (S:=Y) (o:=j00.cells [vU x0,vU x1] 24 none)
 generalize hY2:Y++[j00.cells [vU x0,vU x1] 24 none]=Y2 at hp2 z2 ⊢
 obtain ⟨c0,c1,c2⟩:=C Y2 hp2
 simp only [wps,j6u c2,c0,c1,gcz,gcs]
 refine ⟨by decide,by decide,?_⟩
 have ar2:Ar Y2 (some (ad Y.length 0)) 2 1 eU [x0,x1]:=Ar.blk (l:=[x0,x1]) z2 (λ _ _=>rfl) rfl
 refine (zey (c:=2) ar2 (by intro y hy;simp at hy;rcases hy with rfl | rfl <;> assumption) (by omega)).use ?_
 rintro _ S3 k3 rfl
 obtain ⟨c0,c1,c2⟩:=C S3 (hp2.trans k3)
 simp only [wps,j6u c2,c0,c1,gcz,gcs,and_true,true_and]
 refine (zhh h0 h1).use ?_
 rintro _ S4 k4 rfl
 simp only [wps]
 exact ⟨S4.length,rfl,((hp.trans hp2).trans (k3.trans k4)).trans (List.prefix_append _ _),((hp.trans hp2).trans (k3.trans k4)).length_le,none,jek⟩
set_option maxHeartbeats 2000000 in
set_option maxRecDepth 20000 in
theorem zd2 {S:St} {p:Int} {wa a:Option Addr} {wn wc n c:Nat} {x0 x1 x2 w0 w1 w2:Int} (h:Ar S a n 1 eU [x0,x1,x2]) (h0:inU x0) (h1:inU x1) (h2:inU x2) (hw:Ar S wa wn 1 eU [w0,w1,w2]) (hw1:inU w1) :
 WP (jiw [wgV p wa wn wc,.slice a n c]) S λ v S'=>∃ b,v = .slice (some ⟨b,0,none⟩) 3 3/\Nw S S' b (zd0 p w1 x0 x1 x2):=by
 have hl:n=3:=h.1
 have hl2:wn=3:=hw.1
 subst hl hl2
 obtain ⟨x,rfl⟩:=addrOf h (by simp)
 obtain ⟨y,rfl⟩:=addrOf hw (by simp)
 rw [jix]
 simp only [wps]
 have z:=jek (S:=S) (o:=j00.cells [vU p,.slice (some y) 3 wc] 232 none)
 have hp:=List.prefix_append S [j00.cells [vU p,.slice (some y) 3 wc] 232 none]
 generalize hY:S++[j00.cells [vU p,.slice (some y) 3 wc] 232 none]=Y at hp z ⊢
 have C:=λ (S':St) (k:Y <+: S')=>And.intro (j6t (h.mono (hp.trans k)) 0 rfl) (And.intro (j6t (h.mono (hp.trans k)) 1 rfl) (And.intro (j6t (h.mono (hp.trans k)) 2 rfl) (And.intro (j6t (hw.mono (hp.trans k)) 1 rfl) (z1w k z))))
 simp only [j25] at C
 obtain ⟨c0,c1,c2,d1,e0⟩:=C Y List.prefix_rfl
 simp only [wps,j6u e0,c0,c1,c2,d1,gcz,gcs]
 refine ⟨by decide,by decide,by decide,?_⟩
 refine (zhh h1 h2).use ?_
 rintro _ S1 k1 rfl
 obtain ⟨c0,c1,c2,d1,e0⟩:=C S1 k1
 simp only [wps,j6u e0,c0,c1,c2,d1,gcz,gcs,and_true,true_and]
 refine (zfl (zbi p x1 x2) hw1).use ?_
 rintro _ S2 k2 rfl
 have k2:=k1.trans k2
 obtain ⟨c0,c1,c2,d1,e0⟩:=C S2 k2
 simp only [wps,j6u e0,c0,c1,c2,d1,gcz,gcs,and_true,true_and]
 refine ⟨by decide,by decide,by decide,by decide,?_⟩
 refine (zey (c:=c) (h.mono (hp.trans k2)) (by intro y hy;simp at hy;rcases hy with rfl | rfl | rfl <;> assumption) (by omega)).use ?_
 rintro _ S3 k3 rfl
 have k3:=k2.trans k3
 obtain ⟨c0,c1,c2,d1,e0⟩:=C S3 k3
 simp only [wps,j6u e0,c0,c1,c2,d1,gcz,gcs,and_true,true_and]
 refine (zhh h0 h2).use ?_
 rintro _ S4 k4 rfl
 have k4:=k3.trans k4
 obtain ⟨c0,c1,c2,d1,e0⟩:=C S4 k4
 simp only [wps,j6u e0,c0,c1,c2,d1,gcz,gcs,and_true,true_and]
 have hp5:=List.prefix_append S4 [j00.cells [vU (zbg p x0 x2),vU (jxc p (zbg p x1 x2) w1)] 24 none]
 have z5:=jek (S:=S4) (o:=j00.cells [vU (zbg p x0 x2),vU (jxc p (zbg p x1 x2) w1)] 24 none)
 generalize hY5:S4++[j00.cells [vU (zbg p x0 x2),vU (jxc p (zbg p x1 x2) w1)] 24 none]=Y5 at hp5 z5 ⊢
 have ar5:Ar Y5 (some (ad S4.length 0)) 2 1 eU [zbg p x0 x2,jxc p (zbg p x1 x2) w1]:=Ar.blk (l:=[zbg p x0 x2,jxc p (zbg p x1 x2) w1]) z5 (λ _ _=>rfl) rfl
 have hum:inU (jxc p (zbg p x1 x2) w1):=jxh p _ _
 refine (zey (c:=2) ar5 (by intro y hy;simp at hy;rcases hy with rfl | rfl;exact zbi p x0 x2;exact hum) (by omega)).use ?_
 rintro _ S6 k6 rfl
 have k6:=(k4.trans hp5).trans k6
 obtain ⟨c0,c1,c2,d1,e0⟩:=C S6 k6
 simp only [wps,j6u e0,c0,c1,c2,d1,gcz,gcs,and_true,true_and]
 refine (zhh h0 h1).use ?_
 rintro _ S7 k7 rfl
 have k7:=k6.trans k7
 obtain ⟨c0,c1,c2,d1,e0⟩:=C S7 k7
 simp only [wps,j6u e0,c0,c1,c2,d1,gcz,gcs,and_true,true_and]
 refine (zhh (zbi p x0 x1) hum).use ?_
 rintro _ S8 k8 rfl
 have k8:=k7.trans k8
 simp only [wps]
 exact ⟨S8.length,rfl,(hp.trans k8).trans (List.prefix_append _ _),(hp.trans k8).length_le,none,jek⟩
end Go.AM
