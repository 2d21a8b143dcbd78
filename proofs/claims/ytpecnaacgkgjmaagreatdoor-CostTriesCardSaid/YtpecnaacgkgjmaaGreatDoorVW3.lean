/-
  Part of the proof of a law: what the functions compute. Conditions: none.
-/
import Derived.Test.YtpecnaacgkgjmaaGreatDoorVW2
import Derived.Test.YtpecnaacgkgjmaaGreatDoorVW1
import Derived.Test.YtpecnaacgkgjmaaGreatDoorVP1
set_option linter.unusedVariables false
set_option linter.unusedSectionVars false
set_option linter.unusedSimpArgs false
set_option linter.deprecated false
namespace Go.AM
open Go Go.Proofs.YtpecnaacgkgjmaaGreatDoor
theorem z9r {S:St} {b:Nat} {m:Mm} {T:List Nat} (h:MS S b m T) {p n a:Int} {s:Int×Int} (ht:0<=m.t/\m.t < 2305843009213693952) :
 WP (jq4 [.pointer (some ⟨b,0,none⟩),vU p,vI n,vI a,vA [vU s.1,vU s.2]]) S λ v S'=>v=vT [vB (z9m m p n a s).1.1,vI (z9m m p n a s).1.2]/\Kp T S S'/\MS S' b (z9m m p n a s).2 T:=by
 rw [jq5]
 have p0:=List.prefix_append S [j00.cells [vU s.1,vU s.2] 40 none]
 have z0:=jek (S:=S) (o:=j00.cells [vU s.1,vU s.2] 40 none)
 simp only [wps]
 generalize S++[j00.cells [vU s.1,vU s.2] 40 none]=Y at p0 z0 ⊢
 have h0:=h.pre p0
 refine (j5e h0 (by omega)).use ?_
 rintro _ S1 k1 rfl
 have h1:=h0.pre k1
 have z1:=z1w k1 z0
 have p1:=p0.trans k1
 have hw:=h.w
 simp only [wps,j6u z1,gcz,gcs]
 unfold j5d z9m
 simp only [Int.add_zero]
 by_cases hk:jt3 p=false
 ·rw [if_pos hk,if_pos hk]
  exact ⟨λ _=>⟨rfl,Kp.of p1,h1⟩,λ e=>absurd e (by decide)⟩
 rw [if_neg hk,if_neg hk]
 by_cases hc:n < 1\/4096 < n\/m.hasN a n=false
 ·rw [if_pos hc,if_pos hc]
  exact ⟨λ _=>⟨rfl,Kp.of p1,h1⟩,λ e=>absurd e (by decide)⟩
 rw [if_neg hc,if_neg hc]
 refine ⟨λ e=>absurd rfl e,λ _=>?_⟩
 have hN:m.hasN a n=true:=by
  cases hN:m.hasN a n
  ·exact absurd (.inr (.inr hN)) hc
  ·rfl
 obtain ⟨e1,e2,e3⟩:=jr6 hN
 have hk:jt3 p=true:=by simpa using hk
 obtain ⟨k,rfl⟩:=Int.eq_ofNat_of_zero_le e2
 have hl:=z6i h1 (a:=a) (k:=k) ⟨e1,by omega⟩ ⟨by omega,by omega⟩
 rw [jqb]
 simp only [wps,Nat.reduceBEq,Bool.false_eq_true,false_implies,true_implies,true_and,and_true,Bool.true_eq_false,reduceCtorEq,forall_const]
 refine hl.mono ?_
 rintro _ S2 ⟨rfl,k2,h2,hb⟩
 have rl:=(Mm.rds_len (z6b a k) m).2.1
 rw [z6d] at rl
 have hr:Ar S2 (some ⟨S1.length+1,0,none⟩) k 1 eU (m.rds (z6b a k)).1:=by
  have:=Ar.blk (w:=1) hb (λ _ _=>rfl) rfl
  rwa [rl] at this
 have hu:∀ y∈(m.rds (z6b a k)).1,inU y:=λ y hy=>by
  have:=(h.ok.rds (z6b a k)).2 y hy
  exact ⟨this.1,by have:=this.2;omega⟩
 simp only [wps,Nat.reduceBEq,Bool.false_eq_true,false_implies,true_implies,true_and,and_true,Bool.true_eq_false,reduceCtorEq,forall_const]
 refine (j2c (c:=k) (s:=s) hk hr (by omega) hu).use ?_
 rintro _ S3 k3 rfl
 simp only [wps]
 exact ⟨((Kp.of p1).trans k2).more k3,h2.pre k3⟩
theorem jbc {S:St} {p r:Option Addr} {n m c d:Nat} {x y:List Int} (h:Ar S p n 1 eU x) (k:Ar S r m 1 eU y) (hn:n<=140737488355328) :
 Gv (jng [.slice p n c,.slice r m d]) S (vB (decide (x=y))):=by
 have h1:=h.1
 have k1:=k.1
 refine .of ?_
 rw [jnh]
 simp only [wps]
 refine ⟨λ e=>?_,λ e=>?_⟩
 ·have : x≠y:=λ q=>e (by rw [h1,k1,q])
  simp [this]
 refine zgd (λ st S' t=>∃ j:Nat,st=[vI j]/\j<=n/\t=n-j/\S'=S/\x.take j=y.take j) ?_ n _ _ ⟨0,rfl,by omega,by omega,rfl,rfl⟩
 rintro st S' t ⟨j,rfl,hj,rfl,rfl,ht⟩
 simp only [wps]
 refine ⟨λ h3=>⟨h3,?_⟩,λ h3=>?_⟩
 ·have hx:j < x.length:=by omega
  have hy:j < y.length:=by omega
  obtain ⟨a,rfl,c0⟩:=h.getU hx
  obtain ⟨b,rfl,d0⟩:=k.getU hy
  simp only [wps,c0,d0]
  rw [wI_ (n:=(j:Int)+1) (by omega) (by omega)]
  refine ⟨by omega,λ e3=>?_,λ e3=>?_⟩
  ·have : x≠y:=λ q=>e3 (by subst q;rfl)
   simp [this]
  ·exact ⟨n-(j+1),by omega,j+1,rfl,by omega,rfl,zco ht hx hy e3⟩
 ·rw [List.take_of_length_le (by omega),List.take_of_length_le (by omega)] at ht
  simp [ht]
theorem jrl {S:St} {b:Nat} {m:Mm} {T:List Nat} (h:MS S b m T) {la:Option Addr} {ln lc:Nat} {l:List Int} (hl:Ar S la ln 1 eU l) (hlT:∀ y,la=some y->l≠[]->y.block∉T) {a:Int} (ht:0<=m.t/\m.t < 2305843009213693952) (hln:ln<=100000) :
 WP (jpp [.pointer (some ⟨b,0,none⟩),.slice la ln lc,vI a]) S λ v S'=>v=vT [vB (jrg m l a).1.1,vI (jrg m l a).1.2]/\Kp T S S'/\MS S' b (jrg m l a).2 T:=by
 rw [jpq]
 have hTlt:=h.lt
 have hw:=h.w
 have hln':=hl.1
 have p0:=List.prefix_append S [j00.cells [.slice la ln lc] 22 none]
 have z0:=jek (S:=S) (o:=j00.cells [.slice la ln lc] 22 none)
 simp only [wps,j6u z0,gcz,gcs]
 have hYl:(S++[j00.cells [.slice la ln lc] 22 none]).length=S.length+1:=by simp
 generalize S++[j00.cells [.slice la ln lc] 22 none]=Y at p0 z0 hYl ⊢
 have py:=List.prefix_append Y [j00.cells [.pointer (some ⟨b,0,none⟩),vI a,vN ln] 145 none]
 have zy:=jek (S:=Y) (o:=j00.cells [.pointer (some ⟨b,0,none⟩),vI a,vN ln] 145 none)
 have z0y:=z1w py z0
 have h0:=h.pre (p0.trans py)
 generalize Y++[j00.cells [.pointer (some ⟨b,0,none⟩),vI a,vN ln] 145 none]=Z at py zy z0y h0 ⊢
 have nT:S.length∉T:=λ hx=>by have:=hTlt _ hx;omega
 refine (z6n h0).use ?_
 rintro _ S1 k1 rfl
 have p1:=(p0.trans py).trans k1
 have h1:=h0.pre k1
 have zy1:=z1w k1 zy
 have z01:=z1w k1 z0y
 simp only [wps,j6u zy1,gcz,gcs]
 unfold jrg
 rw [<- hln']
 refine ⟨λ e=>?_,λ e=>?_⟩
 ·rw [if_neg (by rw [e]; simp)]
  exact ⟨rfl,Kp.of p1,h1⟩
 rw [if_pos e]
 obtain ⟨e1,e2,e3⟩:=jr6 e
 have hld:=z6i h1 (a:=a) (k:=ln) ⟨e1,by omega⟩ ⟨by omega,by omega⟩
 rw [jqb]
 simp only [wps,Nat.reduceBEq,Bool.false_eq_true,false_implies,true_implies,true_and,and_true,Bool.true_eq_false,reduceCtorEq,forall_const]
 refine hld.mono ?_
 rintro _ S2 ⟨rfl,k2,h2,hb⟩
 have rl:=(Mm.rds_len (z6b a ln) m).2.1
 rw [z6d] at rl
 have hr:Ar S2 (some ⟨S1.length+1,0,none⟩) ln 1 eU (m.rds (z6b a ln)).1:=by
  have:=Ar.blk (w:=1) hb (λ _ _=>rfl) rfl
  rwa [rl] at this
 have z02:=k2.get z01 nT
 have hl2:Ar S2 la ln 1 eU l:=((Kp.of p1).trans k2).ar hl λ hne y hy=>hlT y hy hne
 simp only [wps,Nat.reduceBEq,Bool.false_eq_true,false_implies,true_implies,true_and,and_true,Bool.true_eq_false,reduceCtorEq,forall_const,jpt,j6u z02,List.getElem?_cons_zero,(jbc (c:=ln) (d:=lc) hr hl2 (by omega)).wp]
 exact ⟨(Kp.of p1).trans k2,h2⟩
theorem jdn:∀ (l:List Fx) (j:Nat) (hj:j < l.length) (v:Int),splice (l.flatMap eFx) (j*3) [vI v]=(l.set j ⟨v,l[j].bad,l[j].good⟩).flatMap eFx:=by
 intro l j hj v
 have hlen:∀ l:List Fx,(l.flatMap eFx).length=l.length*3:=jcv λ _=>rfl
 have key:∀ (l:List Fx) (j:Nat) (hj:j < l.length),(l.flatMap eFx).set (j*3) (vI v)=(l.set j ⟨v,l[j].bad,l[j].good⟩).flatMap eFx:=by
  intro l
  induction l with
  | nil=>intro j hj;simp at hj
  | cons x l ih=>
    intro j hj
    cases j with
    | zero=>rfl
    | succ j=>
      rw [List.flatMap_cons,List.set_cons_succ,List.flatMap_cons,List.set_append_right _ _ (by simp;omega)]
      congr 1
      have:=ih j (by simpa using hj)
      rw [show (j+1)*3-(eFx x).length=j*3 by simp;omega]
      exact this
 rw [z9v (by rw [hlen]; omega)]
 exact key l j hj
def zem (a:Int) (F:List Fx) (j:Nat):List Fx:=(F.take j).map (Fx.up a)++F.drop j
theorem zeo (a:Int) (F:List Fx) (j:Nat) (h:j<=F.length):(zem a F j).length=F.length:=by unfold zem;simp;omega
theorem zep (a:Int) (F:List Fx) {j:Nat} (h:j < F.length):(zem a F j).set j ⟨F[j].ad+a,F[j].bad,F[j].good⟩=zem a F (j+1):=by
 unfold zem
 have hl:((F.take j).map (Fx.up a)).length=j:=by simp;omega
 rw [List.set_append_right _ _ (by omega),hl,Nat.sub_self,zcr h,List.map_append,List.append_assoc,List.drop_eq_getElem_cons h,List.set_cons_zero]
 rfl
theorem zen (a:Int) (F:List Fx) {j:Nat} (h:j < F.length):(zem a F j)[j]? = some F[j]:=by
 have hl:((F.take j).map (Fx.up a)).length=j:=by simp;omega
 unfold zem
 rw [List.getElem?_append_right (by omega),hl,Nat.sub_self,List.getElem?_drop,Nat.add_zero,List.getElem?_eq_getElem h]
set_option maxHeartbeats 2000000 in
theorem z7v {S:St} {b:Nat} {m:Mm} {T:List Nat} (h:MS S b m T) {p n a:Int} (ht:0<=m.t/\m.t < 1152921504606846976) :
 WP (jq1 [.pointer (some ⟨b,0,none⟩),vU p,vI n,vI a]) S λ v S'=>∃ fa,v=vT [.slice fa (z7o m p n a).1.1.1.length (z7o m p n a).1.1.1.length,vA [vU (z7o m p n a).1.1.2.1,vU (z7o m p n a).1.1.2.2],vI (z7o m p n a).1.2]/\Kp T S S'/\MS S' b (z7o m p n a).2 T/\j0v S.length S' fa (z7o m p n a).1.1.1:=by
 rw [jq2]
 have hw:=h.w
 have hTlt:=h.lt
 simp only [wps,List.append_assoc,List.cons_append,List.nil_append,List.length_append,List.length_cons,List.length_nil,Nat.zero_add,Nat.reduceAdd,Nat.add_assoc]
 generalize hY:S++[j00.cells [vU 0,vU 0] 40 none,j00.cells [vU 0,vU 0] 40 none]=Y
 have p0:S <+: Y:=⟨_,hY⟩
 have z0:Y[S.length]? = some (j00.cells [vU 0,vU 0] 40 none):=by rw [<- hY]; exact gA0
 have z1:Y[S.length+1]? = some (j00.cells [vU 0,vU 0] 40 none):=by rw [<- hY]; exact gA
 have hYl:Y.length=S.length+2:=by rw [<- hY]; simp
 have n0:S.length∉T:=λ hx=>by have:=hTlt _ hx;omega
 have n1:S.length+1∉T:=λ hx=>by have:=hTlt _ hx;omega
 have h0:=h.pre p0
 have errs:∀ {S':St} {m':Mm},S'[S.length]? = some (j00.cells [vU 0,vU 0] 40 none)->Kp T S S'->MS S' b m' T->(S'.set S.length (j00.cells [vU 0,vU 0] 40 none))[S.length]? = some (j00.cells [vU 0,vU 0] 40 none)/\Kp T S (S'.set S.length (j00.cells [vU 0,vU 0] 40 none))/\MS (S'.set S.length (j00.cells [vU 0,vU 0] 40 none)) b m' T:=fun {S' m'} z k hm=>by
  have hl:=z1y z
  refine ⟨List.getElem?_set_self hl,⟨by rw [List.length_set]; exact k.len,λ i hi hn=>by rw [List.getElem?_set_ne (by omega),k.keep i hi hn]⟩,hm.kp (M:=[S.length]) ⟨by simp,λ i hi hn=>by rw [List.getElem?_set_ne]; rintro rfl;simp at hn⟩ (λ i hi=>by have:=hTlt i hi;simp;omega)⟩
 refine (j5e h0 (by omega)).use ?_
 rintro _ S1 k1 rfl
 have h1:=h0.pre k1
 have p1:=p0.trans k1
 have z01:=z1w k1 z0
 have z11:=z1w k1 z1
 have hl1:=k1.length_le
 obtain ⟨q1,q2,q3⟩:=errs z01 (Kp.of p1) h1
 simp only [wps,j6u z11,z01,gcz,gcs,List.drop_succ_cons,List.drop_zero,List.drop_nil,j6u q1]
 unfold j5d z7o
 by_cases hk:jt3 p=false
 ·rw [if_pos hk,if_pos hk]
  exact ⟨λ _=>⟨none,rfl,q2,q3,.inl ⟨rfl,rfl⟩⟩,λ e=>absurd e (by decide)⟩
 rw [if_neg hk,if_neg hk]
 by_cases hc:n < 1\/4096 < n\/m.hasN a (n+6)=false
 ·rw [if_pos hc,if_pos hc]
  exact ⟨λ _=>⟨none,rfl,q2,q3,.inl ⟨rfl,rfl⟩⟩,λ e=>absurd e (by decide)⟩
 rw [if_neg hc,if_neg hc]
 refine ⟨λ e=>absurd rfl e,λ _=>?_⟩
 have hN:m.hasN a (n+6)=true:=by
  cases hN:m.hasN a (n+6)
  ·exact absurd (.inr (.inr hN)) hc
  ·rfl
 obtain ⟨e1,e2,e3⟩:=jr6 hN
 have hk:jt3 p=true:=by simpa using hk
 obtain ⟨k,rfl⟩:=Int.eq_ofNat_of_zero_le (show 0<=n by omega)
 rw [show wI ((k:Int)+6)=((k+6:Nat):Int) by rw [wI_ (by omega) (by omega)]; omega]
 refine (z6i h1 (a:=a) (k:=k+6) ⟨e1,by omega⟩ ⟨by omega,by omega⟩).mono ?_
 rintro _ S2 ⟨rfl,k2,h2,hb⟩
 have rl:=(Mm.rds_len (z6b a (k+6)) m).2.1
 rw [z6d] at rl
 have hr:Ar S2 (some ⟨S1.length+1,0,none⟩) (k+6) 1 eU (m.rds (z6b a (k+6))).1:=by
  have:=Ar.blk (w:=1) hb (λ _ _=>rfl) rfl
  rwa [rl] at this
 have hu:∀ y∈(m.rds (z6b a (k+6))).1,inU y:=λ y hy=>by
  have:=(h.ok.rds (z6b a (k+6))).2 y hy
  exact ⟨this.1,by have:=this.2;omega⟩
 have kp2:=(Kp.of p1).trans k2
 have z02:=k2.get z01 n0
 have z12:=k2.get z11 n1
 simp only [wps]
 refine (jcm (p:=p) (cc:=k+6) hr (Nat.le_refl _) (by omega) hu).mono ?_
 rintro v S3 ⟨k3,hfx⟩
 have z03:=z1w k3 z02
 have z13:=z1w k3 z12
 have kp3:=kp2.more k3
 have h3:=h2.pre k3
 have hsd:=λ good fx=>jcl (p:=p) (c:=(m.rds (z6b a (k+6))).1) (λ y hy=>(hu y hy).1) (good:=good) (fx:=fx)
 generalize jcg p (m.rds (z6b a (k+6))).1=F at hfx hsd ⊢
 have hR:(m.rds (z6b a (k+6))).2.W.length=m.W.length/\(m.rds (z6b a (k+6))).2.t=m.t+((k+6:Nat):Int):=⟨(Mm.rds_len _ m).1,by rw [(Mm.rds_len _ m).2.2.1,z6d]⟩
 generalize m.rds (z6b a (k+6))=R at hR hb hr hu h2 h3 rl hsd ⊢
 rcases hfx with ⟨he,rfl⟩ | ⟨he,gb,fa,rfl,hg,ho,hne,hge,hlt⟩
 ·obtain ⟨q1,q2,q3⟩:=errs z03 kp3 h3
  simp only [wps,j6u z13,z03,gcz,gcs,List.drop_succ_cons,List.drop_zero,List.drop_nil,j6u q1]
  rw [if_pos he]
  exact ⟨λ _=>⟨none,rfl,q2,q3,.inl ⟨rfl,rfl⟩⟩,λ e=>absurd e he⟩
 ·obtain ⟨⟨good,fx⟩,z⟩:=F
  dsimp only at he hg ho
  subst he
  obtain ⟨x,_,hxl,hx1,hx2,hxi,hgd,hfl,hfa,hmd⟩:=hsd good fx rfl
  rw [if_neg (by simp)]
  simp only [wps]
  have hl12:=k2.len
  have hl23:=k3.length_le
  have hmW:R.2.W.length=m.W.length:=hR.1
  have hmt:R.2.t=m.t+((k+6:Nat):Int):=hR.2
  have hcl:R.1.length=k+6:=rl
  refine zgd (λ st S' n=>∃ j:Nat,st=[vN j]/\n=fx.length-j/\j<=fx.length/\S3.length<=S'.length/\(∀ i,i < S3.length->i∉T->fa≠some ⟨i,0,none⟩->S'[i]? = S3[i]?)/\MS S' b (R.2.wrs (((fx.take j).map (Fx.up a)).map Fx.st)) T/\j0v S2.length S' fa (zem a fx j)) ?_ fx.length _ _ ⟨0,rfl,rfl,by omega,Nat.le_refl _,λ _ _ _ _=>rfl,h3,ho⟩
  rintro st S4 _ ⟨j,rfl,rfl,hj,l4,k4,h4,o4⟩
  simp only [wps]
  refine ⟨λ h5=>?_,λ h5=>?_⟩
  ·have hj':j < fx.length:=by omega
   have hul:=zeo a fx j hj
   rcases o4 with ⟨_,e⟩ | ⟨fb,rfl,hfb,hb4⟩
   ·rw [e] at hul;simp at hul;omega
   have hA4:Ar S4 (some ⟨fb,0,none⟩) (zem a fx j).length 3 eFx (zem a fx j):=Ar.blk hb4 (λ _ _=>rfl) rfl
   have hgj:(zem a fx j)[j]'(by omega)=fx[j]:=by
    have:=zen a fx hj'
    rw [List.getElem?_eq_getElem (by omega)] at this
    exact Option.some.inj this
   obtain ⟨y,hy,c0,c1,c2⟩:=jec hA4 (i:=j) (by omega)
   injection hy with hy
   subst hy
   rw [hgj] at c0 c1 c2
   have hfxj:=hfa fx[j] (List.getElem_mem _)
   have lfb:=z1y hb4
   have hbset:=jdn (zem a fx j) j (by omega) (fx[j].ad+a)
   rw [hgj,zep a fx hj'] at hbset
   have hfl:=jcv (e:=eFx) (w:=3) (λ _=>rfl) (zem a fx j)
   have w1:wI (fx[j].ad+a)=fx[j].ad+a:=wI_ (by omega) (by omega)
   simp only [j23,Nat.zero_add] at c0 c1 c2
   have b5:(S4.set fb (j00.cells ((zem a fx (j+1)).flatMap eFx) 78 (some 3)))[fb]? = some (j00.cells ((zem a fx (j+1)).flatMap eFx) 78 (some 3)):=List.getElem?_set_self lfb
   have hul5:=zeo a fx (j+1) (by omega)
   have hgj5:(zem a fx (j+1))[j]'(by omega)=⟨fx[j].ad+a,fx[j].bad,fx[j].good⟩:=by
    have : (zem a fx (j+1))[j]? = some ⟨fx[j].ad+a,fx[j].bad,fx[j].good⟩:=by rw [<- zep a fx hj']; exact List.getElem?_set_self (by omega)
    rw [List.getElem?_eq_getElem (by omega)] at this
    exact Option.some.inj this
   have hA5:Ar (S4.set fb (j00.cells ((zem a fx (j+1)).flatMap eFx) 78 (some 3))) (some ⟨fb,0,none⟩) (zem a fx (j+1)).length 3 eFx (zem a fx (j+1)):=Ar.blk b5 (λ _ _=>rfl) rfl
   obtain ⟨y,hy,d0,d1,d2⟩:=jec hA5 (i:=j) (by omega)
   injection hy with hy
   subst hy
   rw [hgj5] at d0 d1 d2
   simp only [j23,Nat.zero_add] at d0 d1 d2
   have hfT:fb∉T:=λ hx=>by have:=hTlt _ hx;omega
   have h5m:MS (S4.set fb (j00.cells ((zem a fx (j+1)).flatMap eFx) 78 (some 3))) b (R.2.wrs (((fx.take j).map (Fx.up a)).map Fx.st)) T:=h4.kp (M:=[fb]) ⟨by simp,λ i hi hn=>by rw [List.getElem?_set_ne]; rintro rfl;simp at hn⟩ (λ i hi=>by simp;rintro rfl;exact hfT hi)
   obtain ⟨g1,g2,g3⟩:=Mm.wrs_len (((fx.take j).map (Fx.up a)).map Fx.st) R.2
   have hfl3:=hfl
   simp only [wps,c0,c1,c2,Int.toNat_natCast,w1,hb4,hbset,d0,d1,d2]
   refine ⟨by omega,by omega,by omega,by omega,by omega,?_⟩
   refine (zb6 h5m (a:=fx[j].ad+a) (w:=fx[j].good) (by rw [g1,hmW]; omega) (by rw [g2,hmt]; simp;omega) (zei hk hfxj.2.2)).mono ?_
   rintro _ S6 ⟨rfl,k6,h6⟩
   simp only [wps]
   rw [wI_ (n:=(j:Int)+1) (by omega) (by omega)]
   have l6:=k6.len
   rw [List.length_set] at l6
   refine ⟨fx.length-(j+1),by omega,j+1,rfl,rfl,by omega,by omega,λ i hi hn hne'=>?_,?_,.inr ⟨fb,rfl,hfb,k6.get b5 hfT⟩⟩
   ·have hne2:i≠fb:=λ e=>hne' (by rw [e])
    rw [k6.keep i (by rw [List.length_set]; omega) hn,List.getElem?_set_ne (Ne.symm hne2),k4 i hi hn hne']
   ·have : ((fx.take (j+1)).map (Fx.up a)).map Fx.st=((fx.take j).map (Fx.up a)).map Fx.st++[(fx[j].ad+a,fx[j].good)]:=by
     rw [zcr hj',List.map_append,List.map_append]; rfl
    rw [this,Mm.wrs_app]
    exact h6
  ·obtain rfl:j=fx.length:=by omega
   have hgT:gb∉T:=λ hx=>by have:=hTlt _ hx;omega
   have hfg:fa≠some ⟨gb,0,none⟩:=λ e=>hne gb e rfl
   have hg4:Ar S4 (some ⟨gb,0,none⟩) (k+6) 1 eU good:=hg.keepL λ y hy=>by injection hy with hy;subst hy;exact k4 gb hlt hgT hfg
   have hgl:=hg.1
   have e0:good[k]? = some (good.getD k 0):=by rw [List.getD_eq_getElem?_getD,List.getElem?_eq_getElem (by omega)]; rfl
   have e3':good[k+3]? = some (good.getD (k+3) 0):=by rw [List.getD_eq_getElem?_getD,List.getElem?_eq_getElem (by omega)]; rfl
   have c0:=j6t hg4 k e0
   have c3:=j6t hg4 (k+3) e3'
   simp only [j23,Nat.zero_add] at c0 c3
   have w3:wI ((k:Int)+3)=((k+3:Nat):Int):=by rw [wI_ (by omega) (by omega)]; omega
   have hfaS:fa≠some ⟨S.length,0,none⟩:=λ e=>by have:=(ho.lt _ e).1;omega
   have z04:S4[S.length]? = some (j00.cells [vU 0,vU 0] 40 none):=by rw [k4 _ (z1y z03) n0 hfaS]; exact z03
   have z5:(S4.set S.length (j00.cells [vU (good.getD k 0),vU (good.getD (k+3) 0)] 40 none))[S.length]? = some (j00.cells [vU (good.getD k 0),vU (good.getD (k+3) 0)] 40 none):=List.getElem?_set_self (z1y z04)
   rw [List.take_of_length_le (Nat.le_refl _)] at h4
   have hup:zem a fx fx.length=fx.map (Fx.up a):=by unfold zem;simp
   rw [hup] at o4
   simp only [w3,wps,c0,c3,Int.toNat_natCast,z04,List.drop_succ_cons,List.drop_zero,List.drop_nil,j6u z5,gcz,gcs]
   refine ⟨by omega,by omega,fa,by rw [List.length_map],?_,?_,?_⟩
   ·refine ⟨by rw [List.length_set]; omega,λ i hi hn=>?_⟩
    rw [List.getElem?_set_ne (by omega),k4 i (by omega) hn (λ e=>by have:=(ho.lt _ e).1;omega),kp3.keep i hi hn]
   ·exact h4.kp (M:=[S.length]) ⟨by simp,λ i hi hn=>by rw [List.getElem?_set_ne]; rintro rfl;simp at hn⟩ (λ i hi=>by have:=hTlt i hi;simp;omega)
   ·rcases o4 with o4 | ⟨fb,e,hfb,hb4⟩
    ·exact .inl o4
    ·exact .inr ⟨fb,e,by omega,by rw [List.getElem?_set_ne (by omega)]; exact hb4⟩
set_option maxHeartbeats 1000000 in
theorem zcm {p:Int} {S:St} {axes:Option Addr} {n c:Nat} {l:List Ax} (h:Ar S axes n 2 eAx l) (hl:n<=8796093022208) (inv:Bool) (s:Stp) :
 Sp (joj [vU p,.slice axes n c,vB inv,vA [vI s.ax,vB s.tw,vI s.st.R,vI s.st.L,vI s.st.M]]) S λ v S'=>∃ b k,v=vT [.slice b (zck p l inv s (zcd p l inv s)).length k,vI (zam p l s)] /\
  Ar S' b (zck p l inv s (zcd p l inv s)).length 1 eU (zck p l inv s (zcd p l inv s))/\∀ y,b=some y->S.length<=y.block:=by
 unfold Sp
 have hn:=h.1
 rw [jok]
 simp only [wps]
 refine (zat (h.mono (List.prefix_append _ _)) hl s).use ?_
 rintro _ S1 h1 rfl
 have h0:=z20 h1
 have hb:=z1w h1 jek
 simp only [wps,j6u hb]
 unfold zck
 refine ⟨λ h2=>by rw [if_neg h2]; exact ⟨h0,none,0,rfl,.nil,λ y e=>by cases e⟩,λ h2=>?_⟩
 rw [if_pos h2,h2]
 obtain ⟨hg,hs⟩:=zan h2
 obtain ⟨hb0,hb1⟩:=j5w hg hs inv
 obtain ⟨hk,_,hall⟩:=jqn hg
 obtain ⟨k,hkl,e0,h3⟩:=hs
 obtain ⟨hr,ho⟩:=hall l[k] (List.getElem_mem hkl)
 obtain ⟨n1,n2,_⟩:=z4k hr
 have hax:j5j l s.ax=l[k]:=by rw [e0,j5k l k hkl]
 obtain ⟨a,rfl,c1,c2⟩:=(h.mono h0).getAx hkl
 rw [e0]
 simp only [wps,c1,c2]
 refine ⟨by omega,?_⟩
 have hb2:∀ o,(S1++[o])[S.length]? = _:=λ o=>jeh hb
 simp only [wps,λ o=>j6u (hb2 o)]
 refine j5x.use ?_
 rintro _ S2 h4 rfl
 rw [hax] at hb0 hb1
 have h5:=(z1t h0 _).trans h4
 have hb3:=z1w h4 (hb2 _)
 have hb4:=z1w h4 jek
 simp only [wps,hb0,j6u hb3,j6u hb4]
 unfold zcd
 rw [hax]
 rcases h3 with ⟨h3,h6⟩ | ⟨h3,h6⟩
 ·obtain ⟨N,hN⟩:=Int.eq_ofNat_of_zero_le (show 0<=l[k].N by omega)
  generalize (j5v p l[k] inv s).1=w at hb1 ⊢
  have hpw:z1o p w (N:Int)=(z1q p w N,0):=by unfold z1o;rw [if_pos hk,if_neg (by omega),Int.toNat_natCast]
  simp only [wps,h3]
  rw [if_pos (by simp),hN,Int.toNat_natCast]
  refine (z1p (p:=p) (a:=w) hb1).use ?_
  rintro _ S3 h7 ⟨b,k',rfl,hpa,hpb⟩
  rw [hpw] at hpa hpb ⊢
  obtain ⟨rfl,hk',hpc⟩:=hpb rfl
  rw [Int.toNat_natCast] at hk'
  have hk':=hk'.symm
  subst hk'
  simp only [z1s,Int.toNat_natCast] at hpa hpc
  simp only [wps,z1s]
  refine ⟨λ h8=>?_,λ h8=>?_⟩
  ·rw [h8]
   simp only [wps,Bool.false_eq_true,if_false]
   rw [z1s]
   exact ⟨h5.trans h7,_,_,rfl,hpa,λ y e=>by cases e;exact h5.length_le⟩
  ·rw [h8]
   have hred:red p (N:Int)≠0:=by
    unfold red;rw [if_pos hk]
    have : (N:Int) < p:=by rcases jt5 hk with rfl | rfl | rfl <;> simp only [P0,P1,P2] <;> omega
    rw [Int.emod_eq_of_lt (by omega) this]; omega
   obtain ⟨i0,i1⟩:=jsf hk hred
   have e3:wU (N:Int)=N:=wU_ (by omega) (by omega)
   have hb6:=z1w h7 hb4
   simp only [wps,j6u hb6,hN,e3,jsg (p:=p) (a:=(N:Int)) ⟨by omega,by omega⟩,i0]
   generalize (js7 p (N:Int)).1=iv at i1 ⊢
   simp only [if_true,List.length_map,z1s]
   refine zgd (λ st S' m=>∃ j:Nat,st=[vI j]/\j<=N/\m=N-j/\S3.set S2.length (.cells ((((z1q p w N).map λ x=>jxc p x iv).take j++(z1q p w N).drop j).map (.int .u64)) 24 none) <+: S') ?_ N _ _
    ⟨0,rfl,by omega,by omega,by
      simp only [List.take_zero,List.nil_append,List.drop_zero]
      rw [z82 hpc]; exact List.prefix_rfl⟩
   rintro st S' m ⟨j,rfl,hj,rfl,hp⟩
   have hS2:S2.length < S3.length:=z1y hpc
   have hlen:=z1s p w N
   have hbl:=z1w hp (i:=S2.length) (by rw [List.getElem?_set_self hS2])
   simp only [wps]
   refine ⟨λ h9=>⟨h9,?_⟩,λ h9=>?_⟩
   ·have hj':j < N:=by omega
    have hx:=z1i p w j
    have hx2:(z1q p w N)[j]? = some (z1g p w j):=by simp [z1q,hj']
    have hl1:(((z1q p w N).map λ x=>jxc p x iv).take j).length=j:=by simp;omega
    have hcell:S'.cell ⟨S2.length,j,none⟩=some (.int .u64 (z1g p w j)):=by
     rw [j6u hbl,List.getElem?_map,List.getElem?_append_right (by omega),hl1,Nat.sub_self,List.getElem?_drop,Nat.add_zero,hx2]; rfl
    simp only [wps,hcell,jxn (p:=p) hx i1,hbl]
    refine ⟨h9,by simp;omega,N-(j+1),by omega,j+1,by rw [wI_ (by omega) (by omega)]; simp,by omega,rfl,?_⟩
    have e4:splice ((((z1q p w N).map λ x=>jxc p x iv).take j++(z1q p w N).drop j).map (.int .u64)) j [.int .u64 (jxc p (z1g p w j) iv)]=(((z1q p w N).map λ x=>jxc p x iv).take (j+1)++(z1q p w N).drop (j+1)).map (.int .u64):=by
     rw [z9v (by simp;omega),<- List.map_set,List.set_append_right _ _ (by omega),hl1,Nat.sub_self,List.drop_eq_getElem_cons (by omega),List.set_cons_zero,List.take_add_one,List.getElem?_map,hx2]
     simp
    rw [e4]
    have:=z23 hp (b:=S2.length) (o:=.cells ((((z1q p w N).map λ x=>jxc p x iv).take (j+1)++(z1q p w N).drop (j+1)).map (.int .u64)) 24 none) (by simpa using hS2)
    rwa [List.set_set] at this
   ·obtain rfl:j=N:=by omega
    rw [List.take_of_length_le (by simp;omega),List.drop_of_length_le (by omega),List.append_nil] at hbl
    have h10:S <+: S':=(h5.trans (z24 h7 (Nat.le_refl _))).trans hp
    refine ⟨h10,_,_,rfl,?_,λ y e=>by cases e;exact h5.length_le⟩
    have:=j51 hbl
    rwa [List.length_map,z1s] at this
 ·obtain ⟨g1,g2,g3,g4,g5,g6⟩:=zak (zai hr).1 h6
  have hp1:1<=s.st.R*s.st.M:=by have:=Int.mul_le_mul (show 1<=s.st.R by omega) g4 (by omega) (by omega); omega
  have hp2:=z2w g3 hp1 g5 g6
  have hM:s.st.M<=4096:=z2w (show 1<=s.st.R by omega) g4 rfl hp2
  rw [Int.mul_comm] at hp1 hp2
  simp only [wps,h3]
  rw [wI_ (n:=s.st.M*s.st.R) (by omega) (by omega)]
  obtain ⟨R,hR⟩:=Int.eq_ofNat_of_zero_le (show 0<=s.st.R by omega)
  obtain ⟨M',hM'⟩:=Int.eq_ofNat_of_zero_le (show 0<=s.st.M by omega)
  generalize hw:(j5v p l[k] inv s).1=w at hb1 ⊢
  have e1:(s.st.M*s.st.R).toNat=M'*R:=by rw [hR,hM',<- Int.natCast_mul,Int.toNat_natCast]
  have e2:s.st.M*s.st.R=((M'*R:Nat):Int):=by rw [hR,hM',Int.natCast_mul]
  rw [hR,hM'] at hp1 hp2
  rw [e1,zhy,hR,hM',Int.toNat_natCast,Int.toNat_natCast,if_neg (by simp)]
  refine ⟨⟨by decide,by omega,by omega,by omega,rfl⟩,?_⟩
  refine zgd (λ st S' m=>∃ j:Nat,st=[.slice (some ⟨S2.length,0,none⟩) (j*R) (M'*R),vU (z1g p w j)]/\j<=M'/\m=M'-j/\S2++[.cells ((z6j p w R j).map (.int .u64)++List.replicate ((M'-j)*R) (.int .u64 0)) 24 none] <+: S') ?_ M' _ _
   ⟨0,by rw [z1k w hk]; simp,by omega,by omega,by simp [z6j]⟩
  rintro st S' m ⟨j,rfl,hj,rfl,hp⟩
  have hp':=z20 hp
  have hb5:=z1w hp' hb3
  have hlen:=z6l p w R j
  have hbl:=z1w hp jek
  have h7:=h5.trans hp'
  rcases Nat.lt_or_ge j M' with h8 | h8
  ·have h9:j*R+R<=M'*R:=by rw [<- Nat.succ_mul]; exact Nat.mul_le_mul_right _ h8
   have hm:=jxn (p:=p) (z1i p w j) hb1
   rw [jxg] at hm
   have hpw:z1o p (z1g p w j) (R:Int)=(z1q p (z1g p w j) R,0):=by unfold z1o;rw [if_pos hk,if_neg (by omega),Int.toNat_natCast]
   simp only [wps,j6u hb5,hR,hM',hm]
   rw [show (M':Int)*R=((M'*R:Nat):Int) by rw [Int.natCast_mul],wI_ (n:=((M'*R:Nat):Int)) (by omega) (by omega)]
   refine ⟨λ h10=>?_,λ h10=>by omega⟩
   refine (z1p (p:=p) (a:=z1g p w j) (z1i p w j)).use ?_
   rintro _ S3 h11 ⟨b,k',rfl,hpa,hpb⟩
   rw [hpw] at hpa hpb ⊢
   obtain ⟨rfl,hk',hpc⟩:=hpb rfl
   simp only [wps,z1s]
   refine z4y hpc (by rw [List.length_map,z1s]) ?_
   have hbl2:=z1w h11 hbl
   refine zfu hbl2 h9 ?_ (by simp [juu]) ?_
   ·simp only [List.length_map,z1s,List.length_append,List.length_replicate,hlen]
    have : (M'-j)*R=M'*R-j*R:=Nat.sub_mul ..
    omega
   ·simp only [wps]
    refine ⟨M'-(j+1),by omega,j+1,by rw [Nat.succ_mul],by omega,rfl,?_⟩
    have e4:splice ((z6j p w R j).map (.int .u64)++List.replicate ((M'-j)*R) (.int .u64 0)) (j*R) ((z1q p (z1g p w j) R).map (.int .u64))=(z6j p w R (j+1)).map (.int .u64)++List.replicate ((M'-(j+1))*R) (.int .u64 0):=by
     have e5:(M'-j)*R-R=(M'-(j+1))*R:=by rw [<- Nat.sub_one_mul,Nat.sub_sub]
     unfold splice
     rw [z6j,List.take_append_of_le_length (by simp [hlen]),List.take_of_length_le (by simp [hlen]),List.drop_append,List.drop_of_length_le (by simp [hlen])]
     simp [hlen,z1s,e5]
    rw [e4]
    exact z25 (hp.trans h11)
  ·obtain rfl:j=M':=by omega
   simp only [wps,j6u hb5,hR,hM']
   rw [show (j:Int)*R=((j*R:Nat):Int) by rw [Int.natCast_mul],wI_ (n:=((j*R:Nat):Int)) (by omega) (by omega)]
   refine ⟨λ h10=>by omega,λ h10=>?_⟩
   refine ⟨h7,_,_,by rw [hlen],?_,λ y e=>by cases e;exact h5.length_le⟩
   rw [Nat.sub_self,Nat.zero_mul,List.replicate_zero,List.append_nil] at hbl
   exact j51 hbl
theorem z7g {P:Int->Prop}:∀ (l:List (Nat×Int)) (a:List Int),(∀ y∈a,P y)->(∀ e∈l,P e.2)->∀ y∈z7b a l,P y
 | [], a, h, _ => h
 | e :: l, a, h1, h2 => by
   rw [z7b,List.foldl_cons]
   refine z7g l _ (λ y hy=>?_) λ e he=>h2 e (by simp [he])
   rcases List.mem_or_eq_of_mem_set hy with hy | rfl
   ·exact h1 y hy
   ·exact h2 e (by simp)
theorem ja2 {p:Int} (hk:jt3 p=true) {inv tw:Bool} {n:Nat} {gs:List GrN} {tab x:List Int}:∀ y∈doG p inv tw n gs tab x,inP p y:=by
 unfold doG
 refine z7g _ _ (λ y hy=>?_) λ e he=>?_
 ·rw [(List.mem_replicate.1 hy).2]; exact jrv hk
 ·obtain ⟨g,_,hg⟩:=List.mem_flatMap.1 he
  unfold jep at hg
  obtain ⟨i,hi,hx⟩:=List.mem_iff_getElem.1 (List.of_mem_zip hg).2
  rw [List.getElem_zipWith] at hx
  rw [<- hx]; exact jrq hk _ _
theorem ja3 (p:Int) (inv tw:Bool) (n:Nat) (gs:List GrN) (tab x:List Int):(doG p inv tw n gs tab x).length=n:=by unfold doG;rw [z7h,List.length_replicate]
theorem zcj {p:Int} {l:List Ax} {inv:Bool} {s:Stp} (h:zam p l s=0):1<=(zcd p l inv s).length/\(zcd p l inv s).length<=4096:=by
 obtain ⟨k,d,inner,n,m,hS⟩:=zas h
 rw [zch hS]
 have h1:=hS.d1
 rcases hS.st with ⟨ht,_⟩ | ⟨ht,R,L,M,hst,r1,r2,l1,m1,hd⟩
 ·rw [if_pos ht]; omega
 ·rw [if_neg (by rw [ht]; simp),hst]
  dsimp only
  rw [Int.toNat_natCast,Int.toNat_natCast]
  have h2:R*M<=L*(R*M):=Nat.le_mul_of_pos_left _ (by omega)
  have h3:1<=M*R:=Nat.mul_pos (by omega) (by omega)
  rw [Nat.mul_comm M R] at h3 ⊢
  omega
theorem jxw {l:List Ax} {s:Stp} {k d inner nn m:Nat} (hS:Shp l s k d inner nn m) {j:Nat} (hj:j < l.length):l[j].N=(((jxv l)[j]'(by simp [jxv]; exact hj):Nat):Int):=by
 have h1:=hS.all _ (List.getElem_mem (l:=jxv l) (n:=j) (by simp [jxv]; exact hj))
 simp only [jxv,List.getElem_map] at h1 ⊢
 omega
theorem z2x {l:List Nat} (h:∀ x∈l,1<=x) (j:Nat):z2r (l.take j)<=z2r l:=by
 conv=>rhs;rw [<- List.take_append_drop j l,z2s]
 exact Nat.le_mul_of_pos_right _ (z2u _ λ x hx=>h x (List.mem_of_mem_drop hx))
theorem z2y {l:List Nat} {j:Nat} (hj:j < l.length):z2r (l.take (j+1))=z2r (l.take j)*l[j]:=by
 rw [zcr hj,z2s]
 show _=_
 unfold z2r
 simp
theorem j71 (t:List Int):(j6y t).1.2.length<=2:=by
 unfold j6y
 split
 ·simp
 ·split
  ·simp
  ·rcases zcw (t.getD 0 0) (t.getD 1 0) (t.getD 2 0) with h | ⟨_,_,h⟩ <;> rcases zcw (t.getD 3 0) (t.getD 4 0) (t.getD 5 0) with g | ⟨_,_,g⟩ <;> simp only [h,g] <;> simp [jdl]
theorem jci (p:Int) (c:List Int):(jcg p c).1.2.length<=3:=by
 have:=j71 (c.drop (c.length-6))
 unfold jcg
 dsimp only
 repeat' split
 all_goals simp <;> omega
theorem z7u {m:Mm} {p a:Int} {n:Nat} (hk:jt3 p=true) (hn:1<=n/\n<=4096) (hN:m.hasN a ((n:Int)+6)=true) :
 (z7o m p n a).2.W.length=m.W.length/\(z7o m p n a).1.1.1.length<=3/\(((z7o m p n a).1.2=0/\(z7o m p n a).2.t=m.t+n+6+(z7o m p n a).1.1.1.length)\/((z7o m p n a).1.2=10/\(z7o m p n a).2.t=m.t+n+6/\(z7o m p n a).1.1.1=[])):=by
 unfold z7o
 rw [if_neg (by rw [hk]; simp),if_neg (by rw [hN]; simp;omega)]
 dsimp only
 rw [Int.toNat_natCast]
 have hf:=jci p (m.rds (z6b a (n+6))).1
 obtain ⟨g1,g2,g3,g4⟩:=Mm.rds_len (z6b a (n+6)) m
 rw [z6d] at g3
 split
 ·exact ⟨g1,by simp,.inr ⟨rfl,by dsimp only;omega,rfl⟩⟩
 ·obtain ⟨w1,w2,w3⟩:=Mm.wrs_len (((jcg p (m.rds (z6b a (n+6))).1).1.2.map (Fx.up a)).map Fx.st) (m.rds (z6b a (n+6))).2
  refine ⟨w1.trans g1,by simpa using hf,.inl ⟨rfl,?_⟩⟩
  dsimp only
  rw [w2,g3,List.length_map]; omega
theorem jup {m:Mm} {l:List Int} {a:Int} (hN:m.hasN a l.length=true):(juh m l a).1=0/\(juh m l a).2.W.length=m.W.length/\(juh m l a).2.t=m.t+l.length:=by
 unfold juh
 rw [if_pos hN]
 obtain ⟨w1,w2,w3⟩:=Mm.wrs_len ((z6b a l.length).zip l) m
 exact ⟨rfl,w1,by dsimp only;rw [w2,List.length_zip,z6d]; omega⟩
theorem z9q {m:Mm} {p a:Int} {n:Nat} {s:Int×Int} (hk:jt3 p=true) (hn:1<=n/\n<=4096) (hN:m.hasN a (n:Int)=true):(z9m m p n a s).1.2=0/\(z9m m p n a s).2.W.length=m.W.length/\(z9m m p n a s).2.t=m.t+n:=by
 unfold z9m
 rw [if_neg (by rw [hk]; simp),if_neg (by rw [hN]; simp;omega)]
 dsimp only
 rw [Int.toNat_natCast]
 obtain ⟨g1,g2,g3,g4⟩:=Mm.rds_len (z6b a n) m
 rw [z6d] at g3
 exact ⟨rfl,g1,g3⟩
theorem jrk {m:Mm} {l:List Int} {a:Int} (hN:m.hasN a l.length=true):(jrg m l a).1.2=0/\(jrg m l a).2.W.length=m.W.length/\(jrg m l a).2.t=m.t+l.length:=by
 unfold jrg
 rw [if_pos hN]
 obtain ⟨g1,g2,g3,g4⟩:=Mm.rds_len (z6b a l.length) m
 rw [z6d] at g3
 exact ⟨rfl,g1,g3⟩
theorem jr7 {m m':Mm} (h:m'.W.length=m.W.length) (a n:Int):m'.hasN a n=m.hasN a n:=by unfold Mm.hasN;rw [h]
theorem jr8 {m:Mm} {a n k:Int} (h:m.hasN a n=true) (hk:0<=k/\k<=n):m.hasN a k=true:=by
 have:=jr6 h
 unfold Mm.hasN;apply decide_eq_true;omega
theorem z0p {m:Mm} {p:Int} {l:List Ax} {inv:Bool} {s:Stp} {src dst tab:Int} (hs:zam p l s=0) (h1:m.hasN src (nV l+6)=true) (h2:m.hasN dst (nV l+6)=true) (h3:m.hasN tab (zcd p l inv s).length=true):(z0h m p l inv s src dst tab).1.2=0:=by
 unfold z0h;rw [if_pos hs,if_pos ⟨h1,h2,h3⟩]
theorem ze3 {m:Mm} {p:Int} {l:List Ax} {inv:Bool} {s:Stp} {src dst tab:Int} (hs:zam p l s=0) (h1:m.hasN src (nV l+6)=true) (h2:m.hasN dst (nV l+6)=true) (h3:m.hasN tab (zcd p l inv s).length=true) :
 ze2 m p l inv s src dst tab=if (z7o m p (nV l) src).1.2≠0 then (((false,[]),0),(z7o m p (nV l) src).2) else
  (((( z9m (z0h (juh (z7o m p (nV l) src).2 (zcd p l inv s) tab).2 p l inv s src dst tab).2 p (nV l) src (z7o m p (nV l) src).1.1.2).1.1 &&
    (jrg (z9m (z0h (juh (z7o m p (nV l) src).2 (zcd p l inv s) tab).2 p l inv s src dst tab).2 p (nV l) src (z7o m p (nV l) src).1.1.2).2 (zcd p l inv s) tab).1.1 &&
    (z9m (jrg (z9m (z0h (juh (z7o m p (nV l) src).2 (zcd p l inv s) tab).2 p l inv s src dst tab).2 p (nV l) src (z7o m p (nV l) src).1.1.2).2 (zcd p l inv s) tab).2 p (nV l) dst (z0h (juh (z7o m p (nV l) src).2 (zcd p l inv s) tab).2 p l inv s src dst tab).1.1).1.1,
    (z7o m p (nV l) src).1.1.1),0),(z9m (jrg (z9m (z0h (juh (z7o m p (nV l) src).2 (zcd p l inv s) tab).2 p l inv s src dst tab).2 p (nV l) src (z7o m p (nV l) src).1.1.2).2 (zcd p l inv s) tab).2 p (nV l) dst (z0h (juh (z7o m p (nV l) src).2 (zcd p l inv s) tab).2 p l inv s src dst tab).1.1).2):=by
 unfold ze2
 rw [if_neg (λ e=>e hs),if_pos ⟨h1,h2,h3⟩]
set_option maxHeartbeats 4000000 in
set_option maxRecDepth 20000 in
theorem zeb {S:St} {b:Nat} {m:Mm} {T:List Nat} (h:MS S b m T) {p:Int} {axes:Option Addr} {an ac:Nat} {l:List Ax} {inv:Bool} {s:Stp} {src dst tab:Int} (har:Ar S axes an 2 eAx l) (hl:an<=8796093022208) (hax:∀ y,axes=some y->l≠[]->y.block∉T) (ht:0<=m.t/\m.t < 576460752303423488) :
 WP (jpm [.pointer (some ⟨b,0,none⟩),vU p,.slice axes an ac,vB inv,spV s,vI src,vI dst,vI tab]) S λ v S'=>∃ fa,v=vT [vA [vB (ze2 m p l inv s src dst tab).1.1.1,.slice fa (ze2 m p l inv s src dst tab).1.1.2.length (ze2 m p l inv s src dst tab).1.1.2.length],vI (ze2 m p l inv s src dst tab).1.2]/\Kp T S S'/\MS S' b (ze2 m p l inv s src dst tab).2 T/\j0v S.length S' fa (ze2 m p l inv s src dst tab).1.1.2:=by
 rw [jpn]
 have hw:=h.w
 have hTlt:=h.lt
 simp only [wps,List.append_assoc,List.cons_append,List.nil_append,List.length_append,List.length_cons,List.length_nil,Nat.zero_add,Nat.reduceAdd,Nat.add_assoc]
 generalize hY:S++[j00.cells (spC s) 29 none,j00.cells [vB false,.slice none 0 0] 52 none]=Y
 have p0:S <+: Y:=⟨_,hY⟩
 have z0:Y[S.length]? = some (j00.cells (spC s) 29 none):=by rw [<- hY]; exact gA0
 have y0:Y[S.length+1]? = some (j00.cells [vB false,.slice none 0 0] 52 none):=by rw [<- hY]; exact gA
 have hYl:Y.length=S.length+2:=by rw [<- hY]; simp
 have n0:S.length∉T:=λ hx=>by have:=hTlt _ hx;omega
 have n1:S.length+1∉T:=λ hx=>by have:=hTlt _ hx;omega
 have ends:∀ {S':St} {m':Mm} (o:j00),S'[S.length+1]? = some (j00.cells [vB false,.slice none 0 0] 52 none)->Kp T S S'->MS S' b m' T->(S'.set (S.length+1) o)[S.length+1]? = some o/\Kp T S (S'.set (S.length+1) o)/\MS (S'.set (S.length+1) o) b m' T:=fun {S' m'} o z k hm=>by
  have hl:=z1y z
  refine ⟨List.getElem?_set_self hl,⟨by rw [List.length_set]; exact k.len,λ i hi hn=>by rw [List.getElem?_set_ne (by omega),k.keep i hi hn]⟩,hm.kp (M:=[S.length+1]) ⟨by simp,λ i hi hn=>by rw [List.getElem?_set_ne]; rintro rfl;simp at hn⟩ (λ i hi=>by have:=hTlt i hi;simp;omega)⟩
 simp only [wps,j6u z0,gcz,gcs]
 refine (zcm (c:=ac) (har.mono p0) hl inv s).use ?_
 rintro _ S1 k1 ⟨tb,tk,rfl,htab,htn⟩
 have p1:=p0.trans k1
 have z1:=z1w k1 z0
 have y1:=z1w k1 y0
 have h1:=h.pre p1
 have l1:=p1.length_le
 simp only [wps,y1,List.drop_succ_cons,List.drop_zero,List.drop_nil]
 by_cases hst:zam p l s≠0
 ·have hV:ze2 m p l inv s src dst tab=(((false,[]),zam p l s),m):=by unfold ze2;rw [if_pos hst]
  rw [hV]
  obtain ⟨q1,q2,q3⟩:=ends (j00.cells [vB false,.slice none 0 0] 52 none) y1 (Kp.of p1) h1
  simp only [j6u q1,gcz,gcs,wps]
  exact ⟨λ _=>⟨none,rfl,q2,q3,.inl ⟨rfl,rfl⟩⟩,λ e=>absurd e hst⟩
 have hst:zam p l s=0:=Classical.byContradiction hst
 refine ⟨λ e=>absurd hst e,λ _=>?_⟩
 rw [show zck p l inv s (zcd p l inv s)=zcd p l inv s by unfold zck;rw [if_pos hst]] at htab ⊢
 have hk:=zaq hst
 obtain ⟨kk,dd,inner,nn,mm,hS⟩:=zas hst
 have hnn:=hS.nn
 have hn1:=hS.n1
 have hTs:=zcj (inv:=inv) hst
 have hanl:=har.1
 have hnd1:∀ x∈jxv l,1<=x:=λ x hx=>(hS.all x hx).1
 have hpn:=hS.np
 refine zgd (λ st S' t=>∃ j:Nat,st=[vN (z2r ((jxv l).take j)),vN j]/\t=an-j/\j<=an/\S1 <+: S') ?_ an _ _ ⟨0,rfl,rfl,by omega,List.prefix_refl _⟩
 rintro st S2 _ ⟨j,rfl,rfl,hj,k2⟩
 simp only [wps]
 refine ⟨λ h5=>?_,λ h5=>?_⟩
 ·have hj':j < l.length:=by omega
  have hjn:j < (jxv l).length:=by simp [jxv]; exact hj'
  obtain ⟨x,rfl,c0,c1⟩:=(har.mono (p1.trans k2)).getAx hj'
  have pr1:=z2x hnd1 (j+1)
  have pr2:=z2y hjn
  have hN:=jxw hS hj'
  rw [hpn] at pr1
  have hmul:((z2r ((jxv l).take j):Nat):Int)*l[j].N=((z2r ((jxv l).take (j+1)):Nat):Int):=by rw [pr2,Int.natCast_mul,hN]
  have gw:(S2++[j00.cells [vI 0,vB false] 113 none])[S2.length]? = some (j00.cells [vI 0,vB false] 113 none):=jek
  simp only [wps,c0,c1,Int.toNat_natCast,hmul]
  rw [wI_ (n:=((z2r ((jxv l).take (j+1)):Nat):Int)) (by omega) (by omega),wI_ (n:=(j:Int)+1) (by omega) (by omega)]
  exact ⟨by omega,an-(j+1),by omega,j+1,rfl,rfl,by omega,k2.trans (List.prefix_append _ _)⟩
 have hjn:j=an:=by omega
 have hall:(jxv l).take j=jxv l:=List.take_of_length_le (by simp [jxv]; omega)
 rw [hall,hpn]
 have p2:=p1.trans k2
 have h2:=h1.pre k2
 have z2:=z1w k2 z1
 have y2:=z1w k2 y1
 have w6:wI ((nn:Int)+6)=(nn:Int)+6:=wI_ (by omega) (by omega)
 have pb:=List.prefix_append S2 [j00.cells [.pointer (some ⟨b,0,none⟩),vI src,vI ((nn:Int)+6),.pointer (some ⟨b,0,none⟩),vI dst,vI ((nn:Int)+6),.pointer (some ⟨b,0,none⟩),vI tab,vN (zcd p l inv s).length] 145 none]
 have zb:=jek (S:=S2) (o:=j00.cells [.pointer (some ⟨b,0,none⟩),vI src,vI ((nn:Int)+6),.pointer (some ⟨b,0,none⟩),vI dst,vI ((nn:Int)+6),.pointer (some ⟨b,0,none⟩),vI tab,vN (zcd p l inv s).length] 145 none)
 simp only [wps,w6]
 generalize S2++[j00.cells [.pointer (some ⟨b,0,none⟩),vI src,vI ((nn:Int)+6),.pointer (some ⟨b,0,none⟩),vI dst,vI ((nn:Int)+6),.pointer (some ⟨b,0,none⟩),vI tab,vN (zcd p l inv s).length] 145 none]=S3 at pb zb ⊢
 have p3:=p2.trans pb
 have h3:=h2.pre pb
 have y3:=z1w pb y2
 have hVe:(m.hasN src (nV l+6)=true/\m.hasN dst (nV l+6)=true/\m.hasN tab (zcd p l inv s).length=true)\/ze2 m p l inv s src dst tab=(((false,[]),1),m):=by
  by_cases hc:m.hasN src (nV l+6)=true/\m.hasN dst (nV l+6)=true/\m.hasN tab (zcd p l inv s).length=true
  ·exact .inl hc
  ·right;unfold ze2;rw [if_neg (λ e=>e hst),if_neg hc]
 have cb:∀ (i:Nat) (v:Value),[.pointer (some ⟨b,0,none⟩),vI src,vI ((nn:Int)+6),.pointer (some ⟨b,0,none⟩),vI dst,vI ((nn:Int)+6),.pointer (some ⟨b,0,none⟩),vI tab,vN (zcd p l inv s).length][i]? = some v->∀ {S':St},S3 <+: S'->St.cell S' ⟨S2.length,i,none⟩=some v:=λ i v e S' k=>z1v k (by rw [j6u zb]; exact e)
 refine zgp ?_
 have b10:=cb 0 _ rfl (List.prefix_refl S3)
 have b11:=cb 1 _ rfl (List.prefix_refl S3)
 have b12:=cb 2 _ rfl (List.prefix_refl S3)
 simp only [wps,Nat.reduceMul,Nat.reduceAdd,Nat.zero_add,Nat.zero_mul,Int.reduceToNat,Int.reduceLT,Int.reduceLE,b10,b11,b12]
 have q1:=List.prefix_append S3 [j00.cells [.pointer (some ⟨b,0,none⟩),vI src,vI ((nn:Int)+6)] 145 none]
 refine (z6n (h3.pre q1)).use ?_
 rintro _ S4 k4 rfl
 have p34:=q1.trans k4
 have y4:=z1w p34 y3
 have h4:=h3.pre p34
 have p4:=p3.trans p34
 have r4:=ends (j00.cells [vB false,.slice none 0 0] 52 none) y4 (Kp.of p4) h4
 simp only [wps,y4,List.drop_succ_cons,List.drop_zero,List.drop_nil,j6u r4.1,gcz,gcs]
 refine ⟨λ e=>?_,λ hc1=>?_⟩
 ·rcases hVe with hc | hV
  ·exact absurd (hnn ▸ hc.1) (by rw [e]; simp)
  ·rw [hV]; exact ⟨none,rfl,r4.2.1,r4.2.2,.inl ⟨rfl,rfl⟩⟩
 refine zgp ?_
 have b20:=cb 3 _ rfl p34
 have b21:=cb 4 _ rfl p34
 have b22:=cb 5 _ rfl p34
 have w01:wI (0+1)=1:=rfl
 simp only [wps,w01,Nat.reduceMul,Nat.reduceAdd,Nat.zero_add,Nat.zero_mul,Nat.one_mul,Int.reduceToNat,Int.toNat_one,Int.reduceLT,Int.reduceLE,b20,b21,b22]
 have q2:=List.prefix_append S4 [j00.cells [.pointer (some ⟨b,0,none⟩),vI dst,vI ((nn:Int)+6)] 145 none]
 refine (z6n (h4.pre q2)).use ?_
 rintro _ S5 k5 rfl
 have p45:=q2.trans k5
 have y5:=z1w p45 y4
 have h5':=h4.pre p45
 have p5:=p4.trans p45
 have r5:=ends (j00.cells [vB false,.slice none 0 0] 52 none) y5 (Kp.of p5) h5'
 simp only [wps,y5,List.drop_succ_cons,List.drop_zero,List.drop_nil,j6u r5.1,gcz,gcs]
 refine ⟨λ e=>?_,λ hc2=>?_⟩
 ·rcases hVe with hc | hV
  ·exact absurd (hnn ▸ hc.2.1) (by rw [e]; simp)
  ·rw [hV]; exact ⟨none,rfl,r5.2.1,r5.2.2,.inl ⟨rfl,rfl⟩⟩
 refine zgp ?_
 have p35:=p34.trans p45
 have b30:=cb 6 _ rfl p35
 have b31:=cb 7 _ rfl p35
 have b32:=cb 8 _ rfl p35
 have w11:wI (1+1)=2:=rfl
 simp only [wps,w11,Nat.reduceMul,Nat.reduceAdd,Nat.zero_add,Nat.zero_mul,Nat.one_mul,Int.reduceToNat,Int.reduceLT,Int.reduceLE,b30,b31,b32]
 have q3:=List.prefix_append S5 [j00.cells [.pointer (some ⟨b,0,none⟩),vI tab,vN (zcd p l inv s).length] 145 none]
 refine (z6n (h5'.pre q3)).use ?_
 rintro _ S6 k6 rfl
 have p56:=q3.trans k6
 have y6:=z1w p56 y5
 have h6:=h5'.pre p56
 have p6:=p5.trans p56
 have r6:=ends (j00.cells [vB false,.slice none 0 0] 52 none) y6 (Kp.of p6) h6
 simp only [wps,y6,List.drop_succ_cons,List.drop_zero,List.drop_nil,j6u r6.1,gcz,gcs]
 refine ⟨λ e=>?_,λ hc3=>?_⟩
 ·rcases hVe with hc | hV
  ·exact absurd (hc.2.2) (by rw [e]; simp)
  ·rw [hV]; exact ⟨none,rfl,r6.2.1,r6.2.2,.inl ⟨rfl,rfl⟩⟩
 refine zgp ?_
 have w21:wI (2+1)=3:=rfl
 simp only [wps,w21,Int.reduceLT]
 clear hVe
 have hc1':m.hasN src (nV l+6)=true:=by rw [hnn]; exact hc1
 have hc2':m.hasN dst (nV l+6)=true:=by rw [hnn]; exact hc2
 have hVt:=ze3 (inv:=inv) hst hc1' hc2' hc3
 generalize ze2 m p l inv s src dst tab=V at hVt ⊢
 rw [hnn] at hVt
 obtain ⟨a1,a2,a3⟩:=z7u (n:=nn) hk (by omega) hc1
 refine (z7v (p:=p) (n:=(nn:Int)) (a:=src) h6 (by omega)).mono ?_
 rintro _ S7 ⟨fx,rfl,k7,h7,o7⟩
 generalize z7o m p nn src=A at hVt a1 a2 a3 h7 o7 ⊢
 have kp7:=(Kp.of p6).trans k7
 have y7:=k7.get y6 n1
 have l6:=p6.length_le
 have ly6:=z1y y6
 simp only [wps]
 have q7:=List.prefix_append S7 [j00.cells [vU A.1.1.2.1,vU A.1.1.2.2] 40 none]
 have z7:=jek (S:=S7) (o:=j00.cells [vU A.1.1.2.1,vU A.1.1.2.2] 40 none)
 have z7n:S7.length∉T:=λ hx=>by have:=hTlt _ hx;have:=k7.len;omega
 have hS7l:S6.length<=S7.length:=k7.len
 generalize hY8:S7++[j00.cells [vU A.1.1.2.1,vU A.1.1.2.2] 40 none]=S8 at q7 z7 ⊢
 have y8:=z1w q7 y7
 have h8:=h7.pre q7
 have kp8:=kp7.more q7
 have o8:=o7.pre q7
 have r8:=ends (j00.cells [vB false,.slice none 0 0] 52 none) y8 kp8 h8
 simp only [wps,y8,List.drop_succ_cons,List.drop_zero,List.drop_nil,j6u r8.1,gcz,gcs]
 refine ⟨λ e=>?_,λ e=>?_⟩
 ·rw [if_pos e] at hVt
  rw [hVt]
  exact ⟨none,rfl,r8.2.1,r8.2.2,.inl ⟨rfl,rfl⟩⟩
 rw [if_neg (λ h=>h e)] at hVt
 have a3:A.2.t=m.t+nn+6+A.1.1.1.length:=by
  rcases a3 with a3 | a3
  ·exact a3.2
  ·rw [e] at a3;exact absurd a3.1 (by decide)
 have htu:∀ y∈zcd p l inv s,Go.Proofs.YtpecnaacgkgjmaaGreatDoor.u64r y:=λ y hy=>zei hk (zcf hk y hy)
 have hTT:∀ y,tb=some y->zcd p l inv s≠[]->y.block∉T:=λ y hy _ hm=>by have:=htn y hy;have:=hTlt _ hm;omega
 have kp18:Kp T S1 S8:=((Kp.of (k2.trans (pb.trans (p34.trans (p45.trans p56))))).trans k7).more q7
 have htab8:=kp18.ar htab (λ hne y hy=>hTT y hy hne)
 obtain ⟨b1,b2,b3⟩:=jup (m:=A.2) (l:=zcd p l inv s) (a:=tab) (by rw [jr7 a1]; exact hc3)
 refine (juq (lc:=tk) h8 htab8 hTT htu (by omega) (by omega)).mono ?_
 rintro _ S9 ⟨rfl,k9,h9⟩
 rw [b1]
 generalize (juh A.2 (zcd p l inv s) tab).2=L at hVt b2 b3 h9
 have bL:L.W.length=m.W.length:=b2.trans a1
 have kp9:=kp8.trans k9
 have y9:=k9.get y8 n1
 have z9:=k9.get z7 z7n
 have zS6:=z1w ((k2.trans (pb.trans (p34.trans (p45.trans p56))))) z1
 have zS9:=k9.get (z1w q7 (k7.get zS6 n0)) n0
 have har9:=kp9.ar har (λ hne y hy=>hax y hy hne)
 simp only [wps,j6u zS9,gcz,gcs]
 refine (z76 (p:=p) (c:=ac) (inv:=inv) (s:=s) (src:=src) (dst:=dst) (tab:=tab) h9 har9 hl hax ⟨by omega,by omega⟩).mono ?_
 rintro _ S10 ⟨rfl,k10,h10⟩
 have v0:(z0h L p l inv s src dst tab).1.2=0:=z0p hst (by rw [jr7 bL]; exact hc1') (by rw [jr7 bL]; exact hc2') (by rw [jr7 bL]; exact hc3)
 have vt:(z0h L p l inv s src dst tab).2.t=L.t+3*nn+6/\(z0h L p l inv s src dst tab).2.W.length=L.W.length:=by
  rcases z0j (m:=L) (p:=p) (l:=l) (inv:=inv) (s:=s) (src:=src) (dst:=dst) (tab:=tab) with ⟨hf,_⟩ | hf
  ·exact absurd v0 hf
  ·exact ⟨by rw [hf.2.1,hnn],hf.2.2.1⟩
 rw [v0]
 generalize z0h L p l inv s src dst tab=P at hVt v0 vt h10 ⊢
 obtain ⟨vt1,vt2⟩:=vt
 have bP:P.2.W.length=m.W.length:=vt2.trans bL
 have kp10:=kp9.trans k10
 have y10:=k10.get y9 n1
 have z10:=k10.get z9 z7n
 simp only [wps]
 have q11:=List.prefix_append S10 [j00.cells [vU P.1.1.1,vU P.1.1.2] 40 none]
 have x11:=jek (S:=S10) (o:=j00.cells [vU P.1.1.1,vU P.1.1.2] 40 none)
 have x11n:S10.length∉T:=λ hx=>by have:=hTlt _ hx;have:=kp10.len;omega
 generalize S10++[j00.cells [vU P.1.1.1,vU P.1.1.2] 40 none]=S11 at q11 x11 ⊢
 have y11:=z1w q11 y10
 have z11:=z1w q11 z10
 have h11:=h10.pre q11
 have kp11:=kp10.more q11
 have hsrcn:P.2.hasN src (nn:Int)=true:=by rw [jr7 bP]; exact jr8 hc1 ⟨by omega,by omega⟩
 obtain ⟨s1,s2,s3⟩:=z9q (m:=P.2) (s:=A.1.1.2) hk (n:=nn) (by omega) hsrcn
 simp only [wps,j6u z11,gcz,gcs]
 refine (z9r (p:=p) (n:=(nn:Int)) (a:=src) (s:=A.1.1.2) h11 ⟨by omega,by omega⟩).mono ?_
 rintro _ S12 ⟨rfl,k12,h12⟩
 rw [s1]
 generalize z9m P.2 p nn src A.1.1.2=B at hVt s2 s3 h12 ⊢
 have bB:B.2.W.length=m.W.length:=s2.trans bP
 have kp12:=kp11.trans k12
 have y12:=k12.get y11 n1
 have x12:=k12.get x11 x11n
 have kp1c:Kp T S1 S12:=((kp18.trans k9).trans k10 |>.more q11).trans k12
 have htab12:=kp1c.ar htab (λ hne y hy=>hTT y hy hne)
 obtain ⟨u1,u2,u3⟩:=jrk (m:=B.2) (l:=zcd p l inv s) (a:=tab) (by rw [jr7 bB]; exact hc3)
 simp only [wps]
 refine (jrl (lc:=tk) (a:=tab) h12 htab12 hTT ⟨by omega,by omega⟩ (by omega)).mono ?_
 rintro _ S13 ⟨rfl,k13,h13⟩
 rw [u1]
 generalize jrg B.2 (zcd p l inv s) tab=C at hVt u2 u3 h13 ⊢
 have bC:C.2.W.length=m.W.length:=u2.trans bB
 have kp13:=kp12.trans k13
 have y13:=k13.get y12 n1
 have x13:=k13.get x12 x11n
 have hdstn:C.2.hasN dst (nn:Int)=true:=by rw [jr7 bC]; exact jr8 hc2 ⟨by omega,by omega⟩
 obtain ⟨d1,d2,d3⟩:=z9q (m:=C.2) (s:=P.1.1) hk (n:=nn) (by omega) hdstn
 simp only [wps,j6u x13,gcz,gcs]
 refine (z9r (p:=p) (n:=(nn:Int)) (a:=dst) (s:=P.1.1) h13 ⟨by omega,by omega⟩).mono ?_
 rintro _ S14 ⟨rfl,k14,h14⟩
 rw [d1]
 generalize z9m C.2 p nn dst P.1.1=D at hVt d2 d3 h14 ⊢
 have kp14:=kp13.trans k14
 have y14:=k14.get y13 n1
 have k814:Kp T S8 S14:=((((k9.trans k10).more q11).trans k12).trans k13).trans k14
 have o14:j0v S6.length S14 fx A.1.1.1:=o8.keep λ i hi=>k814.keep i (o8.lt i hi).2 (λ hm=>by have:=(o8.lt i hi).1;have:=hTlt _ hm;omega)
 have own:∀ o:j00,j0v S.length (S14.set (S.length+1) o) fx A.1.1.1:=λ o=>by
  have:=o14.keep (S':=S14.set (S.length+1) o) λ i hi=>by
   have:=(o14.lt i hi).1
   rw [List.getElem?_set_ne (by omega)]
  exact this.imp id λ ⟨b,e1,e2,e3⟩=>⟨b,e1,by omega,e3⟩
 have fin:∀ u:Bool,u=(B.1.1 && C.1.1 && D.1.1)->∃ fa,vT [vA [vB u,.slice fx A.1.1.1.length A.1.1.1.length],vI 0]=vT [vA [vB V.1.1.1,.slice fa V.1.1.2.length V.1.1.2.length],vI V.1.2]/\Kp T S (S14.set (S.length+1) (j00.cells [vB u,.slice fx A.1.1.1.length A.1.1.1.length] 52 none))/\MS (S14.set (S.length+1) (j00.cells [vB u,.slice fx A.1.1.1.length A.1.1.1.length] 52 none)) b V.2 T/\j0v S.length (S14.set (S.length+1) (j00.cells [vB u,.slice fx A.1.1.1.length A.1.1.1.length] 52 none)) fa V.1.1.2:=λ u hu=>by
  have r14:=ends (j00.cells [vB u,.slice fx A.1.1.1.length A.1.1.1.length] 52 none) y14 kp14 h14
  rw [hVt,hu]
  rw [hu] at r14
  exact ⟨fx,rfl,r14.2.1,r14.2.2,own _⟩
 have rr:=λ u:Bool=>(ends (j00.cells [vB u,.slice fx A.1.1.1.length A.1.1.1.length] 52 none) y14 kp14 h14).1
 simp only [wps,y14,List.drop_succ_cons,List.drop_zero,List.drop_nil,λ u=>j6u (rr u),gcz,gcs]
 refine ⟨λ e1=>⟨λ e2=>fin _ (by rw [e1,e2]; rfl),λ e2=>fin _ (by rw [e1,e2]; rfl)⟩,λ e1=>fin _ (by rw [e1]; rfl)⟩
theorem zea {m:Mm} {p:Int} {l:List Ax} {inv:Bool} {s:Stp} {src dst tab:Int} (hs:zam p l s=0) (h1:m.hasN src (nV l+6)=true) (h2:m.hasN dst (nV l+6)=true) (h3:m.hasN tab (zcd p l inv s).length=true) :
 (ze2 m p l inv s src dst tab).1.2=0/\(ze2 m p l inv s src dst tab).1.1.2.length<=3/\(ze2 m p l inv s src dst tab).2.W.length=m.W.length /\
 (((ze2 m p l inv s src dst tab).1.1.1=false/\(ze2 m p l inv s src dst tab).1.1.2=[]/\(ze2 m p l inv s src dst tab).2.t=m.t+nV l+6) \/
  (ze2 m p l inv s src dst tab).2.t=m.t+6*nV l+12+2*(zcd p l inv s).length+(ze2 m p l inv s src dst tab).1.1.2.length):=by
 have hk:=zaq hs
 obtain ⟨kk,dd,inner,nn,mm,hS⟩:=zas hs
 have hnn:=hS.nn
 have hn1:=hS.n1
 have hV:=ze3 (inv:=inv) hs h1 h2 h3
 generalize ze2 m p l inv s src dst tab=V at hV ⊢
 have v0:∀ L:Mm,L.W.length=m.W.length->(z0h L p l inv s src dst tab).1.2=0:=λ L hL=>z0p hs (by rw [jr7 hL]; exact h1) (by rw [jr7 hL]; exact h2) (by rw [jr7 hL]; exact h3)
 rw [hnn] at hV h1 h2 ⊢
 obtain ⟨a1,a2,a3⟩:=z7u (n:=nn) hk (by omega) h1
 generalize z7o m p nn src=A at hV a1 a2 a3
 by_cases e:A.1.2≠0
 ·rw [if_pos e] at hV
  rw [hV]
  rcases a3 with a3 | a3
  ·exact absurd a3.1 e
  ·exact ⟨rfl,by simp,a1,.inl ⟨rfl,rfl,a3.2.1⟩⟩
 rw [if_neg e] at hV
 have a3:A.2.t=m.t+nn+6+A.1.1.1.length:=by
  rcases a3 with a3 | a3
  ·exact a3.2
  ·exact absurd (by rw [a3.1]; decide) e
 obtain ⟨b1,b2,b3⟩:=jup (m:=A.2) (l:=zcd p l inv s) (a:=tab) (by rw [jr7 a1]; exact h3)
 generalize (juh A.2 (zcd p l inv s) tab).2=L at hV b2 b3
 have bL:L.W.length=m.W.length:=b2.trans a1
 have v0:=v0 L bL
 have vt:(z0h L p l inv s src dst tab).2.t=L.t+3*nn+6/\(z0h L p l inv s src dst tab).2.W.length=L.W.length:=by
  rcases z0j (m:=L) (p:=p) (l:=l) (inv:=inv) (s:=s) (src:=src) (dst:=dst) (tab:=tab) with ⟨hf,_⟩ | hf
  ·exact absurd v0 hf
  ·exact ⟨by rw [hf.2.1,hnn],hf.2.2.1⟩
 generalize z0h L p l inv s src dst tab=P at hV v0 vt
 obtain ⟨vt1,vt2⟩:=vt
 have bP:P.2.W.length=m.W.length:=vt2.trans bL
 obtain ⟨s1,s2,s3⟩:=z9q (m:=P.2) (s:=A.1.1.2) hk (n:=nn) (a:=src) (by omega) (by rw [jr7 bP]; exact jr8 h1 ⟨by omega,by omega⟩)
 generalize z9m P.2 p nn src A.1.1.2=B at hV s2 s3
 have bB:B.2.W.length=m.W.length:=s2.trans bP
 obtain ⟨u1,u2,u3⟩:=jrk (m:=B.2) (l:=zcd p l inv s) (a:=tab) (by rw [jr7 bB]; exact h3)
 generalize jrg B.2 (zcd p l inv s) tab=C at hV u2 u3
 have bC:C.2.W.length=m.W.length:=u2.trans bB
 obtain ⟨d1,d2,d3⟩:=z9q (m:=C.2) (s:=P.1.1) hk (n:=nn) (a:=dst) (by omega) (by rw [jr7 bC]; exact jr8 h2 ⟨by omega,by omega⟩)
 generalize z9m C.2 p nn dst P.1.1=D at hV d2 d3
 rw [hV]
 refine ⟨rfl,a2,d2.trans bC,.inr ?_⟩
 dsimp only
 omega
theorem z6g {m:Mm} (h:m.L=[]) {d n:Nat} (hl:d+n<=m.W.length):m.rds (z6b (d:Int) n)=((m.W.drop d).take n,⟨m.W,[],m.t+n,m.ah⟩):=by
 have:=jdr (I:=m.W) (d:=d) (n:=n) hl
 rw [z54 _ _ h,z6d]
 exact Prod.ext this rfl
theorem zff {k d:Nat}:∀ (fx:List Fx) (W:List Int),(∀ f∈fx,0<=f.ad/\f.ad < k)->((zh9 W ((fx.map (Fx.up (d:Int))).map Fx.st)).drop d).take k=jwv ((W.drop d).take k) fx
 | [], W, _ => rfl
 | f :: fx, W, h => by
   have hf:=h f (by simp)
   have e1:zh9 W (((f :: fx).map (Fx.up (d:Int))).map Fx.st)=zh9 (W.set (f.ad+(d:Int)).toNat f.good) ((fx.map (Fx.up (d:Int))).map Fx.st):=rfl
   rw [e1,zff fx _ λ g hg=>h g (by simp [hg]),zfi,if_pos ⟨by omega,by omega⟩]
   show _=jwv (((W.drop d).take k).set f.ad.toNat f.good) fx
   rw [show (f.ad+(d:Int)).toNat-d=f.ad.toNat by omega]
theorem zfg {d:Nat} {l W:List Int} (h:d+l.length<=W.length):((zh9 W ((z6b (d:Int) l.length).zip l)).drop d).take l.length=l:=by
 have hz:(z6b (d:Int) l.length).zip l=((List.range l.length).zip l).map (shf (d:Int)):=zi1 _ _ _
 have hfst:((List.range l.length).zip l).map (·.1)=List.range l.length:=by rw [List.map_fst_zip]; simp
 rw [hz,zhg _ _ h (λ e he=>List.mem_range.1 (List.of_mem_zip he).1)]
 apply List.ext_getElem?
 intro i
 by_cases hi:i < l.length
 ·have hm:(i,l[i])∈(List.range l.length).zip l:=by
   refine List.mem_iff_getElem.2 ⟨i,by simp;exact hi,by simp⟩
  have:=z7d ((List.range l.length).zip l) ((W.drop d).take l.length) (by rw [hfst]; exact List.nodup_range) _ hm (by simp;omega)
  rw [this,List.getElem?_eq_getElem hi]
 ·rw [List.getElem?_eq_none (by rw [z7h]; simp;omega),List.getElem?_eq_none (by omega)]
theorem zhf {d n:Nat} {l:List (Int×Int)} {W:List Int} (h:∀ e∈l,(d:Int)<=e.1/\e.1 < (d:Int)+n) {i:Nat} (hi:i < d\/d+n<=i):(zh9 W l)[i]? = W[i]?:=
 zhe l W i λ e he=>by have:=h e he;omega
theorem zfh {W V:List Int} {d n:Nat} (h:∀ i,d<=i->i < d+n->W[i]? = V[i]?):(W.drop d).take n=(V.drop d).take n:=by
 apply List.ext_getElem?
 intro i
 rw [List.getElem?_take,List.getElem?_take]
 split
 ·rename_i hi
  rw [List.getElem?_drop,List.getElem?_drop]
  exact h _ (by omega) (by omega)
 ·rfl
theorem z7s {m:Mm} (hL:m.L=[]) {p:Int} {n d:Nat} {good:List Int} {fx:List Fx} (hk:jt3 p=true) (hn:1<=n/\n<=4096) (hl:d+n+6<=m.W.length) (hw:∀ y∈m.W,0<=y) (hf:jcg p ((m.W.drop d).take (n+6))=((good,fx),0)) :
 (z7o m p n d).1=((fx.map (Fx.up d),(good.getD n 0,good.getD (n+3) 0)),0)/\(z7o m p n d).2.L=[]/\(z7o m p n d).2.W.length=m.W.length/\((z7o m p n d).2.W.drop d).take (n+6)=good/\∀ i,(i < d\/d+n+6<=i)->(z7o m p n d).2.W[i]? = m.W[i]?:=by
 have hN:m.hasN (d:Int) ((n:Int)+6)=true:=by unfold Mm.hasN;apply decide_eq_true;omega
 obtain ⟨x,_,g1,g2,g3,g4,g5,g6,g7,g8⟩:=jcl (λ y hy=>hw y (List.mem_of_mem_drop (List.mem_of_mem_take hy))) hf
 have hcl:((m.W.drop d).take (n+6)).length=n+6:=by simp;omega
 unfold z7o
 rw [if_neg (by rw [hk]; simp),if_neg (by rw [hN]; simp;omega)]
 dsimp only
 rw [Int.toNat_natCast,z6g hL (by omega)]
 dsimp only
 rw [hf,if_neg (by simp)]
 dsimp only
 rw [zh5 _ _ rfl]
 refine ⟨rfl,rfl,zhd _ _,?_,λ i hi=>?_⟩
 ·dsimp only
  rw [zff fx m.W λ f hf=>by have:=g7 f hf;omega]
  exact g8
 ·dsimp only
  refine zhf (n:=n+6) (λ e he=>?_) (by omega)
  obtain ⟨f,hf1,rfl⟩:=List.mem_map.1 he
  obtain ⟨f',hf2,rfl⟩:=List.mem_map.1 hf1
  have:=g7 f' hf2
  show (d:Int)<=f'.ad+d/\f'.ad+d < _
  omega
theorem jum {m:Mm} (hL:m.L=[]) {l:List Int} {d:Nat} (hl:d+l.length<=m.W.length):(juh m l d).2.L=[]/\(juh m l d).2.W.length=m.W.length/\((juh m l d).2.W.drop d).take l.length=l/\∀ i,(i < d\/d+l.length<=i)->(juh m l d).2.W[i]? = m.W[i]?:=by
 have hN:m.hasN (d:Int) (l.length:Int)=true:=by unfold Mm.hasN;apply decide_eq_true;omega
 unfold juh
 rw [if_pos hN]
 dsimp only
 rw [zh5 _ _ hL]
 refine ⟨rfl,zhd _ _,zfg hl,λ i hi=>?_⟩
 dsimp only
 refine zhf (n:=l.length) (λ e he=>?_) hi
 obtain ⟨j,hj,hx⟩:=List.mem_map.1 (List.of_mem_zip he).1
 have:=List.mem_range.1 hj
 rw [<- hx]; omega
theorem z0l {m:Mm} (hL:m.L=[]) {p:Int} {l:List Ax} {inv:Bool} {s:Stp} {src dst tab:Int}:(z0h m p l inv s src dst tab).2.L=[]:=by
 unfold z0h
 split
 ·rename_i hs
  split
  ·dsimp only
   obtain ⟨k,dd,inner,nn,mm,hS⟩:=zas hs
   obtain ⟨gf1,_⟩:=jqt hS
   obtain ⟨L,a1,a2,a3,a4⟩:=zb0 (inv:=inv) (src:=src) (dst:=dst) (tab:=tab) (zaq hs) (jqs l s) (m,List.replicate (nV l).toNat 0) gf1 hL
   have a4:(z0a p inv s.tw src dst tab m (nV l).toNat (jqs l s)).1.L=[]:=a4
   rw [zh5 _ _ a4]
  ·exact hL
 ·exact hL
theorem j2b {p:Int} (hk:jt3 p=true) {x:List Int} (hx:∀ y∈x,inP p y) (hl:x.length<=4096):j2a p (zbu p x) x=true:=by
 unfold j2a
 rw [hk,decide_eq_true hl,decide_eq_true (show ∀ y∈x,y < p from λ y hy=>(hx y hy).2)]
 simp
theorem ze9 {m:Mm} (hL:m.L=[]) {p:Int} {l:List Ax} {inv:Bool} {s:Stp} {sr d tb n:Nat} {good:List Int} {fx:List Fx} {x:List Int} (hst:zam p l s=0) (hn:nV l=(n:Int)) (hw:∀ y∈m.W,0<=y)
 (h1:sr+n+6<=m.W.length) (h2:d+n+6<=m.W.length) (h3:tb+(zcd p l inv s).length<=m.W.length)
 (hd:d+n+6<=sr\/sr+n+6<=d) (ht:d+n+6<=tb\/tb+(zcd p l inv s).length<=d) (hs:sr+n+6<=tb\/tb+(zcd p l inv s).length<=sr)
 (hf:jcg p ((m.W.drop sr).take (n+6))=((good,fx),0)) (hx:good=x++sx (zbu p x)) (hxi:∀ y∈x,inP p y) (hxl:x.length=n) :
 (ze2 m p l inv s sr d tb).1=((true,fx.map (Fx.up sr)),0)/\(ze2 m p l inv s sr d tb).2.L=[]/\(ze2 m p l inv s sr d tb).2.W.length=m.W.length /\
 ((ze2 m p l inv s sr d tb).2.W.drop d).take (n+6)=doG p inv s.tw n (jqs l s) (zcd p l inv s) x++z97 (zbu p (doG p inv s.tw n (jqs l s) (zcd p l inv s) x)):=by
 have hk:=zaq hst
 obtain ⟨kk,dd,inner,nn,mm,hS⟩:=zas hst
 have hnn:=hS.nn
 have hn1:=hS.n1
 obtain rfl:nn=n:=by omega
 have hN:∀ (m':Mm) (a k:Nat),m'.W.length=m.W.length->a+k<=m.W.length->m'.hasN (a:Int) (k:Int)=true:=λ m' a k e h=>by unfold Mm.hasN;apply decide_eq_true;omega
 have c1:m.hasN sr (nV l+6)=true:=by rw [hn]; exact hN m sr (nn+6) rfl (by omega)
 have c2:m.hasN d (nV l+6)=true:=by rw [hn]; exact hN m d (nn+6) rfl (by omega)
 have c3:m.hasN tb (zcd p l inv s).length=true:=hN m tb _ rfl (by omega)
 have hV:=ze3 (inv:=inv) hst c1 c2 c3
 generalize ze2 m p l inv s sr d tb=V at hV ⊢
 rw [hn] at hV
 obtain ⟨a1,a2,a3,a4,a5⟩:=z7s hL hk (by omega) h1 hw hf
 generalize z7o m p nn sr=A at hV a1 a2 a3 a4 a5
 rw [a1] at hV
 dsimp only at hV
 rw [if_neg (by simp)] at hV
 obtain ⟨q1,q2⟩:=zc8 (zbu p x) x
 rw [hxl] at q1 q2
 rw [hx,q1,q2] at hV
 obtain ⟨b1,b2,b3,b4⟩:=jum a2 (l:=zcd p l inv s) (d:=tb) (by omega)
 generalize (juh A.2 (zcd p l inv s) tb).2=L at hV b1 b2 b3 b4
 have bL:L.W.length=m.W.length:=b2.trans a3
 have wx:(L.W.drop sr).take (nn+6)=x++sx (zbu p x):=by
  rw [<- hx,<- a4]
  exact zfh λ i hi1 hi2=>b4 i (by omega)
 have wx1:(L.W.drop sr).take nn=x:=by
  have : (L.W.drop sr).take nn=((L.W.drop sr).take (nn+6)).take nn:=by rw [List.take_take]; congr 1;omega
  rw [this,wx,<- hxl,List.take_left]
 obtain ⟨p1,p2⟩:=z0d b1 hst hn (by omega) (by omega) (by omega) wx1 hxi b3 hd ht
 obtain ⟨w,d',e1,e2,_,_,w1,_,_,_,w2,_⟩:=z0k b1 (p:=p) (l:=l) (inv:=inv) (s:=s) (src:=(sr:Int)) (dst:=(d:Int)) (tab:=(tb:Int)) (by rw [p1])
 obtain rfl:w=nn:=by omega
 obtain rfl:d'=d:=by omega
 have pL:=z0l b1 (p:=p) (l:=l) (inv:=inv) (s:=s) (src:=(sr:Int)) (dst:=(d':Int)) (tab:=(tb:Int))
 generalize hyd:doG p inv s.tw w (jqs l s) (zcd p l inv s) x=y at p1 p2 ⊢
 have hyi:∀ v∈y,inP p v:=by rw [<- hyd]; exact ja2 hk
 have hyl:y.length=w:=by rw [<- hyd]; exact ja3 ..
 generalize z0h L p l inv s sr d' tb=P at hV p1 p2 w1 w2 pL
 rw [p1] at hV
 dsimp only at hV
 have bP:P.2.W.length=m.W.length:=w1.trans bL
 have s1:z9m P.2 p w sr (zbu p x)=((true,0),⟨P.2.W,[],P.2.t+w,P.2.ah⟩):=by
  unfold z9m
  rw [if_neg (by rw [hk]; simp),if_neg (by rw [hN P.2 sr w bP (by omega)]; simp;omega),Int.toNat_natCast,z6g pL (by omega)]
  have : (P.2.W.drop sr).take w=x:=by rw [<- wx1]; exact zfh λ i hi1 hi2=>w2 i (by omega)
  rw [this,j2b hk hxi (by omega)]
 have hs1:z9m P.2 p w sr ((zbu p x).1,(zbu p x).2)=((true,0),⟨P.2.W,[],P.2.t+w,P.2.ah⟩):=s1
 rw [hs1] at hV
 dsimp only at hV
 have u1:jrg ⟨P.2.W,[],P.2.t+w,P.2.ah⟩ (zcd p l inv s) tb=((true,0),⟨P.2.W,[],P.2.t+w+(zcd p l inv s).length,P.2.ah⟩):=by
  unfold jrg
  rw [if_pos (hN ⟨P.2.W,[],P.2.t+w,P.2.ah⟩ tb (zcd p l inv s).length bP (by omega)),z6g rfl (by dsimp only;omega)]
  have : (P.2.W.drop tb).take (zcd p l inv s).length=zcd p l inv s:=(zfh λ i hi1 hi2=>w2 i (by omega)).trans b3
  dsimp only
  rw [this]
  simp
 rw [u1] at hV
 dsimp only at hV
 have d1:z9m ⟨P.2.W,[],P.2.t+w+(zcd p l inv s).length,P.2.ah⟩ p w d' (zbu p y)=((true,0),⟨P.2.W,[],P.2.t+w+(zcd p l inv s).length+w,P.2.ah⟩):=by
  unfold z9m
  rw [if_neg (by rw [hk]; simp),if_neg (by rw [hN ⟨P.2.W,[],P.2.t+w+(zcd p l inv s).length,P.2.ah⟩ d' w bP (by omega)]; simp;omega),Int.toNat_natCast,z6g rfl (by dsimp only;omega)]
  have : (P.2.W.drop d').take w=y:=by
   have : (P.2.W.drop d').take w=((P.2.W.drop d').take (w+6)).take w:=by rw [List.take_take]; congr 1;omega
   rw [this,p2,<- hyl,List.take_left]
  dsimp only
  rw [this,j2b hk hyi (by omega)]
 rw [d1] at hV
 rw [hV]
 exact ⟨rfl,rfl,bP,p2⟩
theorem jvn:nV [⟨2,false⟩]=((2:Nat):Int):=by decide +kernel
theorem jvm:doG P1 false false 2 (jqs [⟨2,false⟩] ⟨0,false,⟨2,1,1⟩⟩) (zcd P1 [⟨2,false⟩] false ⟨0,false,⟨2,1,1⟩⟩) [3,5]=[8,998244351]:=by
 rw [jvq,jvp]
 unfold doG
 simp only [List.flatMap_cons,List.flatMap_nil,List.append_nil]
 unfold jep
 simp only [List.map_cons,List.map_nil,List.getD_cons_zero,List.getD_cons_succ]
 rw [jvo]
 decide +kernel
set_option maxHeartbeats 2000000 in
theorem jzv {S:St} {b:Nat} {m:Mm} {T:List Nat} (h:MS S b m T) {p a:Int} {n:Nat} (hk:jt3 p=true) (hn:1<=n/\n<=4096) (hN:m.hasN a ((n:Int)+6)=true) (ht:0<=m.t/\m.t < 576460752303423488) :
 WP (jpy [.pointer (some ⟨b,0,none⟩),vU p,vN n,vI a]) S λ v S'=>∃ ya fa,v=vT [.slice ya (jzo m p n a).1.1.1.length (jzo m p n a).1.1.1.length,vA [vB (jzo m p n a).1.1.2.1,.slice fa (jzo m p n a).1.1.2.2.length (jzo m p n a).1.1.2.2.length],vI (jzo m p n a).1.2]/\Kp T S S'/\MS S' b (jzo m p n a).2 T/\Ar S' ya (jzo m p n a).1.1.1.length 1 eU (jzo m p n a).1.1.1/\j0v S.length S' fa (jzo m p n a).1.1.2.2/\∀ y,ya=some y->S.length<=y.block:=by
 rw [jpz]
 have hw:=h.w
 have hTlt:=h.lt
 have p0:=List.prefix_append S [j00.cells [vB false,.slice none 0 0] 52 none]
 have y0:=jek (S:=S) (o:=j00.cells [vB false,.slice none 0 0] 52 none)
 have n0:S.length∉T:=λ hx=>by have:=hTlt _ hx;omega
 have ends:∀ {S':St} {m':Mm} (o:j00),S'[S.length]? = some (j00.cells [vB false,.slice none 0 0] 52 none)->Kp T S S'->MS S' b m' T->(S'.set S.length o)[S.length]? = some o/\Kp T S (S'.set S.length o)/\MS (S'.set S.length o) b m' T:=fun {S' m'} o z k hm=>by
  have hl:=z1y z
  refine ⟨List.getElem?_set_self hl,⟨by rw [List.length_set]; exact k.len,λ i hi hn=>by rw [List.getElem?_set_ne (by omega),k.keep i hi hn]⟩,hm.kp (M:=[S.length]) ⟨by simp,λ i hi hn=>by rw [List.getElem?_set_ne]; rintro rfl;simp at hn⟩ (λ i hi=>by have:=hTlt i hi;simp;omega)⟩
 obtain ⟨a1,a2,a3⟩:=z7u hk hn hN
 simp only [wps]
 have hYl:(S++[j00.cells [vB false,.slice none 0 0] 52 none]).length=S.length+1:=by simp
 generalize S++[j00.cells [vB false,.slice none 0 0] 52 none]=Y at p0 y0 hYl ⊢
 have hO:jzo m p n a=if (z7o m p n a).1.2=10 then ((([],(false,[])),0),(z7o m p n a).2) else if (z7o m p n a).1.2≠0 then ((([],(false,[])),(z7o m p n a).1.2),(z7o m p n a).2) else
  if j2a p (z7o m p n a).1.1.2 ((z7o m p n a).2.rds (z6b a n)).1=true then (((((z7o m p n a).2.rds (z6b a n)).1,(true,(z7o m p n a).1.1.1)),0),((z7o m p n a).2.rds (z6b a n)).2)
  else ((([],(false,(z7o m p n a).1.1.1)),0),((z7o m p n a).2.rds (z6b a n)).2):=by
  unfold jzo
  rw [Int.toNat_natCast]
 generalize jzo m p n a=O at hO ⊢
 refine (z7v (p:=p) (n:=(n:Int)) (a:=a) (h.pre p0) (by omega)).mono ?_
 rintro _ S1 ⟨fx,rfl,k1,h1,o1⟩
 generalize z7o m p n a=A at hO a1 a2 a3 h1 o1 ⊢
 have kp1:=(Kp.of p0).trans k1
 have y1:=k1.get y0 n0
 simp only [wps]
 have q2:=List.prefix_append S1 [j00.cells [vU A.1.1.2.1,vU A.1.1.2.2] 40 none]
 have z2:=jek (S:=S1) (o:=j00.cells [vU A.1.1.2.1,vU A.1.1.2.2] 40 none)
 have z2n:S1.length∉T:=λ hx=>by have:=hTlt _ hx;have:=kp1.len;omega
 have l1:=kp1.len
 generalize S1++[j00.cells [vU A.1.1.2.1,vU A.1.1.2.2] 40 none]=S2 at q2 z2 ⊢
 have kp2:=kp1.more q2
 have y2:=z1w q2 y1
 have h2:=h1.pre q2
 have o2:=o1.pre q2
 refine ⟨λ e=>?_,λ e=>?_⟩
 ·rw [if_neg (by rw [e]; decide),if_neg (λ h=>h e)] at hO
  have a3:A.2.t=m.t+n+6+A.1.1.1.length:=by
   rcases a3 with a3 | a3
   ·exact a3.2
   ·rw [e] at a3;exact absurd a3.1 (by decide)
  have hin:=jr6 hN
  refine (z6i h2 (a:=a) (k:=n) ⟨hin.1,by rw [a1]; omega⟩ ⟨by omega,by omega⟩).mono ?_
  rintro _ S3 ⟨rfl,k3,h3,hb⟩
  have rl:=(Mm.rds_len (z6b a n) A.2).2.1
  rw [z6d] at rl
  have hr:Ar S3 (some ⟨S2.length+1,0,none⟩) n 1 eU (A.2.rds (z6b a n)).1:=by
   have:=Ar.blk (w:=1) hb (λ _ _=>rfl) rfl
   rwa [rl] at this
  have hu:∀ y∈(A.2.rds (z6b a n)).1,inU y:=λ y hy=>by
   have:=(h1.ok.rds (z6b a n)).2 y hy
   exact ⟨this.1,by have:=this.2;omega⟩
  generalize A.2.rds (z6b a n)=R at hO h3 hb rl hr hu
  have kp3:=kp2.trans k3
  have y3:=k3.get y2 n0
  have z3:=k3.get z2 z2n
  have o3:j0v Y.length S3 fx A.1.1.1:=o2.keep λ i hi=>k3.keep i (o2.lt i hi).2 (λ hm=>by have:=(o2.lt i hi).1;have:=hTlt _ hm;omega)
  simp only [wps,j6u z3,gcz,gcs]
  refine (j2c (c:=n) (s:=A.1.1.2) hk hr hn.2 hu).use ?_
  rintro _ S4 k4 rfl
  have y4:=z1w k4 y3
  have h4:=h3.pre k4
  have kp4:=kp3.more k4
  have o4:=o3.pre k4
  have rr:=λ u:Bool=>ends (j00.cells [vB u,.slice fx A.1.1.1.length A.1.1.1.length] 52 none) y4 kp4 h4
  have own:∀ o:j00,j0v S.length (S4.set S.length o) fx A.1.1.1:=λ o=>by
   have:=o4.keep (S':=S4.set S.length o) λ i hi=>by
    have:=(o4.lt i hi).1
    rw [List.getElem?_set_ne (by omega)]
   exact this.imp id λ ⟨b,e1,e2,e3⟩=>⟨b,e1,by omega,e3⟩
  simp only [wps,y4,List.drop_succ_cons,List.drop_zero,List.drop_nil,λ u=>j6u (rr u).1,gcz,gcs]
  refine ⟨λ e2=>?_,λ e2=>?_⟩
  ·rw [if_neg (by rw [e2]; simp)] at hO
   rw [hO]
   exact ⟨none,fx,rfl,(rr false).2.1,(rr false).2.2,.nil,own _,λ y e=>by cases e⟩
  ·rw [if_pos e2] at hO
   rw [hO,<- rl]
   have hS2:=q2.length_le
   refine ⟨some ⟨S2.length+1,0,none⟩,fx,rfl,(rr true).2.1,(rr true).2.2,?_,own _,λ y e=>by cases e;dsimp only;omega⟩
   rw [rl]
   exact (hr.mono k4).keepL λ y hy=>by
    injection hy with hy;subst hy
    rw [List.getElem?_set_ne (by dsimp only;omega)]
 ·rcases a3 with a3 | ⟨e10,a4,a5⟩
  ·exact absurd a3.1 e
  rw [if_pos e10] at hO
  have r2:=ends (j00.cells [vB false,.slice none 0 0] 52 none) y2 kp2 h2
  simp only [wps,e10,y2,List.drop_succ_cons,List.drop_zero,List.drop_nil,j6u r2.1,gcz,gcs]
  rw [hO]
  exact ⟨none,none,rfl,r2.2.1,r2.2.2,.nil,.inl ⟨rfl,rfl⟩,λ y e=>by cases e⟩
theorem jzt {m:Mm} {p a:Int} {n:Nat} (hk:jt3 p=true) (hn:1<=n/\n<=4096) (hN:m.hasN a ((n:Int)+6)=true):m.t<=(jzo m p n a).2.t/\(jzo m p n a).2.t<=m.t+2*n+9/\(jzo m p n a).2.ah=m.ah:=by
 obtain ⟨a1,a2,a3⟩:=z7u hk hn hN
 have ah:(z7o m p n a).2.ah=m.ah:=by
  unfold z7o
  dsimp only
  repeat' split
  all_goals first | rfl | exact (Mm.rds_len _ _).2.2.2 | exact ((Mm.wrs_len _ _).2.2).trans (Mm.rds_len _ _).2.2.2
 have ht:m.t+n+6<=(z7o m p n a).2.t/\(z7o m p n a).2.t<=m.t+n+9:=by
  rcases a3 with a3 | a3 <;> omega
 obtain ⟨g1,g2,g3,g4⟩:=Mm.rds_len (z6b a n) (z7o m p n a).2
 rw [z6d] at g3
 unfold jzo
 rw [Int.toNat_natCast]
 dsimp only
 repeat' split
 all_goals dsimp only
 all_goals first | exact ⟨by omega,by omega,ah⟩ | exact ⟨by omega,by omega,g4.trans ah⟩
theorem z0m {m:Mm} {p:Int} {l:List Ax} {inv:Bool} {s:Stp} {src dst tab:Int}:(z0h m p l inv s src dst tab).2.ah=m.ah:=by
 unfold z0h
 split
 ·rename_i hs
  split
  ·dsimp only
   obtain ⟨k,dd,inner,nn,mm,hS⟩:=zas hs
   obtain ⟨gf1,_⟩:=jqt hS
   rw [(Mm.wrs_len _ _).2.2]
   exact (z0c (inv:=inv) (src:=src) (dst:=dst) (tab:=tab) (m:=m) (n:=0) (zaq hs) (jqs l s) (m,List.replicate (nV l).toNat 0) gf1).2.2.1
  ·rfl
 ·rfl
theorem z7p (m:Mm) (p n a:Int):(z7o m p n a).2.ah=m.ah:=by
 unfold z7o
 dsimp only
 repeat' split
 all_goals first | rfl | exact (Mm.rds_len _ _).2.2.2 | exact ((Mm.wrs_len _ _).2.2).trans (Mm.rds_len _ _).2.2.2
theorem jui (m:Mm) (l:List Int) (a:Int):(juh m l a).2.ah=m.ah:=by
 unfold juh
 split
 ·exact (Mm.wrs_len _ _).2.2
 ·rfl
theorem z9n (m:Mm) (p n a:Int) (s:Int×Int):(z9m m p n a s).2.ah=m.ah:=by
 unfold z9m
 repeat' split
 all_goals first | rfl | exact (Mm.rds_len _ _).2.2.2
theorem jrh (m:Mm) (l:List Int) (a:Int):(jrg m l a).2.ah=m.ah:=by
 unfold jrg
 split
 ·exact (Mm.rds_len _ _).2.2.2
 ·rfl
theorem ze4 (m:Mm) (p:Int) (l:List Ax) (inv:Bool) (s:Stp) (src dst tab:Int):(ze2 m p l inv s src dst tab).2.ah=m.ah:=by
 unfold ze2
 dsimp only
 repeat' split
 all_goals first | rfl | exact z7p _ _ _ _ | (dsimp only;rw [z9n,jrh,z9n,z0m,jui,z7p])
theorem jbh (l:List Ev):(l.flatMap Ev.cells).length=l.length*6:=jcv (e:=Ev.cells) (w:=6) (λ _=>rfl) l
theorem jbg:∀ (l:List Ev) (i j:Nat) (hi:i < l.length) (v:Value),l[i].cells[j]? = some v->(l.flatMap Ev.cells)[i*6+j]? = some v
 | [], i, j, hi, v, h => by simp at hi
 | x :: l, 0, j, hi, v, h => by
   have hj:j < x.cells.length:=by
    rcases Nat.lt_or_ge j x.cells.length with h' | h'
    ·exact h'
    ·simp at h;rw [List.getElem?_eq_none h'] at h;cases h
   rw [List.flatMap_cons,Nat.zero_mul,Nat.zero_add,List.getElem?_append_left hj]; exact h
 | x :: l, i + 1, j, hi, v, h => by
   have : x.cells.length=6:=rfl
   rw [List.flatMap_cons,List.getElem?_append_right (by omega),this,show (i+1)*6+j-6=i*6+j by omega]
   exact jbg l i j (by simpa using hi) v (by simpa using h)
theorem jbi:∀ (l:List Ev) (i:Nat) (x:Ev),i < l.length->splice (l.flatMap Ev.cells) (i*6) x.cells=(l.set i x).flatMap Ev.cells
 | [], i, x, h => by simp at h
 | y :: l, 0, x, h => by
   rw [List.set_cons_zero,List.flatMap_cons,List.flatMap_cons,Nat.zero_mul]
   unfold splice
   have : x.cells.length=y.cells.length:=rfl
   simp [this]
 | y :: l, i + 1, x, h => by
   have ih:=jbi l i x (by simpa using h)
   rw [List.set_cons_succ,List.flatMap_cons,List.flatMap_cons,<- ih]
   have h6:y.cells.length=6:=rfl
   unfold splice
   rw [show (i+1)*6=6+i*6 by omega,show 6=y.cells.length from rfl,List.take_length_add_append,Nat.add_assoc,List.drop_length_add_append]
   simp
structure Od (S:St) (b:Nat) (t:TypeId) (g:Option Nat) (l:List Ev) (S':St):Prop where
 len:S.length<=S'.length
 keep:∀ i,i < S.length->i≠b->S'[i]? = S[i]?
 at_:S'[b]? = some (.cells (l.flatMap Ev.cells) t g)
section
variable {S S1 S2:St} {b:Nat} {t:TypeId} {g:Option Nat} {l l':List Ev}
theorem Od.refl (h:S[b]? = some (.cells (l.flatMap Ev.cells) t g)):Od S b t g l S:=⟨Nat.le_refl _,λ _ _ _=>rfl,h⟩
theorem Od.more (h:Od S b t g l S1) (hs:S1 <+: S2):Od S b t g l S2:=
 ⟨Nat.le_trans h.len hs.length_le,λ i hi hne=>by rw [z1u hs (Nat.lt_of_lt_of_le hi h.len),h.keep i hi hne],z1w hs h.at_⟩
theorem Od.ev (h:Od S b t g l S1) {i:Nat} (hi:i < l.length):S1.cell ⟨b,i*6,none⟩=some (vI l[i].it)/\S1.cell ⟨b,i*6+1,none⟩=some (vI l[i].tr)/\S1.cell ⟨b,i*6+2,none⟩=some (vI l[i].wi) /\
 S1.cell ⟨b,i*6+3,none⟩=some (vI l[i].ti)/\S1.cell ⟨b,i*6+4,none⟩=some (vI l[i].ad)/\S1.cell ⟨b,i*6+5,none⟩=some (vU l[i].ma):=by
 have k:=j6u h.at_
 refine ⟨?_,?_,?_,?_,?_,?_⟩ <;> rw [k]
 ·exact jbg l i 0 hi _ rfl
 ·exact jbg l i 1 hi _ rfl
 ·exact jbg l i 2 hi _ rfl
 ·exact jbg l i 3 hi _ rfl
 ·exact jbg l i 4 hi _ rfl
 ·exact jbg l i 5 hi _ rfl
theorem Od.put (h:Od S b t g l S1) {i:Nat} (hi:i < l.length) (x:Ev):Od S b t g (l.set i x) (S1.set b (.cells (splice (l.flatMap Ev.cells) (i*6) x.cells) t g)):=
 ⟨by rw [List.length_set]; exact h.len,λ j hj hne=>by rw [List.getElem?_set_ne (λ e=>hne e.symm),h.keep j hj hne],by rw [List.getElem?_set_self (z1y h.at_),jbi l i x hi]⟩
def zc5 (l:List Ev) (i j:Nat) (hi:i < l.length) (hj:j < l.length):List Ev:=(l.set i l[j]).set j l[i]
end
theorem sw1 {S0 S:St} {b:Nat} {t:TypeId} {g:Option Nat} {L:List Ev} {i j:Nat} (h:Od S0 b t g L S) (hi:i < L.length) (hj:j < L.length) :
 i*6+(1+1+1+1+1+1)<=(L.flatMap Ev.cells).length/\(List.set S b (j00.cells (splice (L.flatMap Ev.cells) (i*6) [vI L[j].it,vI L[j].tr,vI L[j].wi,vI L[j].ti,vI L[j].ad,vU L[j].ma]) t g))[b]? = some (.cells ((L.set i L[j]).flatMap Ev.cells) t g) /\
  j*6+(1+1+1+1+1+1)<=((L.set i L[j]).flatMap Ev.cells).length /\
  Od S0 b t g (zc5 L i j hi hj) (List.set (List.set S b (j00.cells (splice (L.flatMap Ev.cells) (i*6) [vI L[j].it,vI L[j].tr,vI L[j].wi,vI L[j].ti,vI L[j].ad,vU L[j].ma]) t g)) b
   (j00.cells (splice ((L.set i L[j]).flatMap Ev.cells) (j*6) [vI L[i].it,vI L[i].tr,vI L[i].wi,vI L[i].ti,vI L[i].ad,vU L[i].ma]) t g)):=by
 have h1:=h.put hi L[j]
 have h2:=h1.put (i:=j) (by simpa using hj) L[i]
 exact ⟨by rw [jbh]; omega,h1.at_,by rw [jbh,List.length_set]; omega,h2⟩
theorem zc6 {p q s:List Ev} {x y:Ev} {i j:Nat} (hi:i=p.length) (hj:j=p.length+1+q.length) (h1:i < (p++x :: (q++y :: s)).length) (h2:j < (p++x :: (q++y :: s)).length) :
 zc5 (p++x :: (q++y :: s)) i j h1 h2=p++y :: (q++x :: s):=by
 subst hi hj
 unfold zc5
 have e1:(p++x :: (q++y :: s))[p.length]'h1=x:=by simp
 have e2:(p++x :: (q++y :: s))[p.length+1+q.length]'h2=y:=by
  rw [List.getElem_append_right (by omega)]
  simp [show p.length+1+q.length-p.length=q.length+1 by omega]
 rw [e1,e2,List.set_append_right _ _ (by omega),Nat.sub_self,List.set_cons_zero,List.set_append_right _ _ (by omega),show p.length+1+q.length-p.length=q.length+1 by omega,List.set_cons_succ,List.set_append_right _ _ (by omega),Nat.sub_self,List.set_cons_zero]
theorem zby {S0 S:St} {b n c i j:Nat} {t:TypeId} {g:Option Nat} {cmp:Value}:∀ {p x q y s:List Ev},x.length=y.length->p.length=i->(p++(x++q)).length=j->(p++(x++(q++(y++s)))).length=n->n<=1000000 ->
 Od S0 b t g (p++(x++(q++(y++s)))) S ->
 WP (jny [.slice (some ⟨b,0,none⟩) n c,vI i,vI j,vI x.length,cmp]) S λ v S'=>v=vT []/\Od S0 b t g (p++(y++(q++(x++s)))) S':=by
 intro p x q y s hxy hi hj hn hbig h
 rw [jnz]
 simp only [wps]
 have hL:∀ k,k<=x.length->(p++(y.take k++x.drop k++(q++(x.take k++y.drop k++s)))).length=n:=by
  intro k hk
  rw [<- hn]
  simp [List.length_append,List.length_take,List.length_drop,hxy]; omega
 refine zgd (λ st S' m=>∃ k:Nat,st=[vI k]/\k<=x.length/\m=x.length-k/\Od S0 b t g (p++(y.take k++x.drop k++(q++(x.take k++y.drop k++s)))) S') ?_ x.length _ _
  ⟨0,rfl,by omega,by omega,by simpa using h⟩
 rintro st S' m ⟨k,rfl,hk,rfl,ho⟩
 simp only [wps]
 refine ⟨λ h3=>?_,λ h3=>?_⟩
 ·have hk':k < x.length:=by omega
  have hLk:=hL k (by omega)
  have e1:wI ((j:Int)+(k:Int))=((j+k:Nat):Int):=by rw [wI_ (by omega) (by simp at hj hn;omega)]; omega
  have e2:wI ((i:Int)+(k:Int))=((i+k:Nat):Int):=by rw [wI_ (by omega) (by simp at hj hn;omega)]; omega
  have hjk:j+k < (p++(y.take k++x.drop k++(q++(x.take k++y.drop k++s)))).length:=by rw [hLk]; simp at hj hn;omega
  have hik:i+k < (p++(y.take k++x.drop k++(q++(x.take k++y.drop k++s)))).length:=by rw [hLk]; simp at hj hn;omega
  obtain ⟨c0,c1,c2,c3,c4,c5⟩:=ho.ev hjk
  obtain ⟨d0,d1,d2,d3,d4,d5⟩:=ho.ev hik
  have gj:((j+k:Nat):Int) < (n:Int):=by rw [hLk] at hjk;omega
  have gi:((i+k:Nat):Int) < (n:Int):=by rw [hLk] at hik;omega
  simp only [e1,e2,wps,c0,c1,c2,c3,c4,c5,d0,d1,d2,d3,d4,d5,ho.at_,gj,gi]
  obtain ⟨w1,w2,w3,h9⟩:=sw1 ho hik hjk
  refine ⟨w1,_,_,_,w2,w3,?_⟩
  rw [wI_ (n:=(k:Int)+1) (by omega) (by omega)]
  refine ⟨x.length-(k+1),by omega,k+1,rfl,by omega,rfl,?_⟩
  have ky:k < y.length:=by omega
  have E:p++(y.take k++x.drop k++(q++(x.take k++y.drop k++s)))=(p++y.take k)++x[k] :: ((x.drop (k+1)++(q++x.take k))++y[k] :: (y.drop (k+1)++s)):=by
   rw [List.drop_eq_getElem_cons hk',List.drop_eq_getElem_cons ky]; simp only [List.append_assoc,List.cons_append]
  have E2:p++(y.take (k+1)++x.drop (k+1)++(q++(x.take (k+1)++y.drop (k+1)++s)))=(p++y.take k)++y[k] :: ((x.drop (k+1)++(q++x.take k))++x[k] :: (y.drop (k+1)++s)):=by
   rw [zcr hk',zcr ky]; simp only [List.append_assoc,List.cons_append,List.nil_append]
  rw [E2]
  have hsw:∀ (L:List Ev) (hL:L=(p++y.take k)++x[k] :: ((x.drop (k+1)++(q++x.take k))++y[k] :: (y.drop (k+1)++s))) (h1:i+k < L.length) (h2:j+k < L.length),
   zc5 L (i+k) (j+k) h1 h2=(p++y.take k)++y[k] :: ((x.drop (k+1)++(q++x.take k))++x[k] :: (y.drop (k+1)++s)):=by
   intro L hL h1 h2
   subst hL
   refine zc6 ?_ ?_ _ _
   ·simp;omega
   ·simp at hj ⊢; omega
  rw [hsw _ E] at h9
  exact h9
 ·have : k=x.length:=by omega
  subst this
  simp only [List.take_of_length_le (Nat.le_of_eq hxy.symm),List.drop_length,List.append_nil,List.take_length,List.drop_of_length_le (Nat.le_of_eq hxy.symm)] at ho
  exact ho
theorem z69 {S0 S:St} {b n c a m e:Nat} {t:TypeId} {g:Option Nat} {cmp:Value} {p u v s:List Ev} (hu:0 < u.length) (hv:0 < v.length) (ha:p.length=a) (hm:a+u.length=m) (he:m+v.length=e)
 (hn:(p++(u++(v++s))).length=n) (hbig:n<=1000000) (h:Od S0 b t g (p++(u++(v++s))) S) :
 WP (jns [.slice (some ⟨b,0,none⟩) n c,vI a,vI m,vI e,cmp]) S λ r S'=>r=vT []/\Od S0 b t g (p++(v++(u++s))) S':=by
 have hmn:e+s.length=n:=by rw [<- hn]; simp;omega
 rw [jnt]
 simp only [wps]
 have e1:wI ((m:Int)-(a:Int))=(u.length:Int):=by rw [wI_ (by omega) (by omega)]; omega
 have e2:wI ((e:Int)-(m:Int))=(v.length:Int):=by rw [wI_ (by omega) (by omega)]; omega
 rw [e1,e2]
 refine zgd (λ st S' k=>∃ A X Y B:List Ev,st=[vI X.length,vI Y.length]/\0 < X.length/\0 < Y.length/\k=X.length+Y.length/\A++(Y++(X++B))=v++u/\(p++(A++X)).length=m /\
  Od S0 b t g (p++(A++(X++(Y++(B++s))))) S') ?_ (u.length+v.length) _ _ ⟨[],u,v,[],rfl,hu,hv,rfl,by simp,by simp;omega,by simpa using h⟩
 rintro st S' k ⟨A,X,Y,B,rfl,hX,hY,rfl,hAB,hAX,ho⟩
 have hlen:A.length+(Y.length+(X.length+B.length))=v.length+u.length:=by simpa using congrArg List.length hAB
 simp only [List.length_append] at hAX
 simp only [wps]
 have hN:∀ x q y s':List Ev,(A++(X++(Y++B))).length=(x++(q++(y++s'))).length->(p++(x++(q++(y++(s'++s))))).length=n:=by
  intro x q y s' hh
  simp only [List.length_append] at hh ⊢
  omega
 refine ⟨λ h1=>?_,λ h1=>?_⟩
 ·refine ⟨λ h2=>?_,λ h2=>?_⟩
  ·have hlt:Y.length < X.length:=by omega
   have e3:wI ((m:Int)-(X.length:Int))=((p.length+A.length:Nat):Int):=by rw [wI_ (by omega) (by omega)]; omega
   rw [e3]
   have hl:(X.take Y.length).length=Y.length:=by rw [List.length_take]; omega
   have hsw:=zby (S:=S') (S0:=S0) (b:=b) (n:=n) (c:=c) (i:=p.length+A.length) (j:=m) (t:=t) (g:=g) (cmp:=cmp) (p:=p++A) (x:=X.take Y.length) (q:=X.drop Y.length) (y:=Y) (s:=B++s) hl (by simp)
    (by simp;omega) (by simp;omega) hbig (by
      have : X.take Y.length++(X.drop Y.length++(Y++(B++s)))=X++(Y++(B++s)):=by rw [<- List.append_assoc,List.take_append_drop]
      rw [this]; simpa using ho)
   rw [hl] at hsw
   refine hsw.mono ?_
   rintro _ S2 ⟨rfl,h3⟩
   simp only [wps]
   rw [wI_ (n:=(X.length:Int)-(Y.length:Int)) (by omega) (by omega)]
   refine ⟨(X.length-Y.length)+Y.length,by omega,A++Y,X.drop Y.length,X.take Y.length,B,?_,by simp;omega,by omega,by simp;omega,?_,by simp;omega,by simpa using h3⟩
   ·rw [List.length_drop,hl]; congr 2;omega
   ·rw [<- hAB]; simp only [List.append_assoc]; rw [<- List.append_assoc (X.take _),List.take_append_drop]
  ·have hlt:X.length < Y.length:=by omega
   have e3:wI ((m:Int)-(X.length:Int))=((p.length+A.length:Nat):Int):=by rw [wI_ (by omega) (by omega)]; omega
   have e4:wI (wI ((m:Int)+(Y.length:Int))-(X.length:Int))=((m+Y.length-X.length:Nat):Int):=by rw [wI_ (n:=(m:Int)+(Y.length:Int)) (by omega) (by omega),wI_ (by omega) (by omega)]; omega
   rw [e3,e4]
   have hl:X.length=(Y.drop (Y.length-X.length)).length:=by rw [List.length_drop]; omega
   have hsw:=zby (S:=S') (S0:=S0) (b:=b) (n:=n) (c:=c) (i:=p.length+A.length) (j:=m+Y.length-X.length) (t:=t) (g:=g) (cmp:=cmp) (p:=p++A) (x:=X) (q:=Y.take (Y.length-X.length)) (y:=Y.drop (Y.length-X.length)) (s:=B++s) hl (by simp)
    (by simp;omega) (by simp;omega) hbig (by
      have : Y.take (Y.length-X.length)++(Y.drop (Y.length-X.length)++(B++s))=Y++(B++s):=by rw [<- List.append_assoc,List.take_append_drop]
      rw [this]; simpa using ho)
   refine hsw.mono ?_
   rintro _ S2 ⟨rfl,h3⟩
   simp only [wps]
   rw [wI_ (n:=(Y.length:Int)-(X.length:Int)) (by omega) (by omega)]
   refine ⟨X.length+(Y.length-X.length),by omega,A,Y.drop (Y.length-X.length),Y.take (Y.length-X.length),X++B,?_,by omega,by simp;omega,by simp;omega,?_,by simp;omega,by simpa using h3⟩
   ·rw [<- hl,List.length_take]; congr 3;omega
   ·rw [<- hAB]; rw [<- List.append_assoc (Y.take _),List.take_append_drop]
 ·have h1:X.length=Y.length:=by omega
  have e3:wI ((m:Int)-(X.length:Int))=((p.length+A.length:Nat):Int):=by rw [wI_ (by omega) (by omega)]; omega
  rw [e3]
  refine (zby (S:=S') (S0:=S0) (b:=b) (n:=n) (c:=c) (i:=p.length+A.length) (j:=m) (t:=t) (g:=g) (cmp:=cmp) (p:=p++A) (x:=X) (q:=[]) (y:=Y) (s:=B++s) h1 (by simp) (by simp;omega) (by simp;omega) hbig (by simpa using ho)).mono ?_
  rintro _ S2 ⟨rfl,h3⟩
  simp only [wps]
  have e5:p++(v++(u++s))=p++A++(Y++([]++(X++(B++s)))):=by
   rw [<- List.append_assoc v,<- hAB]; simp
  rw [e5]; exact h3
def j09 (C:FuncId->List Value->M Value) (cmp:Value):Prop:=∀ S (x y:Ev),Sp (j6k C cmp [x.val,y.val]) S λ v _=>∃ d,v=vI d/\(d < 0↔x.ti < y.ti)
theorem jr4 {x y:Nat} (h:x+y<=10000000):wI ((wU (wI ((x:Int)+(y:Int)))).fdiv (2 ^ min 1 IntKind.u64.bits))=(((x+y) / 2:Nat):Int):=by
 rw [wI_ (n:=(x:Int)+(y:Int)) (by omega) (by omega),wU_ (by omega) (by omega)]
 have e:(2:Int) ^ min 1 IntKind.u64.bits=2:=rfl
 rw [e,Int.fdiv_eq_ediv_of_nonneg _ (by omega),wI_ (by omega) (by omega)]
 omega
theorem jej {α:Type} {p q:List α} {x:α} {i:Nat} (h:i=p.length) (hi:i < (p++x :: q).length):(p++x :: q)[i]=x:=by
 subst h;simp
theorem js6 {C:FuncId->List Value->M Value} {cmp:Value} (hC:j09 C cmp) {S0 S:St} {b n c a e:Nat} {t:TypeId} {g:Option Nat} {p u s:List Ev} (ha:p.length=a) (he:a+u.length=e)
 (hn:(p++(u++s)).length=n) (hbig:n<=1000000) (h:Od S0 b t g (p++(u++s)) S) :
 WP (jnp C [.slice (some ⟨b,0,none⟩) n c,vI a,vI e,cmp]) S λ r S'=>r=vT []/\∃ w,j18 Ev.ti u w/\Od S0 b t g (p++(w++s)) S':=by
 have hen:e+s.length=n:=by rw [<- hn]; simp;omega
 rw [jnq]
 simp only [wps]
 rw [wI_ (n:=(a:Int)+1) (by omega) (by omega)]
 rcases Nat.eq_zero_or_pos u.length with hu0 | hu0
 ·have hu:u=[]:=List.eq_nil_of_length_eq_zero hu0
  subst hu
  refine zgp ?_
  simp only [wps]
  refine ⟨λ hf=>by simp at he;omega,λ _=>⟨[],j18.self .nil,h⟩⟩
 refine zgd (λ st S' m=>∃ (k:Nat) (w:List Ev),st=[vI ((a+k:Nat):Int)]/\1<=k/\k<=u.length/\m=u.length-k/\j18 Ev.ti (u.take k) w/\Od S0 b t g (p++(w++(u.drop k++s))) S') ?_ (u.length-1) _ _
  ⟨1,u.take 1,by simp,by omega,hu0,rfl,?_,?_⟩
 rotate_left
 ·refine j18.self ?_
  match u,hu0 with
  | x :: u,_=>simp
 ·rw [<- List.append_assoc (u.take 1),List.take_append_drop]; exact h
 rintro st S' m ⟨k,w,rfl,hk1,hk,rfl,hst,ho⟩
 have hwl:=hst.len
 rw [List.length_take] at hwl
 simp only [wps]
 refine ⟨λ hf=>?_,λ hf=>?_⟩
 rotate_left
 ·have : k=u.length:=by omega
  subst this
  rw [List.take_length] at hst
  rw [List.drop_length,List.nil_append] at ho
  exact ⟨w,hst,ho⟩
 have hk':k < u.length:=by omega
 refine zgd (λ st S' m=>∃ (r1 r2:List Ev),w=r1++r2/\st=[vI ((a+r1.length:Nat):Int)]/\m=r1.length/\(∀ y∈r2,u[k].ti < y.ti)/\Od S0 b t g (p++(r1++u[k] :: (r2++(u.drop (k+1)++s)))) S') ?_ w.length _ _
  ⟨w,[],by simp,by simp;omega,rfl,by simp,by rw [List.drop_eq_getElem_cons hk'] at ho;simp only [List.nil_append]; exact ho⟩
 rintro st S2 m ⟨r1,r2,rfl,rfl,rfl,hr2,ho2⟩
 have hl12:r1.length+r2.length=k:=by rw [List.length_append] at hwl;omega
 have hlen2:(p++(r1++u[k] :: (r2++(u.drop (k+1)++s)))).length=n:=by simp;omega
 unfold jtq
 simp only [wps]
 have stop:∀ S3,Od S0 b t g (p++(r1++u[k] :: (r2++(u.drop (k+1)++s)))) S3->(∀ y∈r1,y.ti<=u[k].ti) ->
  ∃ n' < u.length-k,∃ (k':Nat) (w:List Ev),[vI (wI (((a+k:Nat):Int)+1))]=[vI ((a+k':Nat):Int)]/\1<=k'/\k'<=u.length/\n'=u.length-k'/\j18 Ev.ti (u.take k') w/\Od S0 b t g (p++(w++(u.drop k'++s))) S3:=by
  intro S3 h3 hle
  refine ⟨u.length-(k+1),by omega,k+1,r1++u[k] :: r2,?_,by omega,by omega,rfl,?_,by simpa using h3⟩
  ·rw [wI_ (by omega) (by omega)]; congr 2
  ·rw [zcr hk']; exact hst.ins hle hr2
 rcases List.eq_nil_or_concat r1 with hr1 | ⟨r0,z,hr1⟩
 ·subst hr1
  refine ⟨λ hf=>absurd hf (by simp),λ _=>?_⟩
  exact stop _ ho2 (by simp)
 ·subst hr1
  have eL:p++(r0.concat z++u[k] :: (r2++(u.drop (k+1)++s)))=(p++r0)++z :: ([]++u[k] :: (r2++(u.drop (k+1)++s))):=by simp
  have lz:(r0.concat z).length=r0.length+1:=by simp
  rw [eL] at ho2 hlen2
  rw [lz] at hl12 ⊢
  have e2:wI (((a+(r0.length+1):Nat):Int)-1)=((a+r0.length:Nat):Int):=by rw [wI_ (by omega) (by omega)]; omega
  have hi:a+(r0.length+1) < ((p++r0)++z :: ([]++u[k] :: (r2++(u.drop (k+1)++s)))).length:=by rw [hlen2]; omega
  have hj:a+r0.length < ((p++r0)++z :: ([]++u[k] :: (r2++(u.drop (k+1)++s)))).length:=by rw [hlen2]; omega
  have gi:((a+(r0.length+1):Nat):Int) < (n:Int):=by omega
  have gj:((a+r0.length:Nat):Int) < (n:Int):=by omega
  have ga:(a:Int) < ((a+(r0.length+1):Nat):Int):=by omega
  have xi:((p++r0)++z :: ([]++u[k] :: (r2++(u.drop (k+1)++s))))[a+(r0.length+1)]=u[k]:=by
   rw [List.getElem_append_right (by simp;omega)]
   simp only [List.length_append,show a+(r0.length+1)-(p.length+r0.length)=1 by omega]
   rfl
  have xj:((p++r0)++z :: ([]++u[k] :: (r2++(u.drop (k+1)++s))))[a+r0.length]=z:=jej (by simp;omega) _
  obtain ⟨c0,c1,c2,c3,c4,c5⟩:=ho2.ev hi
  obtain ⟨d0,d1,d2,d3,d4,d5⟩:=ho2.ev hj
  rw [xi] at c0 c1 c2 c3 c4 c5
  rw [xj] at d0 d1 d2 d3 d4 d5
  simp only [e2,wps,c0,c1,c2,c3,c4,c5,d0,d1,d2,d3,d4,d5,gi,gj,ga]
  refine (hC S2 u[k] z).use ?_
  rintro _ S3 h3 ⟨d,rfl,hd⟩
  have ho3:=ho2.more h3
  obtain ⟨c0,c1,c2,c3,c4,c5⟩:=ho3.ev hi
  obtain ⟨d0,d1,d2,d3,d4,d5⟩:=ho3.ev hj
  obtain ⟨w1,w2,w3,h9⟩:=sw1 ho3 hi hj
  rw [xi] at c0 c1 c2 c3 c4 c5
  rw [xj] at d0 d1 d2 d3 d4 d5
  simp only [xi,xj] at w1 w2 w3 h9
  simp only [e2,wps,c0,c1,c2,c3,c4,c5,d0,d1,d2,d3,d4,d5,gi,gj,ho3.at_]
  refine ⟨λ hlt=>⟨w1,_,_,_,w2,w3,?_⟩,λ hlt=>?_⟩
  ·refine ⟨r0.length,by omega,r0,z :: r2,by simp,rfl,rfl,?_,?_⟩
   ·intro y hy
    rcases List.mem_cons.1 hy with rfl | hy
    ·exact hd.1 hlt
    ·exact hr2 y hy
   ·have hs:zc5 ((p++r0)++z :: ([]++u[k] :: (r2++(u.drop (k+1)++s)))) (a+(r0.length+1)) (a+r0.length) hi hj=(p++r0)++u[k] :: ([]++z :: (r2++(u.drop (k+1)++s))):=by
     have:=zc6 (p:=p++r0) (q:=[]) (s:=r2++(u.drop (k+1)++s)) (x:=z) (y:=u[k]) (i:=a+r0.length) (j:=a+(r0.length+1)) (by simp;omega) (by simp;omega) hj hi
     rw [<- this]
     unfold zc5
     rw [List.set_comm _ _ (by omega)]
    rw [hs] at h9
    simpa using h9
  ·refine stop S3 (by rw [eL]; exact ho3) ?_
   intro y hy
   have hz:z.ti<=u[k].ti:=by
    rcases Int.lt_or_le u[k].ti z.ti with h' | h'
    ·exact absurd (hd.2 h') hlt
    ·exact h'
   rcases List.mem_append.1 (by simpa using hy:y∈r0++[z]) with hy | hy
   ·have h7:=(List.pairwise_append.1 hst.ord).1
    rw [List.concat_eq_append] at h7
    have h8:=List.pairwise_append.1 h7
    have:=h8.2.2 y hy z (by simp)
    omega
   ·simp at hy;subst hy;exact hz
theorem jei {α:Type} {p v s:List α} {i k:Nat} (hk:k < v.length) (hi:i=p.length+k) (h:i < (p++(v++s)).length):(p++(v++s))[i]=v[k]:=by
 subst hi
 rw [List.getElem_append_right (by omega)]
 simp only [Nat.add_sub_cancel_left]
 rw [List.getElem_append_left hk]
theorem zel {S0 S:St} {b n:Nat} {t:TypeId} {g:Option Nat} {body:List Value->M (Nat×List Value)} {Q:Nat×List Value->St->Prop} {x:Ev} (a:Nat) {p s:List Ev} (ha:p.length=a) :
 ∀ (v1 v2:List Ev),(p++(x :: (v1++v2)++s)).length=n->Od S0 b t g (p++(x :: (v1++v2)++s)) S ->
 (∀ (k:Nat) S' (L:List Ev),L.length=n->k < v1.length->Od S0 b t g L S'->∀ (h1:a+k < L.length) (h2:a+k+1 < L.length),WP (body [vI ((a+k:Nat):Int)]) S' λ q S''=>q=(0,[vI ((a+k+1:Nat):Int)])/\Od S0 b t g (zc5 L (a+k) (a+k+1) h1 h2) S'') ->
 (∀ S' ,Od S0 b t g (p++(v1++x :: v2++s)) S'->WP (body [vI ((a+v1.length:Nat):Int)]) S' λ q S''=>q.1≠0/\Q q S'') ->
 WP (jw8 body [vI (a:Int)]) S Q:=by
 intro v1 v2 hn h hstep hend
 refine zgd (λ st S' m=>∃ k:Nat,st=[vI ((a+k:Nat):Int)]/\k<=v1.length/\m=v1.length-k/\Od S0 b t g (p++(v1.take k++x :: (v1.drop k++v2)++s)) S') ?_ v1.length _ _ ⟨0,rfl,by omega,rfl,by simpa using h⟩
 rintro st S' m ⟨k,rfl,hk,rfl,ho⟩
 rcases Nat.lt_or_ge k v1.length with hk' | hk'
 ·have hlen:(p++(v1.take k++x :: (v1.drop k++v2)++s)).length=n:=by
   rw [<- hn]; simp;omega
  refine (hstep k S' _ hlen hk' ho (by rw [hlen,<- hn]; simp;omega) (by rw [hlen,<- hn]; simp;omega)).mono ?_
  rintro q S'' ⟨rfl,h9⟩
  refine ⟨v1.length-(k+1),by omega,k+1,by congr 2,by omega,rfl,?_⟩
  have e1:p++(v1.take k++x :: (v1.drop k++v2)++s)=(p++v1.take k)++x :: ([]++v1[k] :: (v1.drop (k+1)++v2++s)):=by
   rw [List.drop_eq_getElem_cons hk']; simp only [List.append_assoc,List.cons_append,List.nil_append]
  have e2:p++(v1.take (k+1)++x :: (v1.drop (k+1)++v2)++s)=(p++v1.take k)++v1[k] :: ([]++x :: (v1.drop (k+1)++v2++s)):=by
   rw [zcr hk']; simp only [List.append_assoc,List.cons_append,List.nil_append]
  have key:∀ (L:List Ev) (hL:L=(p++v1.take k)++x :: ([]++v1[k] :: (v1.drop (k+1)++v2++s))) (h1:a+k < L.length) (h2:a+k+1 < L.length),zc5 L (a+k) (a+k+1) h1 h2=(p++v1.take k)++v1[k] :: ([]++x :: (v1.drop (k+1)++v2++s)):=by
   intro L hL h1 h2
   subst hL
   exact zc6 (by simp;omega) (by simp;omega) _ _
  rw [key _ e1] at h9
  rw [e2]; exact h9
 ·have : k=v1.length:=by omega
  subst this
  rw [List.take_length,List.drop_length,List.nil_append] at ho
  refine (hend S' ho).mono ?_
  rintro ⟨i,l⟩ S'' ⟨h1,h2⟩
  cases i with
  | zero=>exact absurd rfl h1
  | succ i=>exact h2
theorem ja5 {S0 S:St} {b n:Nat} {t:TypeId} {g:Option Nat} {body:List Value->M (Nat×List Value)} {Q:Nat×List Value->St->Prop} {x:Ev} (a:Nat) {p s:List Ev} (ha:p.length=a) :
 ∀ (u1 u2:List Ev),(p++(u1++u2++x :: s)).length=n->Od S0 b t g (p++(u1++u2++x :: s)) S ->
 (∀ (k:Nat) S' (L:List Ev),L.length=n->u1.length < k->k<=u1.length+u2.length->Od S0 b t g L S'->∀ (h1:a+k < L.length) (h2:a+k-1 < L.length),WP (body [vI ((a+k:Nat):Int)]) S' λ q S''=>q=(0,[vI ((a+k-1:Nat):Int)])/\Od S0 b t g (zc5 L (a+k-1) (a+k) h2 h1) S'') ->
 (∀ S' ,Od S0 b t g (p++(u1++x :: u2++s)) S'->WP (body [vI ((a+u1.length:Nat):Int)]) S' λ q S''=>q.1≠0/\Q q S'') ->
 WP (jw8 body [vI ((a+(u1.length+u2.length):Nat):Int)]) S Q:=by
 intro u1 u2 hn h hstep hend
 refine zgd (λ st S' m=>∃ k:Nat,st=[vI ((a+(u1.length+k):Nat):Int)]/\k<=u2.length/\m=k/\Od S0 b t g (p++(u1++u2.take k++x :: (u2.drop k++s))) S') ?_ u2.length _ _ ⟨u2.length,rfl,by omega,rfl,by simpa using h⟩
 rintro st S' k ⟨_,rfl,hk,rfl,ho⟩
 rcases k with _ | k
 ·simp only [List.take_zero,List.drop_zero,List.append_nil] at ho
  refine (hend S' (by simpa using ho)).mono ?_
  rintro ⟨i,l⟩ S'' ⟨h1,h2⟩
  cases i with
  | zero=>exact absurd rfl h1
  | succ i=>exact h2
 ·have hk':k < u2.length:=by omega
  have hlen:(p++(u1++u2.take (k+1)++x :: (u2.drop (k+1)++s))).length=n:=by
   rw [<- hn]; simp;omega
  have hst:=hstep (u1.length+(k+1)) S' _ hlen (by omega) (by omega) ho (by rw [hlen,<- hn]; simp;omega) (by rw [hlen,<- hn]; simp;omega)
  refine hst.mono ?_
  rintro q S'' ⟨rfl,h9⟩
  refine ⟨k,by omega,k,by congr 2,by omega,rfl,?_⟩
  have e1:p++(u1++u2.take (k+1)++x :: (u2.drop (k+1)++s))=(p++(u1++u2.take k))++u2[k] :: ([]++x :: (u2.drop (k+1)++s)):=by
   rw [zcr hk']; simp only [List.append_assoc,List.cons_append,List.nil_append]
  have e2:p++(u1++u2.take k++x :: (u2.drop k++s))=(p++(u1++u2.take k))++x :: ([]++u2[k] :: (u2.drop (k+1)++s)):=by
   rw [List.drop_eq_getElem_cons hk']; simp only [List.append_assoc,List.cons_append,List.nil_append]
  have key:∀ (L:List Ev) (hL:L=(p++(u1++u2.take k))++u2[k] :: ([]++x :: (u2.drop (k+1)++s))) (h1:a+(u1.length+(k+1))-1 < L.length) (h2:a+(u1.length+(k+1)) < L.length),
   zc5 L (a+(u1.length+(k+1))-1) (a+(u1.length+(k+1))) h1 h2=(p++(u1++u2.take k))++x :: ([]++u2[k] :: (u2.drop (k+1)++s)):=by
   intro L hL h1 h2
   subst hL
   exact zc6 (by simp;omega) (by simp;omega) _ _
  rw [key _ e1] at h9
  rw [e2]; exact h9
theorem j6j {S0:St} {b:Nat} {t:TypeId} {g:Option Nat} {L:List Ev} {body:List Value->M (Nat×List Value)} {Q:Nat×List Value->St->Prop} {lo hi:Nat} (P:Nat->Prop) (hlh:lo<=hi)
 (hmono:∀ c c',lo<=c'->c'<=c->c < hi->P c->P c')
 (hbody:∀ i j S',lo<=i->i < j->j<=hi->Od S0 b t g L S'->WP (body [vI (i:Nat),vI (j:Nat)]) S' λ q S''=>Od S0 b t g L S''/\((q=(0,[vI (((i+j) / 2+1:Nat):Int),vI (j:Nat)])/\P ((i+j) / 2))\/(q=(0,[vI (i:Nat),vI (((i+j) / 2:Nat):Int)])/\¬ P ((i+j) / 2))))
 (hend:∀ i S',lo<=i->i<=hi->(∀ c,lo<=c->c < i->P c)->(∀ c,i<=c->c < hi->¬ P c)->Od S0 b t g L S'->WP (body [vI (i:Nat),vI (i:Nat)]) S' λ q S''=>q.1≠0/\Q q S'') :
 ∀ {S},Od S0 b t g L S->WP (jw8 body [vI (lo:Nat),vI (hi:Nat)]) S Q:=by
 intro S h
 refine zgd (λ st S' m=>∃ i j:Nat,st=[vI (i:Nat),vI (j:Nat)]/\lo<=i/\i<=j/\j<=hi/\m=j-i/\(∀ c,lo<=c->c < i->P c)/\(∀ c,j<=c->c < hi->¬ P c)/\Od S0 b t g L S') ?_ (hi-lo) _ _
  ⟨lo,hi,rfl,Nat.le_refl _,hlh,Nat.le_refl _,rfl,λ c h1 h2=>by omega,λ c h1 h2=>by omega,h⟩
 rintro st S' m ⟨i,j,rfl,h1,h2,h3,rfl,h4,h5,ho⟩
 rcases Nat.lt_or_ge i j with hij | hij
 ·refine (hbody i j S' h1 hij h3 ho).mono ?_
  rintro q S'' ⟨ho2,⟨rfl,hp⟩ | ⟨rfl,hp⟩⟩
  ·exact ⟨j-((i+j) / 2+1),by omega,(i+j) / 2+1,j,rfl,by omega,by omega,h3,rfl,λ c hc1 hc2=>hmono _ c hc1 (by omega) (by omega) hp,h5,ho2⟩
  ·exact ⟨(i+j) / 2-i,by omega,i,(i+j) / 2,rfl,h1,by omega,by omega,rfl,h4,λ c hc1 hc2 hpc=>hp (hmono c _ (by omega) hc1 hc2 hpc),ho2⟩
 ·obtain rfl:i=j:=by omega
  refine (hend i S' h1 h3 h4 h5 ho).mono ?_
  rintro ⟨k,l⟩ S'' ⟨g1,g2⟩
  cases k with
  | zero=>exact absurd rfl g1
  | succ k=>exact g2
theorem zc7 {L:List Ev} {i j:Nat} (hi:i < L.length) (hj:j < L.length) (hne:i≠j):zc5 L i j hi hj=zc5 L j i hj hi:=by
 unfold zc5
 rw [List.set_comm _ _ hne]
theorem z9l {u:List Ev} (hu:u.Pairwise λ a b=>a.ti<=b.ti) {i j:Nat} (h:i<=j) (hj:j < u.length):(u[i]'(by omega)).ti<=u[j].ti:=by
 rcases Nat.lt_or_ge i j with h' | h'
 ·exact List.pairwise_iff_getElem.1 hu _ _ (by omega) hj h'
 ·have : i=j:=by omega
  subst this;exact Int.le_refl _
def j1a (S0:St) (b:Nat) (t:TypeId) (g:Option Nat) (p u v s:List Ev) (r:Value) (S':St):Prop:=r=vT []/\∃ w,j18 Ev.ti (u++v) w/\Od S0 b t g (p++(w++s)) S'
variable {C:FuncId->List Value->M Value} {cmp:Value}
set_option maxRecDepth 20000 in
theorem zc9 (hC:∀ g1 g2,j09 (jvv [(277,g1),(272,g2)] C) cmp) {gR:List Value->M Value} {S0 S:St} {b n c a e:Nat} {t:TypeId} {g:Option Nat} {p v s:List Ev} {x:Ev} (ha:p.length=a) (he:a+1+v.length=e)
 (hv0:0 < v.length) (hn:(p++(([x]++v)++s)).length=n) (hbig:n<=1000000) (hv:v.Pairwise λ a b=>a.ti<=b.ti) (h:Od S0 b t g (p++(([x]++v)++s)) S) :
 WP (zj7 C gR [.slice (some ⟨b,0,none⟩) n c,vI a,vI ((a+1:Nat):Int),vI e,cmp]) S (j1a S0 b t g p [x] v s):=by
 have hen:e+s.length=n:=by rw [<- hn]; simp;omega
 rw [jo2]
 have e1:wI (((a+1:Nat):Int)-(a:Int))=1:=by rw [wI_ (by omega) (by omega)]; omega
 simp only [wps,e1]
 have hLv:∀ k (hk:k < v.length) (h:a+1+k < (p++(([x]++v)++s)).length),(p++(([x]++v)++s))[a+1+k]=v[k]:=by
  intro k hk h
  have e:p++(([x]++v)++s)=(p++[x])++(v++s):=by simp
  simp only [e]
  exact jei hk (by simp;omega) _
 have hLx:∀ (h:a < (p++(([x]++v)++s)).length),(p++(([x]++v)++s))[a]=x:=λ h=>jej ha.symm h
 refine j6j (S0:=S0) (b:=b) (t:=t) (g:=g) (L:=p++(([x]++v)++s)) (lo:=a+1) (hi:=e) (λ c=>∃ h:c-(a+1) < v.length,v[c-(a+1)].ti < x.ti) (by omega) ?_ ?_ ?_ h
 ·rintro c c' h1 h2 h3 ⟨h4,h5⟩
  refine ⟨by omega,?_⟩
  have:=z9l hv (i:=c'-(a+1)) (j:=c-(a+1)) (by omega) h4
  omega
 ·intro i j S' h1 h2 h3 ho
  have hh:=jr4 (x:=i) (y:=j) (by omega)
  have hd:(i+j) / 2-(a+1) < v.length:=by omega
  have g1:(((i+j) / 2:Nat):Int) < (n:Int):=by omega
  have g2:(a:Int) < (n:Int):=by omega
  have g3:(i:Int) < (j:Int):=by omega
  have k1:(i+j) / 2 < (p++(([x]++v)++s)).length:=by rw [hn]; omega
  have k2:a < (p++(([x]++v)++s)).length:=by rw [hn]; omega
  have x1:(p++(([x]++v)++s))[(i+j) / 2]=v[(i+j) / 2-(a+1)]:=by
   have:=hLv ((i+j) / 2-(a+1)) hd (by rw [hn]; omega)
   rw [<- this]; congr 1;omega
  obtain ⟨c0,c1,c2,c3,c4,c5⟩:=ho.ev k1
  obtain ⟨d0,d1,d2,d3,d4,d5⟩:=ho.ev k2
  rw [x1] at c0 c1 c2 c3 c4 c5
  rw [hLx k2] at d0 d1 d2 d3 d4 d5
  simp only [wps,hh,g1,g2,g3,c0,c1,c2,c3,c4,c5,d0,d1,d2,d3,d4,d5]
  refine (hC _ _ S' v[(i+j) / 2-(a+1)] x).use ?_
  rintro _ S3 h3' ⟨d,rfl,hd'⟩
  simp only [wps]
  refine ⟨λ hlt=>⟨ho.more h3',.inl ⟨?_,hd,hd'.1 hlt⟩⟩,λ hlt=>⟨ho.more h3',.inr ?_⟩⟩
  ·rw [wI_ (n:=(((i+j) / 2:Nat):Int)+1) (by omega) (by omega)]; rfl
  ·rintro ⟨_,h6⟩; exact hlt (hd'.2 h6)
 ·intro i S' h1 h2 h3 h4 ho
  have g3:¬ (i:Int) < (i:Int):=by omega
  simp only [wps,g3]
  have e2:wI ((i:Int)-1)=((i-1:Nat):Int):=by rw [wI_ (by omega) (by omega)]; omega
  have evs_:v.take (i-(a+1))++v.drop (i-(a+1))=v:=List.take_append_drop _ _
  have hl1:(v.take (i-(a+1))).length=i-(a+1):=by rw [List.length_take]; omega
  refine ⟨by omega,zel (n:=n) (S0:=S0) (b:=b) (t:=t) (g:=g) (x:=x) (p:=p) (s:=s) a ha (v.take (i-(a+1))) (v.drop (i-(a+1))) ?_ ?_ ?_ ?_⟩
  ·rw [evs_]; exact hn
  ·rw [evs_]; exact ho
  ·intro k S2 L hL hk ho2 k1 k2
   have f1:wI (((a+k:Nat):Int)+1)=((a+k+1:Nat):Int):=by rw [wI_ (by omega) (by omega)]; omega
   have f2:((a+k:Nat):Int) < ((i-1:Nat):Int):=by omega
   have f3:((a+k+1:Nat):Int) < (n:Int):=by omega
   have f4:((a+k:Nat):Int) < (n:Int):=by omega
   obtain ⟨c0,c1,c2,c3,c4,c5⟩:=ho2.ev k1
   obtain ⟨d0,d1,d2,d3,d4,d5⟩:=ho2.ev k2
   obtain ⟨w1,w2,w3,h9⟩:=sw1 ho2 k1 k2
   simp only [wps,e2,f1,f2,f3,f4,c0,c1,c2,c3,c4,c5,d0,d1,d2,d3,d4,d5,ho2.at_]
   exact ⟨w1,_,_,_,w2,w3,h9⟩
  ·intro S2 ho2
   have f2:¬ ((a+(v.take (i-(a+1))).length:Nat):Int) < ((i-1:Nat):Int):=by omega
   simp only [wps,e2,f2]
   refine ⟨by omega,rfl,v.take (i-(a+1))++x :: v.drop (i-(a+1)),?_,ho2⟩
   have hS:=j18.front (key:=Ev.ti) (x:=x) (v1:=v.take (i-(a+1))) (v2:=v.drop (i-(a+1))) (by rw [evs_]; exact hv) ?_ ?_
   ·rw [evs_] at hS;exact hS
   ·intro y hy
    obtain ⟨k,hk,rfl⟩:=List.mem_iff_getElem.1 hy
    rw [List.getElem_take]
    rw [hl1] at hk
    obtain ⟨_,h6⟩:=h3 (a+1+k) (by omega) (by omega)
    simpa using h6
   ·intro y hy
    obtain ⟨k,hk,rfl⟩:=List.mem_iff_getElem.1 hy
    rw [List.length_drop] at hk
    rw [List.getElem_drop]
    have h6:=h4 (i+k) (by omega) (by omega)
    have e7:i+k-(a+1)=i-(a+1)+k:=by omega
    rcases Int.lt_or_le (v[i-(a+1)+k]'(by omega)).ti x.ti with h8 | h8
    ·exact absurd ⟨by omega,by simpa only [e7] using h8⟩ h6
    ·exact h8
set_option maxRecDepth 20000 in
theorem zca (hC:∀ g1 g2,j09 (jvv [(277,g1),(272,g2)] C) cmp) {gR:List Value->M Value} {S0 S:St} {b n c a m:Nat} {t:TypeId} {g:Option Nat} {p u s:List Ev} {x:Ev} (ha:p.length=a) (hm:a+u.length=m)
 (hu0:1 < u.length) (hn:(p++((u++[x])++s)).length=n) (hbig:n<=1000000) (hu:u.Pairwise λ a b=>a.ti<=b.ti) (h:Od S0 b t g (p++((u++[x])++s)) S) :
 WP (zj7 C gR [.slice (some ⟨b,0,none⟩) n c,vI a,vI m,vI ((m+1:Nat):Int),cmp]) S (j1a S0 b t g p u [x] s):=by
 have hen:m+1+s.length=n:=by rw [<- hn]; simp;omega
 rw [jo2]
 have e0:wI ((m:Int)-(a:Int))=((u.length:Nat):Int):=by rw [wI_ (by omega) (by omega)]; omega
 have e1:wI (((m+1:Nat):Int)-(m:Int))=1:=by rw [wI_ (by omega) (by omega)]; omega
 have e0':¬ ((u.length:Nat):Int)=1:=by omega
 simp only [wps,e0,e1,e0']
 have hLu:∀ k (hk:k < u.length) (h:a+k < (p++((u++[x])++s)).length),(p++((u++[x])++s))[a+k]=u[k]:=by
  intro k hk h
  have e:p++((u++[x])++s)=p++(u++([x]++s)):=by simp
  simp only [e]
  exact jei hk (by omega) _
 have hLx:∀ (h:m < (p++((u++[x])++s)).length),(p++((u++[x])++s))[m]=x:=λ h=>by
  have e:p++((u++[x])++s)=(p++u)++x :: s:=by simp
  simp only [e]
  exact jej (by simp;omega) _
 intro _
 refine j6j (S0:=S0) (b:=b) (t:=t) (g:=g) (L:=p++((u++[x])++s)) (lo:=a) (hi:=m) (λ c=>∃ h:c-a < u.length,u[c-a].ti<=x.ti) (by omega) ?_ ?_ ?_ h
 ·rintro c c' h1 h2 h3 ⟨h4,h5⟩
  refine ⟨by omega,?_⟩
  have:=z9l hu (i:=c'-a) (j:=c-a) (by omega) h4
  omega
 ·intro i j S' h1 h2 h3 ho
  have hh:=jr4 (x:=i) (y:=j) (by omega)
  have hd:(i+j) / 2-a < u.length:=by omega
  have g1:(((i+j) / 2:Nat):Int) < (n:Int):=by omega
  have g2:(m:Int) < (n:Int):=by omega
  have g3:(i:Int) < (j:Int):=by omega
  have k1:(i+j) / 2 < (p++((u++[x])++s)).length:=by rw [hn]; omega
  have k2:m < (p++((u++[x])++s)).length:=by rw [hn]; omega
  have x1:(p++((u++[x])++s))[(i+j) / 2]=u[(i+j) / 2-a]:=by
   have:=hLu ((i+j) / 2-a) hd (by rw [hn]; omega)
   rw [<- this]; congr 1;omega
  obtain ⟨c0,c1,c2,c3,c4,c5⟩:=ho.ev k1
  obtain ⟨d0,d1,d2,d3,d4,d5⟩:=ho.ev k2
  rw [x1] at c0 c1 c2 c3 c4 c5
  rw [hLx k2] at d0 d1 d2 d3 d4 d5
  simp only [wps,hh,g1,g2,g3,c0,c1,c2,c3,c4,c5,d0,d1,d2,d3,d4,d5]
  refine (hC _ _ S' x u[(i+j) / 2-a]).use ?_
  rintro _ S3 h3' ⟨d,rfl,hd'⟩
  simp only [wps]
  refine ⟨λ hlt=>⟨ho.more h3',.inl ⟨?_,hd,?_⟩⟩,λ hlt=>⟨ho.more h3',.inr ?_⟩⟩
  ·rw [wI_ (n:=(((i+j) / 2:Nat):Int)+1) (by omega) (by omega)]; rfl
  ·rcases Int.lt_or_le x.ti u[(i+j) / 2-a].ti with h8 | h8
   ·exact absurd (hd'.2 h8) hlt
   ·exact h8
  ·rintro ⟨_,h6⟩
   have:=hd'.1 hlt
   omega
 ·intro i S' h1 h2 h3 h4 ho
  have g3:¬ (i:Int) < (i:Int):=by omega
  simp only [wps,g3]
  have evs_:u.take (i-a)++u.drop (i-a)=u:=List.take_append_drop _ _
  have hl1:(u.take (i-a)).length=i-a:=by rw [List.length_take]; omega
  have hl2:(u.drop (i-a)).length=u.length-(i-a):=by rw [List.length_drop]
  have hm2:(m:Int)=((a+((u.take (i-a)).length+(u.drop (i-a)).length):Nat):Int):=by rw [hl1,hl2]; omega
  rw [hm2]
  refine ⟨by omega,ja5 (n:=n) (S0:=S0) (b:=b) (t:=t) (g:=g) (x:=x) (p:=p) (s:=s) a ha (u.take (i-a)) (u.drop (i-a)) ?_ ?_ ?_ ?_⟩
  ·rw [evs_]; simpa using hn
  ·rw [evs_]; simpa using ho
  ·intro k S2 L hL hk hk2 ho2 k1 k2
   have f1:wI (((a+k:Nat):Int)-1)=((a+k-1:Nat):Int):=by rw [wI_ (by omega) (by omega)]; omega
   have f2:(i:Int) < ((a+k:Nat):Int):=by omega
   have f3:((a+k-1:Nat):Int) < (n:Int):=by omega
   have f4:((a+k:Nat):Int) < (n:Int):=by omega
   obtain ⟨c0,c1,c2,c3,c4,c5⟩:=ho2.ev k1
   obtain ⟨d0,d1,d2,d3,d4,d5⟩:=ho2.ev k2
   obtain ⟨w1,w2,w3,h9⟩:=sw1 ho2 k1 k2
   rw [zc7 k1 k2 (by omega)] at h9
   simp only [wps,f1,f2,f3,f4,c0,c1,c2,c3,c4,c5,d0,d1,d2,d3,d4,d5,ho2.at_]
   exact ⟨w1,_,_,_,w2,w3,h9⟩
  ·intro S2 ho2
   have f2:¬ (i:Int) < ((a+(u.take (i-a)).length:Nat):Int):=by omega
   simp only [wps,f2]
   refine ⟨by omega,rfl,u.take (i-a)++x :: u.drop (i-a),?_,ho2⟩
   have hS:=j18.ins (key:=Ev.ti) (l:=u) (x:=x) (r1:=u.take (i-a)) (r2:=u.drop (i-a)) (by rw [evs_]; exact j18.self hu) ?_ ?_
   ·exact hS
   ·intro y hy
    obtain ⟨k,hk,rfl⟩:=List.mem_iff_getElem.1 hy
    rw [List.getElem_take]
    rw [hl1] at hk
    obtain ⟨_,h6⟩:=h3 (a+k) (by omega) (by omega)
    simpa using h6
   ·intro y hy
    obtain ⟨k,hk,rfl⟩:=List.mem_iff_getElem.1 hy
    rw [List.length_drop] at hk
    rw [List.getElem_drop]
    have h6:=h4 (i+k) (by omega) (by omega)
    have e7:i+k-a=i-a+k:=by omega
    rcases Int.lt_or_le x.ti (u[i-a+k]'(by omega)).ti with h8 | h8
    ·exact h8
    ·exact absurd ⟨by omega,by simpa only [e7] using h8⟩ h6
end Go.AM
namespace Go.AM
open Go Go.Proofs.YtpecnaacgkgjmaaGreatDoor
variable {C:FuncId->List Value->M Value} {cmp:Value}
def j1b (gR:List Value->M Value) (S0:St) (b n c:Nat) (t:TypeId) (g:Option Nat) (cmp:Value) (N:Nat):Prop:=
 ∀ (S:St) (p u v s:List Ev) (a m e:Nat),u.length+v.length < N->0 < u.length->0 < v.length->p.length=a->a+u.length=m->m+v.length=e->(p++((u++v)++s)).length=n ->
  (u.Pairwise λ a b=>a.ti<=b.ti)->(v.Pairwise λ a b=>a.ti<=b.ti)->Od S0 b t g (p++((u++v)++s)) S ->
  WP (gR [.slice (some ⟨b,0,none⟩) n c,vI a,vI m,vI e,cmp]) S (j1a S0 b t g p u v s)
theorem jsy {gR:List Value->M Value} {S0 S:St} {b n c a m e i mid:Nat} {t:TypeId} {g:Option Nat} {p w1 u2 v2 s:List Ev} {N:Nat} {R:Nat×List Value->St->Prop} (hR:j1b gR S0 b n c t g cmp N) (hbig:n<=1000000)
 (hmid:mid=(a+e) / 2) (hae:e<=n) (ham:a<=n) (hmn:m<=n) (hp:p.length+w1.length=mid) (h1:mid+u2.length=mid+m-i) (h2:mid+m-i+v2.length=e) (hN:u2.length+v2.length < N) (hn:(p++(w1++((u2++v2)++s))).length=n) (hi:i<=m)
 (hu:u2.Pairwise λ a b=>a.ti<=b.ti) (hv:v2.Pairwise λ a b=>a.ti<=b.ti) (h:Od S0 b t g (p++(w1++((u2++v2)++s))) S)
 (q:∀ w2 S',j18 Ev.ti (u2++v2) w2->Od S0 b t g (p++(w1++(w2++s))) S'->R (0,[vT []]) S') :
 WP (jtr gR (some ⟨b,0,none⟩) n c a m e cmp (i:Nat) (0,[])) S R:=by
 unfold jtr
 have hh:=jr4 (x:=a) (y:=e) (by omega)
 rw [<- hmid] at hh
 have e1:wI ((mid:Int)+(m:Int))=((mid+m:Nat):Int):=by rw [wI_ (by omega) (by omega)]; omega
 have e2:wI (((mid+m:Nat):Int)-(i:Int))=((mid+m-i:Nat):Int):=by rw [wI_ (by omega) (by omega)]; omega
 simp only [wps,hh,e1,e2]
 have triv:(u2=[]\/v2=[])->R (0,[vT []]) S:=by
  intro h0
  refine q (u2++v2) S (j18.self ?_) h
  rcases h0 with rfl | rfl
  ·exact hv
  ·rw [List.append_nil]; exact hu
 refine ⟨λ g1=>⟨λ g2=>?_,λ g2=>?_⟩,λ g1=>?_⟩
 ·refine (hR S (p++w1) u2 v2 s mid (mid+m-i) e hN (by omega) (by omega) (by simp;omega) h1 h2 (by rw [<- hn]; simp) hu hv (by simpa using h)).mono ?_
  rintro _ S' ⟨rfl,w2,h3,h4⟩
  simp only [wps]
  exact q w2 S' h3 (by simpa using h4)
 ·exact triv (.inr (List.eq_nil_of_length_eq_zero (by omega)))
 ·exact triv (.inl (List.eq_nil_of_length_eq_zero (by omega)))
theorem jsz {gR:List Value->M Value} {S0 S:St} {b n c a m e i mid:Nat} {t:TypeId} {g:Option Nat} {p u1 v1 u2 v2 s:List Ev} {N:Nat} {R:Nat×List Value->St->Prop} (hR:j1b gR S0 b n c t g cmp N) (hbig:n<=1000000)
 (hmid:mid=(a+e) / 2) (hae:e<=n) (ham:a<=n) (hmn:m<=n) (ha:p.length=a) (h0:a+u1.length=i) (h00:i+v1.length=mid) (h1:mid+u2.length=mid+m-i) (h2:mid+m-i+v2.length=e) (hN:u2.length+v2.length < N) (hN':u1.length+v1.length < N) (hi:i<=m)
 (hn:(p++((u1++v1)++((u2++v2)++s))).length=n)
 (hu:u2.Pairwise λ a b=>a.ti<=b.ti) (hv:v2.Pairwise λ a b=>a.ti<=b.ti) (hu1:u1.Pairwise λ a b=>a.ti<=b.ti) (hv1:v1.Pairwise λ a b=>a.ti<=b.ti) (h:Od S0 b t g (p++((u1++v1)++((u2++v2)++s))) S)
 (q:∀ w1 w2 S',j18 Ev.ti (u1++v1) w1->j18 Ev.ti (u2++v2) w2->Od S0 b t g (p++(w1++(w2++s))) S'->R (0,[vT []]) S') :
 WP (jts gR (some ⟨b,0,none⟩) n c a m e cmp (i:Nat) (0,[])) S R:=by
 unfold jts
 have hh:=jr4 (x:=a) (y:=e) (by omega)
 rw [<- hmid] at hh
 have next:∀ S1 w1,j18 Ev.ti (u1++v1) w1->Od S0 b t g (p++(w1++((u2++v2)++s))) S1->WP (jtr gR (some ⟨b,0,none⟩) n c a m e cmp (i:Nat) (0,[])) S1 R:=by
  intro S1 w1 h3 h4
  have hl:=h3.len
  simp only [List.length_append] at hl
  exact jsy hR hbig hmid hae ham hmn (by omega) h1 h2 hN (by rw [<- hn]; simp;omega) hi hu hv h4 λ w2 S' h5 h6=>q w1 w2 S' h3 h5 h6
 simp only [wps,hh]
 have triv:(u1=[]\/v1=[])->WP (jtr gR (some ⟨b,0,none⟩) n c a m e cmp (i:Nat) (0,[])) S R:=by
  intro h0
  refine next S (u1++v1) (j18.self ?_) h
  rcases h0 with rfl | rfl
  ·exact hv1
  ·rw [List.append_nil]; exact hu1
 refine ⟨λ g1=>⟨λ g2=>?_,λ g2=>?_⟩,λ g1=>?_⟩
 ·refine (hR S p u1 v1 ((u2++v2)++s) a i mid hN' (by omega) (by omega) ha h0 h00 hn hu1 hv1 h).mono ?_
  rintro _ S' ⟨rfl,w1,h3,h4⟩
  simp only [wps]
  exact next S' w1 h3 h4
 ·exact triv (.inr (List.eq_nil_of_length_eq_zero (by omega)))
 ·exact triv (.inl (List.eq_nil_of_length_eq_zero (by omega)))
theorem jt0 (hC:∀ g1 g2,j09 (jvv [(277,g1),(272,g2)] C) cmp) {gR:List Value->M Value} {S0 S:St} {b n c a m e mid lo hi:Nat} {t:TypeId} {g:Option Nat} {p u v s:List Ev} {N:Nat} {R:Nat×List Value->St->Prop} (hR:j1b gR S0 b n c t g cmp N)
 (hN:u.length+v.length<=N) (hbig:n<=1000000) (hmid:mid=(a+e) / 2) (ha:p.length=a) (hm:a+u.length=m) (he:m+v.length=e) (hu0:1 < u.length) (hv0:1 < v.length) (hn:(p++((u++v)++s)).length=n)
 (hu:u.Pairwise λ a b=>a.ti<=b.ti) (hv:v.Pairwise λ a b=>a.ti<=b.ti) (h:Od S0 b t g (p++((u++v)++s)) S) (hlo:lo=if mid < m then mid+m-e else a) (hhi:hi=if mid < m then mid else m)
 (q:∀ w S',j18 Ev.ti (u++v) w->Od S0 b t g (p++(w++s)) S'->R (0,[vT []]) S') :
 WP (jtt C gR (some ⟨b,0,none⟩) n c a m e cmp (0,[vI (lo:Nat),vI (hi:Nat)])) S R:=by
 have hen:e+s.length=n:=by rw [<- hn]; simp;omega
 unfold jtt
 have hh:=jr4 (x:=a) (y:=e) (by omega)
 rw [<- hmid] at hh
 have e1:wI ((mid:Int)+(m:Int))=((mid+m:Nat):Int):=by rw [wI_ (by omega) (by omega)]; omega
 have e2:wI (((mid+m:Nat):Int)-1)=((mid+m-1:Nat):Int):=by rw [wI_ (by omega) (by omega)]; omega
 have bnd:a<=lo/\lo<=hi/\hi<=m/\∀ c,lo<=c->c < hi->m<=mid+m-1-c/\mid+m-1-c < e:=by
  by_cases hc:mid < m
  ·rw [if_pos hc] at hlo hhi;refine ⟨by omega,by omega,by omega,λ c h1 h2=>by omega⟩
  ·rw [if_neg hc] at hlo hhi;refine ⟨by omega,by omega,by omega,λ c h1 h2=>by omega⟩
 obtain ⟨b1,b2,b3,b4⟩:=bnd
 have hLu:∀ k (hk:k < u.length) (h:a+k < (p++((u++v)++s)).length),(p++((u++v)++s))[a+k]=u[k]:=by
  intro k hk h
  have e:p++((u++v)++s)=p++(u++(v++s)):=by simp
  simp only [e]
  exact jei hk (by omega) _
 have hLv:∀ k (hk:k < v.length) (h:m+k < (p++((u++v)++s)).length),(p++((u++v)++s))[m+k]=v[k]:=by
  intro k hk h
  have e:p++((u++v)++s)=(p++u)++(v++s):=by simp
  simp only [e]
  exact jei hk (by simp;omega) _
 simp only [wps,hh,e1,e2]
 refine j6j (S0:=S0) (b:=b) (t:=t) (g:=g) (L:=p++((u++v)++s)) (lo:=lo) (hi:=hi) (λ c=>∃ (h:c-a < u.length) (h':mid+m-1-c-m < v.length),u[c-a].ti<=v[mid+m-1-c-m].ti) b2 ?_ ?_ ?_ h
 ·rintro c c' h1 h2 h3 ⟨h4,h5,h6⟩
  have b5:=b4 c' h1 (by omega)
  refine ⟨by omega,by omega,?_⟩
  have l1:=z9l hu (i:=c'-a) (j:=c-a) (by omega) h4
  have l2:=z9l hv (i:=mid+m-1-c-m) (j:=mid+m-1-c'-m) (by omega) (by omega)
  omega
 ·intro i j S' h1 h2 h3 ho
  have hh2:=jr4 (x:=i) (y:=j) (by omega)
  have b5:=b4 ((i+j) / 2) (by omega) (by omega)
  have hd:(i+j) / 2-a < u.length:=by omega
  have hd2:mid+m-1-(i+j) / 2-m < v.length:=by omega
  have e3:wI (((mid+m-1:Nat):Int)-(((i+j) / 2:Nat):Int))=((mid+m-1-(i+j) / 2:Nat):Int):=by rw [wI_ (by omega) (by omega)]; omega
  have g1:(((i+j) / 2:Nat):Int) < (n:Int):=by omega
  have g2:((mid+m-1-(i+j) / 2:Nat):Int) < (n:Int):=by omega
  have g3:(i:Int) < (j:Int):=by omega
  have k1:(i+j) / 2 < (p++((u++v)++s)).length:=by rw [hn]; omega
  have k2:mid+m-1-(i+j) / 2 < (p++((u++v)++s)).length:=by rw [hn]; omega
  have x1:(p++((u++v)++s))[(i+j) / 2]=u[(i+j) / 2-a]:=by
   have:=hLu ((i+j) / 2-a) hd (by rw [hn]; omega)
   rw [<- this]; congr 1;omega
  have x2:(p++((u++v)++s))[mid+m-1-(i+j) / 2]=v[mid+m-1-(i+j) / 2-m]:=by
   have:=hLv (mid+m-1-(i+j) / 2-m) hd2 (by rw [hn]; omega)
   rw [<- this]; congr 1;omega
  obtain ⟨c0,c1,c2,c3,c4,c5⟩:=ho.ev k1
  obtain ⟨d0,d1,d2,d3,d4,d5⟩:=ho.ev k2
  rw [x1] at c0 c1 c2 c3 c4 c5
  rw [x2] at d0 d1 d2 d3 d4 d5
  simp only [wps,hh,e1,e2,hh2,e3,g1,g2,g3,c0,c1,c2,c3,c4,c5,d0,d1,d2,d3,d4,d5]
  refine (hC _ _ S' v[mid+m-1-(i+j) / 2-m] u[(i+j) / 2-a]).use ?_
  rintro _ S3 h3' ⟨d,rfl,hd'⟩
  simp only [wps]
  refine ⟨λ hlt=>⟨ho.more h3',.inl ⟨?_,hd,hd2,?_⟩⟩,λ hlt=>⟨ho.more h3',.inr ?_⟩⟩
  ·rw [wI_ (n:=(((i+j) / 2:Nat):Int)+1) (by omega) (by omega)]; rfl
  ·rcases Int.lt_or_le v[mid+m-1-(i+j) / 2-m].ti u[(i+j) / 2-a].ti with h8 | h8
   ·exact absurd (hd'.2 h8) hlt
   ·exact h8
  ·rintro ⟨_,_,h6⟩
   have:=hd'.1 hlt
   omega
 ·intro i S' h1 h2 h3 h4 ho
  have g3:¬ (i:Int) < (i:Int):=by omega
  have e4:wI (((mid+m:Nat):Int)-(i:Int))=((mid+m-i:Nat):Int):=by rw [wI_ (by omega) (by omega)]; omega
  obtain ⟨u1,u2,v1,v2,hu12,hv12,l1,l2,i1,i2,i3,i4,f1,f2⟩:=z9x Ev.ti u v a m e mid i lo hi hm.symm he.symm hmid hu0 hv0 hlo hhi h1 h2 hu hv
   (λ c h5 h6 h7 h8=>by obtain ⟨_,_,h9⟩:=h3 c h7 h8;exact h9)
   (λ c h5 h6 h7 h8=>by
     have:=h4 c h7 h8
     rcases Int.lt_or_le v[mid+m-1-c-m].ti u[c-a].ti with h9 | h9
     ·exact h9
     ·exact absurd ⟨h5,h6,h9⟩ this)
  subst hu12 hv12
  simp only [List.length_append] at hm he hu0 hv0 hN
  obtain ⟨su1,su2,_⟩:=List.pairwise_append.1 hu
  obtain ⟨sv1,sv2,_⟩:=List.pairwise_append.1 hv
  have next:∀ S1,Od S0 b t g (p++((u1++v1)++((u2++v2)++s))) S1->WP (jts gR (some ⟨b,0,none⟩) n c a m e cmp (i:Nat) (0,[])) S1 R:=by
   intro S1 h9
   have hsm:u2.length+v2.length < N/\u1.length+v1.length < N:=by omega
   refine jsz hR hbig hmid (by omega) (by omega) (by omega) ha (by omega) (by omega) (by omega) (by omega) hsm.1 hsm.2 i2 (by rw [<- hn]; simp;omega) su2 sv2 su1 sv1 h9 λ w1 w2 S2 h10 h11 h12=>?_
   refine q (w1++w2) S2 (j18.join h10 h11 hu hv f1 f2) (by simpa using h12)
  simp only [wps,g3,e4]
  refine ⟨by omega,⟨λ g1=>⟨λ g2=>?_,λ g2=>?_⟩,λ g1=>?_⟩⟩
  ·refine (z69 (S0:=S0) (S:=S') (b:=b) (n:=n) (c:=c) (a:=i) (m:=m) (e:=mid+m-i) (t:=t) (g:=g) (cmp:=cmp) (p:=p++u1) (u:=u2) (v:=v1) (s:=v2++s) (by omega) (by omega) (by simp;omega) (by omega) (by omega) (by rw [<- hn]; simp) hbig (by simpa using ho)).mono ?_
   rintro _ S2 ⟨rfl,h9⟩
   simp only [wps]
   exact next S2 (by simpa using h9)
  ·have : v1=[]:=List.eq_nil_of_length_eq_zero (by omega)
   subst this
   exact next S' (by simpa using ho)
  ·have : u2=[]:=List.eq_nil_of_length_eq_zero (by omega)
   subst this
   exact next S' (by simpa using ho)
set_option maxRecDepth 20000 in
theorem zcb (hC:∀ g1 g2,j09 (jvv [(277,g1),(272,g2)] C) cmp) {S0:St} {b n c:Nat} {t:TypeId} {g:Option Nat} (hbig:n<=1000000) :
 ∀ f,j1b (zj5 C f) S0 b n c t g cmp f:=by
 intro f
 induction f with
 | zero => intro S p u v s a m e h1; omega
 | succ f ih =>
   intro S p u v s a m e hN hu0 hv0 ha hm he hn hu hv h
   have hen:e+s.length=n:=by rw [<- hn]; simp;omega
   show WP (zj7 C (zj5 C f) _) S _
   rcases Nat.lt_or_ge 1 u.length with hu1 | hu1
   ·rcases Nat.lt_or_ge 1 v.length with hv1 | hv1
    ·rw [jo2]
     have e0:wI ((m:Int)-(a:Int))=((u.length:Nat):Int):=by rw [wI_ (by omega) (by omega)]; omega
     have e1:wI ((e:Int)-(m:Int))=((v.length:Nat):Int):=by rw [wI_ (by omega) (by omega)]; omega
     have e0':¬ ((u.length:Nat):Int)=1:=by omega
     have e1':¬ ((v.length:Nat):Int)=1:=by omega
     have hh:=jr4 (x:=a) (y:=e) (by omega)
     have e2:wI ((((a+e) / 2:Nat):Int)+(m:Int))=(((a+e) / 2+m:Nat):Int):=by rw [wI_ (by omega) (by omega)]; omega
     simp only [wps,e0,e1,e0',e1',hh,e2]
     intro _ _
     refine ⟨λ g1=>?_,λ g1=>?_⟩
     ·have e3:wI ((((a+e) / 2+m:Nat):Int)-(e:Int))=(((a+e) / 2+m-e:Nat):Int):=by rw [wI_ (by omega) (by omega)]; omega
      rw [e3]
      refine jt0 hC ih (by omega) hbig rfl ha hm he hu1 hv1 hn hu hv h (by rw [if_pos (by omega)]) (by rw [if_pos (by omega)]) λ w S' h3 h4=>?_
      simp only [wps]
      exact ⟨rfl,w,h3,h4⟩
     ·refine jt0 hC ih (by omega) hbig rfl ha hm he hu1 hv1 hn hu hv h (by rw [if_neg (by omega)]) (by rw [if_neg (by omega)]) λ w S' h3 h4=>?_
      simp only [wps]
      exact ⟨rfl,w,h3,h4⟩
    ·obtain ⟨x,rfl⟩:=List.length_eq_one_iff.1 (show v.length=1 by omega)
     obtain rfl:e=m+1:=by simpa using he.symm
     exact zca hC ha hm hu1 hn hbig hu h
   ·obtain ⟨x,rfl⟩:=List.length_eq_one_iff.1 (show u.length=1 by omega)
    obtain rfl:m=a+1:=by simpa using hm.symm
    exact zc9 hC ha he hv0 hn hbig hv h
end Go.AM
namespace Go.AM
open Go Go.Proofs.YtpecnaacgkgjmaaGreatDoor
variable {C:FuncId->List Value->M Value} {cmp:Value}
theorem j7h {α:Type} {key:α->Int} {b a k:Nat} {l:List α} (h:Chk key b l) (ha:a=k*b):((l.drop a).take b).Pairwise λ x y=>key x<=key y:=by
 subst ha;exact h k
theorem z7a {l1 l2 r1 r2:List Ev} (h1:∀ x,j5f Ev.ti x r1=j5f Ev.ti x l1) (h2:∀ x,j5f Ev.ti x r2=j5f Ev.ti x l2):∀ x,j5f Ev.ti x (r1++r2)=j5f Ev.ti x (l1++l2):=λ x=>by
 rw [j5g,j5g,h1,h2]
theorem zcn {α:Type} (l:List α) (a b:Nat):l.take (a+b)=l.take a++(l.drop a).take b:=List.take_add
theorem jwx (hC:∀ g1 g2,j09 (jvv [(277,g1),(272,g2)] C) cmp) {S0:St} {b n c:Nat} {t:TypeId} {g:Option Nat} {L:List Ev} {blk:Nat} (hb0:0 < blk) (hbn:blk < n) (hL:L.length=n) (hbig:n<=900) (hc:Chk Ev.ti blk L)
 {Q:Nat×List Value->St->Prop} (hQ:∀ (q a:Nat) (D:List Ev) S',a=q*(2*blk)->a<=n->n < a+2*blk->D.length=a->Chk Ev.ti (2*blk) D->(∀ x,j5f Ev.ti x D=j5f Ev.ti x (L.take a))->Od S0 b t g (D++L.drop a) S'->Q (1,[vI (a:Nat)]) S') :
 ∀ {S},Od S0 b t g L S->WP (jw8 (λ st=>jr0 (st.length=2) ((aI (st.headD zdj)).bind λ n_3=>(aI (st.tail.headD zdj)).bind λ n_4=>bif decide (n_4<=(n:Int)) then
  (jo1 C [Value.slice (some ⟨b,0,none⟩) n c,vI n_3,vI (wI (n_3+(blk:Int))),vI n_4,cmp]).bind λ v=>(asT v).bind λ vs=>jr0 (vs.length=0) (z5w 0 [vI n_4,vI (wI (n_4+wI (2*(blk:Int))))]) else z5w 1 [vI n_3])) [vI 0,vI (wI (2*(blk:Int)))]) S Q:=by
 intro S h
 have e2:wI (2*(blk:Int))=((2*blk:Nat):Int):=by rw [wI_ (by omega) (by omega)]; omega
 rw [e2]
 refine zgd (λ st S' m=>∃ (q a:Nat) (D:List Ev),st=[vI a,vI ((a+2*blk:Nat):Int)]/\a=q*(2*blk)/\a<=n/\m=n-a/\D.length=a/\Chk Ev.ti (2*blk) D/\(∀ x,j5f Ev.ti x D=j5f Ev.ti x (L.take a))/\Od S0 b t g (D++L.drop a) S') ?_ n _ _
  ⟨0,0,[],by simp,by omega,by omega,by omega,rfl,.nil,λ x=>by simp [j5f],by simpa using h⟩
 rintro st S' m ⟨q,a,D,rfl,ha,han,rfl,hD,hcD,hsD,ho⟩
 simp only [wps]
 refine ⟨λ h1=>?_,λ h1=>?_⟩
 ·have e3:wI ((a:Int)+(blk:Int))=((a+blk:Nat):Int):=by rw [wI_ (by omega) (by omega)]; omega
  have e4:wI (((a+2*blk:Nat):Int)+((2*blk:Nat):Int))=((a+2*blk+2*blk:Nat):Int):=by rw [wI_ (by omega) (by omega)]; omega
  rw [e3,e4]
  have hu:=j7h (a:=a) (k:=2*q) hc (by rw [ha,Nat.mul_comm 2 q,Nat.mul_assoc])
  have hv:=j7h (a:=a+blk) (k:=2*q+1) hc (by rw [ha,Nat.add_mul,Nat.mul_comm 2 q,Nat.mul_assoc]; omega)
  have lu:((L.drop a).take blk).length=blk:=by rw [List.length_take,List.length_drop]; omega
  have lv:((L.drop (a+blk)).take blk).length=blk:=by rw [List.length_take,List.length_drop]; omega
  have eL:D++L.drop a=D++(((L.drop a).take blk++(L.drop (a+blk)).take blk)++L.drop (a+2*blk)):=by
   congr 1
   rw [List.append_assoc]
   conv=>lhs;rw [<- List.take_append_drop blk (L.drop a)]
   congr 1
   rw [List.drop_drop]
   conv=>lhs;rw [<- List.take_append_drop blk (L.drop (a+blk))]
   congr 1
   rw [List.drop_drop]; congr 1;omega
  rw [eL] at ho
  have hw:=zcb (n:=n) (c:=c) (S0:=S0) (b:=b) (t:=t) (g:=g) hC (by omega) 1000 S' D _ _ _ a (a+blk) (a+2*blk) (by rw [lu,lv]; omega) (by omega) (by omega) hD (by omega) (by omega) (by simp;omega) hu hv ho
  refine WP.mono hw ?_
  rintro _ S2 ⟨rfl,w,h3,h4⟩
  have hwl:=h3.len
  rw [List.length_append,lu,lv] at hwl
  simp only [wps]
  refine ⟨n-(a+2*blk),by omega,q+1,a+2*blk,D++w,rfl,by rw [ha]; exact (Nat.succ_mul q (2*blk)).symm,by omega,rfl,by simp;omega,hcD.snoc (by rw [hD,ha]) h3.ord (by omega),?_,by simpa using h4⟩
  have e5:L.take (a+2*blk)=L.take a++((L.drop a).take blk++(L.drop (a+blk)).take blk):=by
   rw [show a+2*blk=a+(blk+blk) by omega,zcn,zcn (L.drop a),List.drop_drop]
  rw [e5]
  exact z7a hsD h3.same
 ·exact hQ q a D S' ha han (by omega) hD hcD hsD ho
theorem zag (hC1:j09 C cmp) (hC:∀ g1 g2,j09 (jvv [(277,g1),(272,g2)] C) cmp) {S0 S:St} {b n c:Nat} {t:TypeId} {g:Option Nat} {l:List Ev} (hn:l.length=n) (hbig:n<=900) (h:Od S0 b t g l S) :
 WP (jnv C [.slice (some ⟨b,0,none⟩) n c,vI n,cmp]) S λ r S'=>r=vT []/\∃ w,j18 Ev.ti l w/\Od S0 b t g w S':=by
 rw [jnw]
 simp only [wps]
 refine zgd (λ st S' m=>∃ (q a:Nat) (D:List Ev),st=[vI a,vI ((a+20:Nat):Int)]/\a=q*20/\a<=n/\m=n-a/\D.length=a/\Chk Ev.ti 20 D/\(∀ x,j5f Ev.ti x D=j5f Ev.ti x (l.take a))/\Od S0 b t g (D++l.drop a) S') ?_ n _ _
  ⟨0,0,[],rfl,rfl,by omega,by omega,rfl,.nil,λ x=>by simp [j5f],by simpa using h⟩
 rintro st S' m ⟨q,a,D,rfl,ha,han,rfl,hD,hcD,hsD,ho⟩
 simp only [wps]
 refine ⟨λ h1=>?_,λ h1=>?_⟩
 ·have lu:((l.drop a).take 20).length=20:=by rw [List.length_take,List.length_drop]; omega
  have e4:wI (((a+20:Nat):Int)+20)=((a+20+20:Nat):Int):=by rw [wI_ (by omega) (by omega)]; omega
  rw [e4]
  have eL:D++l.drop a=D++((l.drop a).take 20++l.drop (a+20)):=by
   congr 1
   conv=>lhs;rw [<- List.take_append_drop 20 (l.drop a)]
   rw [List.drop_drop]
  rw [eL] at ho
  refine (js6 (n:=n) (c:=c) hC1 hD (by omega) (by simp;omega) (by omega) ho).mono ?_
  rintro _ S2 ⟨rfl,w,h3,h4⟩
  have hwl:=h3.len
  simp only [wps]
  refine ⟨n-(a+20),by omega,q+1,a+20,D++w,rfl,by omega,by omega,rfl,by simp;omega,hcD.snoc (by rw [hD,ha]) h3.ord (by omega),?_,by simpa using h4⟩
  rw [zcn]
  exact z7a hsD h3.same
 ·refine (js6 (n:=n) (c:=c) (s:=[]) hC1 hD (e:=n) (u:=l.drop a) (by rw [List.length_drop]; omega) (by simp;omega) (by omega) (by simpa using ho)).mono ?_
  rintro _ S2 ⟨rfl,w,h3,h4⟩
  have hwl:=h3.len
  rw [List.length_drop] at hwl
  simp only [wps]
  refine zgd (λ st S' m=>∃ (blk:Nat) (L:List Ev),st=[vI blk]/\0 < blk/\m=n-blk/\blk<=2000/\L.length=n/\Chk Ev.ti blk L/\(∀ x,j5f Ev.ti x L=j5f Ev.ti x l)/\Od S0 b t g L S') ?_ (n-20) _ _
   ⟨20,D++w,rfl,by omega,rfl,by omega,by simp;omega,hcD.snoc (by rw [hD,ha]) h3.ord (by omega),?_,by simpa using h4⟩
  rotate_left
  ·have:=z7a hsD h3.same
   rwa [List.take_append_drop] at this
  rintro st S3 m ⟨blk,L,rfl,hb0,rfl,hb2,hL,hc,hs,ho3⟩
  simp only [wps]
  refine ⟨λ h5=>?_,λ h5=>?_⟩
  rotate_left
  ·exact ⟨L,⟨hc.all (by omega),hs⟩,ho3⟩
  have e9:wI ((blk:Int)*2)=((2*blk:Nat):Int):=by rw [wI_ (by omega) (by omega)]; omega
  refine jwx (S0:=S0) hC hb0 (by omega) hL hbig hc ?_ ho3
  intro q2 a2 D2 S4 ha2 han2 hna2 hD2 hcD2 hsD2 ho4
  have e3:wI ((a2:Int)+(blk:Int))=((a2+blk:Nat):Int):=by rw [wI_ (by omega) (by omega)]; omega
  have hu:=j7h (a:=a2) (k:=2*q2) hc (by rw [ha2,Nat.mul_comm 2 q2,Nat.mul_assoc])
  simp only [wps,e3,e9]
  refine ⟨λ h6=>?_,λ h6=>?_⟩
  ·have hv:=j7h (a:=a2+blk) (k:=2*q2+1) hc (by rw [ha2,Nat.add_mul,Nat.mul_comm 2 q2,Nat.mul_assoc]; omega)
   rw [List.take_of_length_le (by rw [List.length_drop]; omega)] at hv
   have lu:((L.drop a2).take blk).length=blk:=by rw [List.length_take,List.length_drop]; omega
   have lv:(L.drop (a2+blk)).length=n-(a2+blk):=by rw [List.length_drop]; omega
   have eL:D2++L.drop a2=D2++(((L.drop a2).take blk++L.drop (a2+blk))++[]):=by
    congr 1
    rw [List.append_nil]
    conv=>lhs;rw [<- List.take_append_drop blk (L.drop a2)]
    rw [List.drop_drop]
   rw [eL] at ho4
   refine WP.mono (zcb (n:=n) (c:=c) (S0:=S0) (b:=b) (t:=t) (g:=g) hC (by omega) 1000 S4 D2 _ _ _ a2 (a2+blk) n (by rw [lu,lv]; omega) (by omega) (by omega) hD2 (by omega) (by omega) (by simp;omega) hu hv ho4) ?_
   rintro _ S5 ⟨rfl,w,h7,h8⟩
   have hwl:=h7.len
   rw [List.length_append,lu,lv] at hwl
   simp only [wps]
   refine ⟨n-2*blk,by omega,2*blk,D2++w,rfl,by omega,rfl,by omega,by simp;omega,hcD2.snoc (by rw [hD2,ha2]) h7.ord (by omega),?_,by simpa using h8⟩
   have e5:L=L.take a2++((L.drop a2).take blk++L.drop (a2+blk)):=by
    conv=>lhs;rw [<- List.take_append_drop a2 L]
    congr 1
    conv=>lhs;rw [<- List.take_append_drop blk (L.drop a2)]
    rw [List.drop_drop]
   intro x
   rw [<- hs x]
   conv=>rhs;rw [e5]
   exact z7a hsD2 h7.same x
  ·rw [List.take_of_length_le (by rw [List.length_drop]; omega)] at hu
   refine ⟨n-2*blk,by omega,2*blk,D2++L.drop a2,rfl,by omega,rfl,by omega,by simp;omega,hcD2.snoc (by rw [hD2,ha2]) hu (by rw [List.length_drop]; omega),?_,ho4⟩
   intro x
   rw [<- hs x]
   conv=>rhs;rw [<- List.take_append_drop a2 L]
   exact z7a hsD2 (λ _=>rfl) x
end Go.AM
namespace Go.AM
open Go Go.Proofs.YtpecnaacgkgjmaaGreatDoor
def js3 (out:List Ev) (x:Ev):List Ev:=out.filter (λ y=>decide (y.ti<=x.ti))++x :: out.filter (λ y=>decide (x.ti < y.ti))
def z9h (l:List Ev):List Ev:=l.foldl js3 []
theorem z9w {out:List Ev} (x:Ev) (h:out.Pairwise λ a b=>a.ti<=b.ti):out=out.filter (λ y=>decide (y.ti<=x.ti))++out.filter (λ y=>decide (x.ti < y.ti)):=by
 induction out with
 | nil => rfl
 | cons y out ih =>
   obtain ⟨h1,h2⟩:=List.pairwise_cons.1 h
   have ih:=ih h2
   by_cases hy:y.ti<=x.ti
   ·rw [List.filter_cons,List.filter_cons,if_pos (by simpa using hy),if_neg (by simp;omega),List.cons_append,<- ih]
   ·have e1:out.filter (λ y=>decide (y.ti<=x.ti))=[]:=by
     rw [List.filter_eq_nil_iff]; intro z hz;have:=h1 z hz;simp;omega
    have e2:out.filter (λ y=>decide (x.ti < y.ti))=out:=by
     rw [List.filter_eq_self]; intro z hz;have:=h1 z hz;simp;omega
    rw [List.filter_cons,List.filter_cons,if_neg (by simpa using hy),if_pos (by simp;omega),e1,e2,List.nil_append]
theorem js4 {l out:List Ev} {x:Ev} (h:j18 Ev.ti l out):j18 Ev.ti (l++[x]) (js3 out x):=by
 have e:=z9w x h.ord
 rw [e] at h
 exact h.ins (λ y hy=>by have:=(List.mem_filter.1 hy).2;simpa using this) (λ y hy=>by have:=(List.mem_filter.1 hy).2;simpa using this)
theorem jde:∀ (l l0 out:List Ev),j18 Ev.ti l0 out->j18 Ev.ti (l0++l) (l.foldl js3 out)
 | [], l0, out, h => by simpa using h
 | x :: l, l0, out, h => by
   have:=jde l (l0++[x]) (js3 out x) (js4 h)
   simpa using this
theorem z9i (l:List Ev):j18 Ev.ti l (z9h l):=by
 have:=jde l [] [] (j18.self .nil)
 simpa [z9h] using this
def jzw (it tr wi:Int) (x:Ev):Bool:=decide (x.it=it) && decide (x.tr=tr) && decide (x.wi=wi)
def ofS (l:List Ev) (it tr wi:Int):List Ev:=z9h (l.filter (jzw it tr wi))
theorem jsi {x:Int}:jfx [vI x]=M.ret (vB false):=by
 refine zg6 λ S=>?_
 rw [jfy]
 simp only [wps]
 simp
theorem j7r {x y:Int}:∃ d,jfu [vI x,vI y]=M.ret (vI d)/\(d < 0↔x < y):=by
 rcases Int.lt_trichotomy x y with h | h | h
 ·refine ⟨-1,zg6 λ S=>?_,by omega⟩
  rw [jfv]
  simp only [wps,jsi]
  exact λ h'=>absurd h h'
 ·refine ⟨0,zg6 λ S=>?_,by omega⟩
  rw [jfv]
  simp only [wps,jsi]
  exact ⟨λ h'=>by omega,λ h' h''=>by omega⟩
 ·refine ⟨1,zg6 λ S=>?_,by omega⟩
  rw [jfv]
  simp only [wps,jsi]
  exact ⟨λ h'=>by omega,λ h' h''=>by omega⟩
theorem jy8 (S:St) (x y:Ev):Sp (jmv [x.val,y.val]) S λ v _=>∃ d,v=vI d/\(d < 0↔x.ti < y.ti):=by
 unfold Sp
 rw [jmw]
 obtain ⟨d,h1,h2⟩:=j7r (x:=x.ti) (y:=y.ti)
 have hb:=jeh (t:=[j00.cells [vI y.it,vI y.tr,vI y.wi,vI y.ti,vI y.ad,vU y.ma] 82 none]) (jek (S:=S) (o:=j00.cells [vI x.it,vI x.tr,vI x.wi,vI x.ti,vI x.ad,vU x.ma] 82 none))
 simp only [wps,j6u hb,h1]
 exact ⟨z1t (List.prefix_append _ _) _,d,rfl,h2⟩
theorem j7m:j09 (jvv [(223,jmv)] noC) (.func (.func 223) ⟨[]⟩ ⟨[]⟩):=by
 intro S x y
 simp only [wps,beq_self_eq_true]
 exact jy8 S x y
theorem j7n (g1 g2:List Value->M Value):j09 (jvv [(277,g1),(272,g2)] (jvv [(223,jmv)] noC)) (.func (.func 223) ⟨[]⟩ ⟨[]⟩):=by
 intro S x y
 have e1:((277:Nat) == 223)=false:=rfl
 have e2:((272:Nat) == 223)=false:=rfl
 simp only [wps,e1,e2,beq_self_eq_true]
 exact jy8 S x y
theorem zaf {C:FuncId->List Value->M Value} {cmp:Value} {S:St}:WP (jnv C [.slice none 0 0,vI 0,cmp]) S λ r S'=>r=vT []/\S'=S:=by
 have hins:∀ S,WP (jnp C [.slice none 0 0,vI 0,vI 0,cmp]) S λ r S'=>r=vT []/\S'=S:=by
  intro S
  rw [jnq]
  simp only [wps]
  refine zgp ?_
  simp only [wps]
  rw [wI_ (n:=0+1) (by omega) (by omega)]
  exact λ h=>by omega
 rw [jnw]
 simp only [wps]
 refine zgp ?_
 simp only [wps]
 refine ⟨λ h=>by omega,λ _=>?_⟩
 refine (hins S).mono ?_
 rintro _ S1 ⟨rfl,rfl⟩
 simp only [wps]
 refine zgp ?_
 simp only [wps]
 exact λ h=>by omega
theorem Od.ap {S0 S S':St} {b k:Nat} {l r:List Ev} (ha:Ap S0 none S (some ⟨b,0,none⟩) k 82 6 (l.flatMap Ev.cells)) (h:Od S b 82 (some 6) r S') (hl:r.length=l.length) :
 Ap S0 none S' (some ⟨b,0,none⟩) k 82 6 (r.flatMap Ev.cells) where
 len:=Nat.le_trans ha.len h.len
 keep:=λ i hi hne=>by
  have hb:=ha.new rfl
  rw [h.keep i (Nat.lt_of_lt_of_le hi ha.len) (by intro e;subst e;dsimp at hb;omega),ha.keep i hi hne]
 at_:=ha.at_
 size:=by rw [jbh,hl]; have:=ha.size;rwa [jbh] at this
 own:=.inr ⟨b,rfl,h.at_⟩
 was:=.inl rfl
theorem jya {S:St} {p:Option Addr} {n c:Nat} {l:List Ev} {it tr wi:Int} (h:Ar S p n 6 Ev.cells l) (hn:n<=900) :
 WP (jms [.slice p n c,vI it,vI tr,vI wi]) S λ v S'=>∃ a,v=vT [.slice a (ofS l it tr wi).length (ofS l it tr wi).length,vI 0]/\Ap S none S' a (ofS l it tr wi).length 82 6 ((ofS l it tr wi).flatMap Ev.cells):=by
 have hl:=h.1
 rw [jmt]
 simp only [wps,j7g.wp,if_neg (show ¬ 1024 < n by omega)]
 refine zgd (λ st S' m=>∃ (j:Nat) (a:Option Addr) (k:Nat),st=[.slice a k k,vI j]/\j<=n/\m=n-j/\Ap S none S' a k 82 6 (((l.take j).filter (jzw it tr wi)).flatMap Ev.cells)) ?_ n _ _
  ⟨0,none,0,rfl,by omega,by omega,Ap.nil⟩
 rintro st S' m ⟨j,a,k,rfl,hj,rfl,ha⟩
 have hcnt:=ha.cnt (λ _=>rfl) (by decide)
 have hcl:((l.take j).filter (jzw it tr wi)).length<=n:=Nat.le_trans (List.length_filter_le _ _) (by rw [List.length_take]; omega)
 simp only [wps]
 refine ⟨λ h3=>⟨h3,?_⟩,λ h3=>?_⟩
 ·have hj':j < l.length:=by omega
  obtain ⟨x,rfl,d0,d1,d2,d3,d4,d5⟩:=(h.mono ha.pre).getEv hj'
  have et:(l.take (j+1)).filter (jzw it tr wi)=(l.take j).filter (jzw it tr wi)++(if jzw it tr wi l[j]=true then [l[j]] else []):=by
   rw [List.take_add_one,List.getElem?_eq_getElem hj',List.filter_append]
   congr 1
   by_cases hf:jzw it tr wi l[j]=true <;> simp [hf]
  simp only [wps,d0,d1,d2,d3,d4,d5]
  rw [wI_ (n:=(j:Int)+1) (by omega) (by omega)]
  have hp2:=List.prefix_append S' [j00.cells [vI l[j].it,vI l[j].tr,vI l[j].wi,vI l[j].ti,vI l[j].ad,vU l[j].ma] 82 none]
  have hb:=jek (S:=S') (o:=j00.cells [vI l[j].it,vI l[j].tr,vI l[j].wi,vI l[j].ti,vI l[j].ad,vU l[j].ma] 82 none)
  have skip:jzw it tr wi l[j]=false->∃ n' < n-j,∃ (j':Nat) (a':Option Addr) (k':Nat),[Value.slice a k k,vI ((j:Int)+1)]=[Value.slice a' k' k',vI j']/\j'<=n/\n'=n-j' /\
   Ap S none (S'++[j00.cells [vI l[j].it,vI l[j].tr,vI l[j].wi,vI l[j].ti,vI l[j].ad,vU l[j].ma] 82 none]) a' k' 82 6 (((l.take j').filter (jzw it tr wi)).flatMap Ev.cells):=by
   intro hf
   refine ⟨n-(j+1),by omega,j+1,_,_,rfl,by omega,rfl,?_⟩
   rw [et,if_neg (by simp [hf]),List.append_nil]
   exact ha.more hp2
  unfold jto
  simp only [wps,j6u hb]
  refine ⟨λ e1=>⟨λ e2=>⟨λ e3=>?_,λ e3=>skip ?_⟩,λ e2=>skip ?_⟩,λ e1=>skip ?_⟩
  ·refine zgh (ha.more hp2) rfl (by omega) (by omega) rfl ?_
   intro b' S3 h6
   simp only [wps]
   refine ⟨n-(j+1),by omega,j+1,_,_,rfl,by omega,rfl,?_⟩
   rw [et,if_pos (by unfold jzw;simp [e1,e2,e3]),List.flatMap_append]
   exact h6
  ·unfold jzw;simp [e3]
  ·unfold jzw;simp [e2]
  ·unfold jzw;simp [e1]
 ·rw [List.take_of_length_le (by omega)] at ha hcnt hcl
  have hst:=z9i (l.filter (jzw it tr wi))
  have hlen:=hst.len
  have hout:ofS l it tr wi=z9h (l.filter (jzw it tr wi)):=rfl
  have hk:k=(ofS l it tr wi).length:=by rw [hout,hlen,hcnt]
  rw [jnn]
  rcases ha.own with ⟨rfl,h0⟩ | ⟨b,rfl,hb⟩
  ·have hnil:l.filter (jzw it tr wi)=[]:=List.eq_nil_of_length_eq_zero (by omega)
   rw [h0] at ha ⊢
   simp only [wps]
   refine zaf.mono ?_
   rintro _ S2 ⟨rfl,rfl⟩
   simp only [wps]
   have : ofS l it tr wi=[]:=by rw [hout,hnil]; rfl
   rw [this]
   exact ⟨none,rfl,by rw [hnil] at ha;exact ha⟩
  ·simp only [wps]
   refine (zag (S0:=S') (l:=l.filter (jzw it tr wi)) j7m j7n hcnt.symm (by omega) (Od.refl hb)).mono ?_
   rintro _ S2 ⟨rfl,w,h3,h4⟩
   simp only [wps]
   have hw:w=ofS l it tr wi:=h3.unique hst
   subst hw
   refine ⟨some ⟨b,0,none⟩,by rw [<- hk],?_⟩
   rw [<- hk]
   exact Od.ap ha h4 (by rw [hout,hlen])
structure Ts where
 m:Mm
 win:Int
 Y:List Int
 fx:List (Int×Fx)
 sl:List (Int×Int)
abbrev j1j:=Mm->(Bool×List Fx×List Int)×Mm
def Ts.on (s:Ts) (r:(Bool×List Fx×List Int)×Mm) (sl:List (Int×Int)):Ts:=⟨r.2,s.win+1,r.1.2.2,s.fx++r.1.2.1.map (λ x=>(s.win+1,x)),s.sl++sl⟩
def Ts.next (s:Ts) (f:j1j) (of:Int->List Ev):(Bool×List Fx×List Int)×Mm:=f (s.m.nxt (of (s.win+1)))
def zf4 (f:j1j) (of:Int->List Ev) (step:Int):Nat->Ts->Bool×Ts
 | 0, s => (false, s)
 | k + 1, s => if (s.next f of).1.1 = true then (true, s.on (s.next f of) []) else zf4 f of step k (s.on (s.next f of) [(s.win + 1, step)])
structure TP where
 p:Int
 ax:List Ax
 inv:Bool
 times:Nat
def doF (c:TP) (s:Stp) (src dst:Int):j1j:=λ m=>(((ze2 m c.p c.ax c.inv s src dst (2*(nV c.ax+6))).1.1.1,(ze2 m c.p c.ax c.inv s src dst (2*(nV c.ax+6))).1.1.2,[]),(ze2 m c.p c.ax c.inv s src dst (2*(nV c.ax+6))).2)
def jzj (c:TP) (src:Int):j1j:=λ m=>(((jzo m c.p (nV c.ax) src).1.1.2.1,(jzo m c.p (nV c.ax) src).1.1.2.2,(jzo m c.p (nV c.ax) src).1.1.1),(jzo m c.p (nV c.ax) src).2)
def j2g (c:TP) (of:Int->List Ev):List Stp->Int->Int->Int->Ts->Bool×Ts
 | [], i, src, _, s => zf4 (jzj c src) of i c.times s
 | st :: l, i, src, dst, s => if (zf4 (doF c st src dst) of i c.times s).1 = true then j2g c of l (i + 1) dst src (zf4 (doF c st src dst) of i c.times s).2 else zf4 (doF c st src dst) of i c.times s
def m0T (p W:Int) (x:List Int) (l:List Ev):Mm:=(juh ⟨List.replicate W.toNat 0,l,0,0⟩ (x++z97 (zbu p x)) 0).2
def jsl (q:Req) (it:Int):List Int:=(q.X.drop (it*nV q.axes).toNat).take (nV q.axes).toNat
def zdk (q:Req):TP:=⟨q.P,q.axes,q.inv,(q.retry+1).toNat⟩
def zds (q:Req) (it tr:Int) (l:List Ev):Bool×Ts:=
 j2g (zdk q) (ofS l it tr) (zau q.inv 0 q.axes) 0 0 (nV q.axes+6) ⟨m0T q.P (jwd q.P q.axes q.inv).1.W (jsl q it) (ofS l it tr 0),0,[],[],[]⟩
structure Tr where
 ok:Bool
 Y:List Int
 fx:List (Int×Fx)
 sl:List (Int×Int)
 ticks:Int
def zdq (q:Req) (it tr:Int) (n:Nat):Int:=if j7c q≠0 then j7c q else if 0<=it/\it < q.batch/\0<=tr/\tr<=q.again/\n<=1024 then 0 else 1
def zdr (q:Req) (it tr:Int) (l:List Ev):Tr:=
 if zdq q it tr l.length=0 then ⟨(zds q it tr l).1,(zds q it tr l).2.Y,(zds q it tr l).2.fx,(zds q it tr l).2.sl,(zds q it tr l).2.m.ah+(zds q it tr l).2.m.t⟩ else ⟨false,[],[],[],0⟩
structure j1e (f:j1j) (w:Nat) (cost:Int):Prop where
 len:∀ m:Mm,m.W.length=w->(f m).2.W.length=w
 ah:∀ m:Mm,(f m).2.ah=m.ah
 t:∀ m:Mm,m.W.length=w->m.t+7<=(f m).2.t/\(f m).2.t<=m.t+cost+(f m).1.2.1.length
 te:∀ m:Mm,m.W.length=w->(f m).1.1=true->(f m).2.t=m.t+cost+(f m).1.2.1.length
 fx:∀ m:Mm,m.W.length=w->(f m).1.2.1.length<=3
 ne:∀ m:Mm,m.ok->∀ x∈(f m).1.2.1,x.bad≠x.good
 y:∀ m:Mm,m.W.length=w->(f m).1.1=false->(f m).1.2.2=[]
 yl:∀ m:Mm,m.W.length=w->(f m).1.2.2.length<=4096
theorem z7r {m:Mm} (h:m.ok) (p n a:Int):∀ x∈(z7o m p n a).1.1.1,x.bad≠x.good:=by
 unfold z7o
 split
 ·intro x hx;cases hx
 ·split
  ·intro x hx;cases hx
  ·dsimp only
   split
   ·intro x hx;cases hx
   ·intro x hx
    obtain ⟨g,hg,rfl⟩:=List.mem_map.1 hx
    exact jcj (λ y hy=>((Mm.ok.rds _ h).2 y hy).1) g hg
theorem ze5 (m:Mm) (p:Int) (l:List Ax) (inv:Bool) (s:Stp) (src dst tab:Int):(ze2 m p l inv s src dst tab).1.1.2=[]\/(ze2 m p l inv s src dst tab).1.1.2=(z7o m p (nV l) src).1.1.1:=by
 unfold ze2
 split
 ·exact .inl rfl
 ·split
  ·dsimp only
   split
   ·exact .inl rfl
   ·exact .inr rfl
  ·exact .inl rfl
theorem jzq (m:Mm) (p n a:Int):(jzo m p n a).1.1.2.2=[]\/(jzo m p n a).1.1.2.2=(z7o m p n a).1.1.1:=by
 unfold jzo
 dsimp only
 split
 ·exact .inl rfl
 ·split
  ·exact .inl rfl
  ·split
   ·exact .inr rfl
   ·exact .inr rfl
theorem jzu {m:Mm} {p a:Int} {n:Nat} (hk:jt3 p=true) (hn:1<=n/\n<=4096) (hN:m.hasN a ((n:Int)+6)=true) :
 (jzo m p n a).1.2=0/\(jzo m p n a).1.1.2.2.length<=3/\(jzo m p n a).2.W.length=m.W.length /\
 (((jzo m p n a).1.1=([],false,[])/\(jzo m p n a).2.t=m.t+n+6) \/
  ((jzo m p n a).2.t=m.t+2*n+6+(jzo m p n a).1.1.2.2.length/\(((jzo m p n a).1.1.2.1=true/\(jzo m p n a).1.1.1.length=n)\/((jzo m p n a).1.1.2.1=false/\(jzo m p n a).1.1.1=[])))):=by
 obtain ⟨a1,a2,a3⟩:=z7u hk hn hN
 obtain ⟨g1,g2,g3,g4⟩:=Mm.rds_len (z6b a n) (z7o m p n a).2
 rw [z6d] at g2 g3
 unfold jzo
 rw [Int.toNat_natCast]
 generalize z7o m p n a=A at a1 a2 a3 g1 g2 g3 g4 ⊢
 dsimp only
 rcases a3 with ⟨e1,e2⟩ | ⟨e1,e2,e3⟩
 ·rw [if_neg (by rw [e1]; decide),if_neg (by rw [e1]; decide)]
  split
  ·exact ⟨rfl,a2,g1.trans a1,.inr ⟨by dsimp only;omega,.inl ⟨rfl,g2⟩⟩⟩
  ·exact ⟨rfl,a2,g1.trans a1,.inr ⟨by dsimp only;omega,.inr ⟨rfl,rfl⟩⟩⟩
 ·rw [if_pos e1]
  exact ⟨rfl,by simp,a1,.inl ⟨rfl,e2⟩⟩
def PlT (n:Int) (w:Nat) (src dst:Int):Prop:=0<=src/\0<=dst/\src+n+6<=w/\dst+n+6<=w
theorem jra {m:Mm} {w:Nat} (h:m.W.length=w) {a n:Int} (h1:0<=a/\0<=n/\a+n<=w):m.hasN a n=true:=by unfold Mm.hasN;apply decide_eq_true;omega
def j82 (c:TP) (st:Stp):Int:=6*nV c.ax+12+2*((zcd c.p c.ax c.inv st).length:Int)
theorem ja1 {c:TP} {st:Stp} {src dst:Int} {w:Nat} (hs:zam c.p c.ax st=0) (hp:PlT (nV c.ax) w src dst) (ht:2*(nV c.ax+6)+((zcd c.p c.ax c.inv st).length:Int)<=w):j1e (doF c st src dst) w (j82 c st):=by
 obtain ⟨p1,p2,p3,p4⟩:=hp
 obtain ⟨kk,dd,inner,nn,mm,hS⟩:=zas hs
 have hnn:=hS.nn
 have hn1:=hS.n1
 have T:∀ m:Mm,m.W.length=w->_:=λ m hm=>zea (m:=m) (inv:=c.inv) (src:=src) (dst:=dst) (tab:=2*(nV c.ax+6)) hs (jra hm ⟨p1,by omega,by omega⟩) (jra hm ⟨p2,by omega,by omega⟩) (jra hm ⟨by omega,by omega,by omega⟩)
 refine ⟨λ m hm=>(T m hm).2.2.1.trans hm,λ m=>ze4 _ _ _ _ _ _ _ _,λ m hm=>?_,λ m hm hb=>?_,λ m hm=>(T m hm).2.1,λ m hm=>?_,λ m hm _=>rfl,λ m hm=>Nat.zero_le _⟩
 ·obtain ⟨t1,t2,t3,t4⟩:=T m hm
  unfold doF j82;dsimp only
  rcases t4 with ⟨u1,u2,u3⟩ | u
  ·rw [u2,u3]; exact ⟨by omega,by simp only [List.length_nil]; omega⟩
  ·rw [u]; exact ⟨by omega,by omega⟩
 ·obtain ⟨t1,t2,t3,t4⟩:=T m hm
  unfold doF j82;dsimp only
  rcases t4 with ⟨u1,u2,u3⟩ | u
  ·exact absurd (u1.symm.trans hb) (by decide)
  ·rw [u]; omega
 ·unfold doF;dsimp only
  rcases ze5 m c.p c.ax c.inv st src dst (2*(nV c.ax+6)) with e | e
  ·rw [e]; intro x hx;cases hx
  ·rw [e]; exact z7r hm _ _ _
theorem jzk {c:TP} {src:Int} {w:Nat} (hk:jt3 c.p=true) (hn:1<=nV c.ax/\nV c.ax<=4096) (hp:0<=src/\src+nV c.ax+6<=w):j1e (jzj c src) w (2*nV c.ax+6):=by
 obtain ⟨n,hnn⟩:=Int.eq_ofNat_of_zero_le (show 0<=nV c.ax by omega)
 have T:∀ m:Mm,m.W.length=w->_:=λ m hm=>jzu (m:=m) (p:=c.p) (a:=src) (n:=n) hk (by omega) (jra hm ⟨hp.1,by omega,by omega⟩)
 rw [<- hnn] at T
 refine ⟨λ m hm=>(T m hm).2.2.1.trans hm,λ m=>?_,λ m hm=>?_,λ m hm hb=>?_,λ m hm=>(T m hm).2.1,λ m hm=>?_,λ m hm hb=>?_,λ m hm=>?_⟩
 ·have ah:=z7p m c.p (nV c.ax) src
  unfold jzj jzo;dsimp only
  split
  ·exact ah
  ·split
   ·exact ah
   ·split
    ·exact (Mm.rds_len _ _).2.2.2.trans ah
    ·exact (Mm.rds_len _ _).2.2.2.trans ah
 ·obtain ⟨t1,t2,t3,t4⟩:=T m hm
  unfold jzj;dsimp only
  rcases t4 with ⟨u1,u2⟩ | ⟨u,_⟩
  ·rw [u1,u2]; exact ⟨by omega,by simp only [List.length_nil]; omega⟩
  ·rw [u]; exact ⟨by omega,by omega⟩
 ·obtain ⟨t1,t2,t3,t4⟩:=T m hm
  unfold jzj;dsimp only
  rcases t4 with ⟨u1,u2⟩ | ⟨u,_⟩
  ·have hb':(jzo m c.p (nV c.ax) src).1.1.2.1=true:=hb
   rw [u1] at hb'; cases hb'
  ·rw [u]; omega
 ·unfold jzj;dsimp only
  rcases jzq m c.p (nV c.ax) src with e | e
  ·rw [e]; intro x hx;cases hx
  ·rw [e]; exact z7r hm _ _ _
 ·obtain ⟨t1,t2,t3,t4⟩:=T m hm
  have hb':(jzo m c.p (nV c.ax) src).1.1.2.1=false:=hb
  show (jzo m c.p (nV c.ax) src).1.1.1=[]
  rcases t4 with ⟨u1,u2⟩ | ⟨u,h | h⟩
  ·rw [u1]
  ·rw [hb'] at h;cases h.1
  ·exact h.2
 ·obtain ⟨t1,t2,t3,t4⟩:=T m hm
  show (jzo m c.p (nV c.ax) src).1.1.1.length<=4096
  rcases t4 with ⟨u1,u2⟩ | ⟨u,h | h⟩
  ·rw [u1]; exact Nat.zero_le _
  ·rw [h.2]; omega
  ·rw [h.2]; exact Nat.zero_le _
def Own (L:Nat) (S:St) (a:Option Addr) (t:TypeId) (w:Nat) (cs:List Value):Prop:=(a=none/\cs=[])\/∃ b,a=some ⟨b,0,none⟩/\L<=b/\S[b]? = some (.cells cs t (some w))
theorem Own.nil {L:Nat} {S:St} {t:TypeId} {w:Nat}:Own L S none t w []:=.inl ⟨rfl,rfl⟩
theorem Own.keep {L:Nat} {S S':St} {a:Option Addr} {t:TypeId} {w:Nat} {cs:List Value} (h:Own L S a t w cs) (k:∀ i,a=some ⟨i,0,none⟩->S'[i]? = S[i]?):Own L S' a t w cs:=by
 rcases h with h | ⟨b,e1,e2,e3⟩
 ·exact .inl h
 ·exact .inr ⟨b,e1,e2,by rw [k b e1]; exact e3⟩
theorem Own.pre {L:Nat} {S S':St} {a:Option Addr} {t:TypeId} {w:Nat} {cs:List Value} (h:Own L S a t w cs) (k:S <+: S'):Own L S' a t w cs:=h.imp id λ ⟨b,h1,h2,h3⟩=>⟨b,h1,h2,z1w k h3⟩
theorem Own.ar {α:Type} {L:Nat} {S:St} {a:Option Addr} {t:TypeId} {w:Nat} {e:α->List Value} {l:List α} (h:Own L S a t w (l.flatMap e)) (hw:∀ x,(e x).length=w) (hw0:0 < w):Ar S a l.length w e l:=by
 rcases h with ⟨rfl,h⟩ | ⟨b,rfl,_,hb⟩
 ·cases l with
  | nil=>exact .nil
  | cons x l=>rw [List.flatMap_cons] at h;have:=hw x;rw [List.append_eq_nil_iff] at h;rw [h.1] at this;simp at this;omega
 ·exact Ar.blk hb (λ x _=>hw x) rfl
theorem zgj {L:Nat} {S:St} {a:Option Addr} {n w bt:Nat} {t t0:TypeId} {cs xs:List Value} {Q:Sl->St->Prop} (h:Own L S a t w cs) (hn:cs.length=n*w) (hx:xs.length=w) (hw:0 < w) (hl:xs.all juu=true) (hbt:1<=bt/\bt<=100) (hsz:n<=1000000) (hL:L<=S.length)
 (q:∀ b S',S.length<=b->b < S'.length->S.length<=S'.length->(∀ i,i < S.length->a≠some ⟨i,0,none⟩->S'[i]? = S[i]?)->Own L S' (some ⟨b,0,none⟩) t w (cs++xs)->Q ⟨some ⟨b,0,none⟩,n+1,n+1⟩ S') :
 WP (rdN (some (ad S.length 0)) w) (S++[j00.cells xs t0 none]) λ ys S1=>WP (j33 t w bt a n n 1 ys) S1 Q:=by
 refine z4y (jek (S:=S) (o:=j00.cells xs t0 none)) hx ?_
 have own':(a=none/\n=0/\cs=[])\/∃ b,a=some ⟨b,0,none⟩/\(S++[j00.cells xs t0 none])[b]? = some (.cells cs t (some w)):=by
  rcases h with ⟨e1,e2⟩ | ⟨b,e1,_,e3⟩
  ·refine .inl ⟨e1,?_,e2⟩
   rw [e2] at hn
   rcases Nat.mul_eq_zero.1 (show n*w=0 from hn.symm) with h | h
   ·exact h
   ·omega
  ·exact .inr ⟨b,e1,jeh e3⟩
 have hb:(n+1)*bt<=(n+1)*100:=Nat.mul_le_mul_left _ hbt.2
 refine zft own' hn (by omega) (by omega) hbt.1 hl ?_
 intro S' h1 h2 h3
 simp only [List.length_append,List.length_singleton] at h1 h2 h3 ⊢
 exact q _ S' (by omega) (by omega) (by omega) (λ i hi hne=>by rw [h2 i (by omega) hne,List.getElem?_append_left hi]) (.inr ⟨_,rfl,by omega,h3⟩)
def rC (ok:Bool) (ya:Option Addr) (yn:Nat) (fa:Option Addr) (fn:Nat) (sa:Option Addr) (sn:Nat) (tk:Int) (b:Nat) (la:Option Addr) (ln lc:Nat) (it tr win:Int):List Value:=
 [vB ok,.slice ya yn yn,.slice fa fn fn,.slice sa sn sn,vI tk,.pointer (some ⟨b,0,none⟩),.slice la ln lc,vI it,vI tr,vI win]
section
variable {ok ok':Bool} {ya ya' fa fa' sa sa' la:Option Addr} {yn yn' fn fn' sn sn' b ln lc:Nat} {tk tk' it tr win win':Int}
theorem z41:(rC ok ya yn fa fn sa sn tk b la ln lc it tr win).length=10:=rfl
theorem z3r:(rC ok ya yn fa fn sa sn tk b la ln lc it tr win)[0]? = some (vB ok):=rfl
theorem z3s:(rC ok ya yn fa fn sa sn tk b la ln lc it tr win)[1]? = some (.slice ya yn yn):=rfl
theorem z3t:(rC ok ya yn fa fn sa sn tk b la ln lc it tr win)[2]? = some (.slice fa fn fn):=rfl
theorem z3u:(rC ok ya yn fa fn sa sn tk b la ln lc it tr win)[3]? = some (.slice sa sn sn):=rfl
theorem z3v:(rC ok ya yn fa fn sa sn tk b la ln lc it tr win)[4]? = some (vI tk):=rfl
theorem z3w:(rC ok ya yn fa fn sa sn tk b la ln lc it tr win)[5]? = some (.pointer (some ⟨b,0,none⟩)):=rfl
theorem z3x:(rC ok ya yn fa fn sa sn tk b la ln lc it tr win)[6]? = some (.slice la ln lc):=rfl
theorem z3y:(rC ok ya yn fa fn sa sn tk b la ln lc it tr win)[7]? = some (vI it):=rfl
theorem z3z:(rC ok ya yn fa fn sa sn tk b la ln lc it tr win)[8]? = some (vI tr):=rfl
theorem z40:(rC ok ya yn fa fn sa sn tk b la ln lc it tr win)[9]? = some (vI win):=rfl
theorem z42:splice (rC ok ya yn fa fn sa sn tk b la ln lc it tr win) 1 [.slice ya' yn' yn']=rC ok ya' yn' fa fn sa sn tk b la ln lc it tr win:=rfl
theorem z43:splice (rC ok ya yn fa fn sa sn tk b la ln lc it tr win) 2 [.slice fa' fn' fn']=rC ok ya yn fa' fn' sa sn tk b la ln lc it tr win:=rfl
theorem z44:splice (rC ok ya yn fa fn sa sn tk b la ln lc it tr win) 3 [.slice sa' sn' sn']=rC ok ya yn fa fn sa' sn' tk b la ln lc it tr win:=rfl
theorem z45:splice (rC ok ya yn fa fn sa sn tk b la ln lc it tr win) 4 [vI tk']=rC ok ya yn fa fn sa sn tk' b la ln lc it tr win:=rfl
theorem z46:splice (rC ok ya yn fa fn sa sn tk b la ln lc it tr win) 9 [vI win']=rC ok ya yn fa fn sa sn tk b la ln lc it tr win':=rfl
end
abbrev jah (it tr:Int) (x:Int×Fx):List Value:=[vI it,vI tr,vI x.1,vI x.2.ad,vU x.2.bad,vU x.2.good]
abbrev jai (it tr:Int) (x:Int×Int):List Value:=[vI it,vI tr,vI x.1,vI x.2]
def blk (a:Option Addr):List Nat:=a.toList.map (·.block)
theorem jwp {a:Option Addr} {i:Nat}:i∈blk a↔∃ y,a=some y/\y.block=i:=by cases a <;> simp [blk,eq_comm]
abbrev fpR (rb:Nat) (T:List Nat) (fa sa:Option Addr):List Nat:=rb :: (T++(blk fa++blk sa))
theorem Own.blk_lt {L:Nat} {S:St} {a:Option Addr} {t:TypeId} {w:Nat} {cs:List Value} (h:Own L S a t w cs) {i:Nat} (hi:i∈blk a):L<=i/\i < S.length/\a=some ⟨i,0,none⟩:=by
 obtain ⟨y,e,rfl⟩:=jwp.1 hi
 rcases h with ⟨e1,_⟩ | ⟨b,e1,e2,hb⟩
 ·rw [e1] at e;cases e
 ·rw [e] at e1;cases e1;exact ⟨e2,z1y hb,e⟩
structure RS (la:Option Addr) (ln lc:Nat) (it tr:Int) (S0:St) (M0:List Nat) (S:St) (rb b:Nat) (T:List Nat) (s:Ts) (ya fa sa:Option Addr):Prop where
 mo:Mo M0 S0 (fpR rb T fa sa) S
 r:S[rb]? = some (.cells (rC false ya s.Y.length fa s.fx.length sa s.sl.length 0 b la ln lc it tr s.win) 172 none)
 ms:MS S b s.m T
 y:Ar S ya s.Y.length 1 eU s.Y
 ny:s.Y≠[]->∀ y,ya=some y->y.block∉fpR rb T fa sa
 fx:Own 0 S fa 80 6 (s.fx.flatMap (jah it tr))
 sl:Own 0 S sa 76 4 (s.sl.flatMap (jai it tr))
 rT:rb∉T
 nf:∀ i∈blk fa,i∉T/\i≠rb
 ns:∀ i∈blk sa,i∉T/\i≠rb/\i∉blk fa
 ne:∀ x∈s.fx,x.2.bad≠x.2.good
section
variable {la:Option Addr} {ln lc:Nat} {it tr:Int} {S0:St} {M0:List Nat} {S S':St} {rb b:Nat} {T T':List Nat} {s:Ts} {ya fa sa:Option Addr}
theorem RS.lt (h:RS la ln lc it tr S0 M0 S rb b T s ya fa sa) {i:Nat} (hi:i∈fpR rb T fa sa):i < S.length:=by
 rcases List.mem_cons.1 hi with rfl | hi
 ·exact z1y h.r
 ·rcases List.mem_append.1 hi with hi | hi
  ·exact h.ms.lt _ hi
  ·rcases List.mem_append.1 hi with hi | hi
   ·exact (h.fx.blk_lt hi).2.1
   ·exact (h.sl.blk_lt hi).2.1
theorem RS.pre (h:RS la ln lc it tr S0 M0 S rb b T s ya fa sa) (k:S <+: S'):RS la ln lc it tr S0 M0 S' rb b T s ya fa sa:=
 ⟨h.mo.more k,z1w k h.r,h.ms.pre k,h.y.mono k,h.ny,h.fx.pre k,h.sl.pre k,h.rT,h.nf,h.ns,h.ne⟩
theorem RS.put (h:RS la ln lc it tr S0 M0 S rb b T s ya fa sa) {Y':List Int} {win':Int} {ya':Option Addr} (hy:Ar S ya' Y'.length 1 eU Y') (hn:Y'≠[]->∀ y,ya'=some y->y.block∉fpR rb T fa sa) :
 RS la ln lc it tr S0 M0 (S.set rb (.cells (rC false ya' Y'.length fa s.fx.length sa s.sl.length 0 b la ln lc it tr win') 172 none)) rb b T { s with Y:=Y',win:=win' } ya' fa sa:=by
 have hlt:=z1y h.r
 have hk:∀ o:j00,Kp [rb] S (S.set rb o):=λ o=>⟨by simp,λ i hi hn=>by rw [List.getElem?_set_ne]; rintro rfl;simp at hn⟩
 refine ⟨h.mo.trans ⟨(hk _).mono (by simp),λ i hi=>.inl hi⟩,List.getElem?_set_self hlt,h.ms.kp (hk _) (λ i hi hr=>h.rT (by rw [List.mem_singleton] at hr;exact hr ▸ hi)),?_,hn,?_,?_,h.rT,h.nf,h.ns,h.ne⟩
 ·by_cases hY:Y'=[]
  ·subst hY;exact ⟨rfl,λ i hi=>absurd hi (by simp)⟩
  ·refine hy.keepL λ y e=>?_
   rw [List.getElem?_set_ne]
   rintro rfl
   exact hn hY y e (by simp)
 ·refine h.fx.keep λ i e=>?_
  rw [List.getElem?_set_ne]
  rintro rfl
  exact (h.nf _ (jwp.2 ⟨_,e,rfl⟩)).2 rfl
 ·refine h.sl.keep λ i e=>?_
  rw [List.getElem?_set_ne]
  rintro rfl
  exact (h.ns _ (jwp.2 ⟨_,e,rfl⟩)).2.1 rfl
theorem RS.mem (h:RS la ln lc it tr S0 M0 S rb b T s ya fa sa) (hY:s.Y=[]) (k:Mo T S T' S') {m':Mm} (hm:MS S' b m' T'):RS la ln lc it tr S0 M0 S' rb b T' { s with m:=m' } ya fa sa:=by
 have hrl:=z1y h.r
 have hf:∀ i∈blk fa,i < S.length:=λ i hi=>(h.fx.blk_lt hi).2.1
 have hs:∀ i∈blk sa,i < S.length:=λ i hi=>(h.sl.blk_lt hi).2.1
 refine ⟨h.mo.trans ⟨k.kp.mono (λ i hi=>by simp [hi]),λ i hi=>?_⟩,k.get h.r h.rT,hm,?_,λ e=>absurd hY e,?_,?_,k.out h.rT hrl,λ i hi=>⟨k.out (h.nf i hi).1 (hf i hi),(h.nf i hi).2⟩,λ i hi=>⟨k.out (h.ns i hi).1 (hs i hi),(h.ns i hi).2⟩,h.ne⟩
 ·rcases List.mem_cons.1 hi with rfl | hi
  ·exact .inl (by simp)
  ·rcases List.mem_append.1 hi with hi | hi
   ·rcases k.own i hi with h' | h'
    ·exact .inl (by simp [h'])
    ·exact .inr h'
   ·exact .inl (List.mem_cons_of_mem _ (List.mem_append_right _ hi))
 ·show Ar S' ya s.Y.length 1 eU s.Y
  rw [hY]; exact ⟨rfl,λ i hi=>absurd hi (by simp)⟩
 ·exact h.fx.keep λ i e=>k.kp.keep i (hf i (jwp.2 ⟨_,e,rfl⟩)) (h.nf i (jwp.2 ⟨_,e,rfl⟩)).1
 ·exact h.sl.keep λ i e=>k.kp.keep i (hs i (jwp.2 ⟨_,e,rfl⟩)) (h.ns i (jwp.2 ⟨_,e,rfl⟩)).1
theorem RS.ylt (h:RS la ln lc it tr S0 M0 S rb b T s ya fa sa) (hY:s.Y≠[]) {y:Addr} (e:ya=some y):y.block < S.length:=h.y.low (λ x=>⟨_,rfl⟩) hY y e
theorem RS.pushF (h:RS la ln lc it tr S0 M0 S rb b T s ya fa sa) {nb:Nat} {x:Int×Fx} (hx:x.2.bad≠x.2.good) (hb:S.length<=nb) (hlt:nb < S'.length) (hl:S.length<=S'.length) (hk:∀ i,i < S.length->fa≠some ⟨i,0,none⟩->S'[i]? = S[i]?)
 (ho:Own 0 S' (some ⟨nb,0,none⟩) 80 6 (s.fx.flatMap (jah it tr)++jah it tr x)) :
 RS la ln lc it tr S0 M0 (S'.set rb (.cells (rC false ya s.Y.length (some ⟨nb,0,none⟩) (s.fx.length+1) sa s.sl.length 0 b la ln lc it tr s.win) 172 none)) rb b T { s with fx:=s.fx++[x] } ya (some ⟨nb,0,none⟩) sa:=by
 have hrl:=z1y h.r
 have hT:=h.ms.lt
 have hs:∀ i∈blk sa,i < S.length:=λ i hi=>(h.sl.blk_lt hi).2.1
 have hkp:∀ o:j00,Kp (rb :: blk fa) S (S'.set rb o):=λ o=>⟨by simp;exact hl,λ i hi hn=>by
  rw [List.getElem?_set_ne (by rintro rfl;simp at hn)]
  exact hk i hi λ e=>hn (List.mem_cons_of_mem _ (jwp.2 ⟨_,e,rfl⟩))⟩
 have hbk:blk (some ⟨nb,0,none⟩)=[nb]:=rfl
 refine ⟨h.mo.trans ⟨(hkp _).mono (λ i hi=>?_),λ i hi=>?_⟩,?_,h.ms.kp (hkp _) (λ i hi hr=>?_),?_,λ hY y e=>?_,?_,?_,h.rT,λ i hi=>?_,λ i hi=>?_,λ y hy=>?_⟩
 ·rcases List.mem_cons.1 hi with rfl | hi
  ·simp
  ·exact List.mem_cons_of_mem _ (List.mem_append_right _ (List.mem_append_left _ hi))
 ·rcases List.mem_cons.1 hi with rfl | hi
  ·exact .inl (by simp)
  ·rcases List.mem_append.1 hi with hi | hi
   ·exact .inl (by simp [hi])
   ·rcases List.mem_append.1 hi with hi | hi
    ·rw [hbk,List.mem_singleton] at hi;exact .inr (by omega)
    ·exact .inl (by simp [hi])
 ·show (S'.set rb _)[rb]? = _
  rw [List.getElem?_set_self (by omega),List.length_append]; rfl
 ·rcases List.mem_cons.1 hr with rfl | hr
  ·exact h.rT hi
  ·exact (h.nf i hr).1 hi
 ·by_cases hY:s.Y=[]
  ·show Ar _ ya s.Y.length 1 eU s.Y
   rw [hY]; exact ⟨rfl,λ i hi=>absurd hi (by simp)⟩
  ·refine h.y.keepL λ y e=>?_
   have hn:=h.ny hY y e
   exact (hkp _).keep _ (h.ylt hY e) λ hm=>hn (by
    rcases List.mem_cons.1 hm with hm | hm
    ·rw [hm]; simp
    ·exact List.mem_cons_of_mem _ (List.mem_append_right _ (List.mem_append_left _ hm)))
 ·have hn:=h.ny hY y e
  have hyl:=h.ylt hY e
  intro hm
  rcases List.mem_cons.1 hm with hm | hm
  ·exact hn (by rw [hm]; simp)
  ·rcases List.mem_append.1 hm with hm | hm
   ·exact hn (by simp [hm])
   ·rcases List.mem_append.1 hm with hm | hm
    ·rw [hbk,List.mem_singleton] at hm;omega
    ·exact hn (by simp [hm])
 ·show Own 0 (S'.set rb _) (some ⟨nb,0,none⟩) _ 6 ((s.fx++[x]).flatMap _)
  rw [List.flatMap_append,List.flatMap_cons,List.flatMap_nil,List.append_nil]
  refine ho.keep λ i e=>?_
  cases e
  rw [List.getElem?_set_ne (by omega)]
 ·refine h.sl.keep λ i e=>?_
  have hi:=jwp.2 ⟨_,e,rfl⟩
  have h2:=h.ns i hi
  exact (hkp _).keep _ (hs i hi) λ hm=>by
   rcases List.mem_cons.1 hm with hm | hm
   ·exact h2.2.1 hm
   ·exact h2.2.2 hm
 ·rw [hbk,List.mem_singleton] at hi;subst hi
  exact ⟨λ hm=>by have:=hT _ hm;omega,by omega⟩
 ·have h2:=h.ns i hi
  refine ⟨h2.1,h2.2.1,λ hm=>?_⟩
  rw [hbk,List.mem_singleton] at hm;subst hm
  have:=hs _ hi;omega
 ·rcases List.mem_append.1 hy with hy | hy
  ·exact h.ne y hy
  ·rw [List.mem_singleton] at hy;subst hy;exact hx
theorem RS.pushS (h:RS la ln lc it tr S0 M0 S rb b T s ya fa sa) {nb:Nat} {x:Int×Int} (hb:S.length<=nb) (hlt:nb < S'.length) (hl:S.length<=S'.length) (hk:∀ i,i < S.length->sa≠some ⟨i,0,none⟩->S'[i]? = S[i]?)
 (ho:Own 0 S' (some ⟨nb,0,none⟩) 76 4 (s.sl.flatMap (jai it tr)++jai it tr x)) :
 RS la ln lc it tr S0 M0 (S'.set rb (.cells (rC false ya s.Y.length fa s.fx.length (some ⟨nb,0,none⟩) (s.sl.length+1) 0 b la ln lc it tr s.win) 172 none)) rb b T { s with sl:=s.sl++[x] } ya fa (some ⟨nb,0,none⟩):=by
 have hrl:=z1y h.r
 have hT:=h.ms.lt
 have hf:∀ i∈blk fa,i < S.length:=λ i hi=>(h.fx.blk_lt hi).2.1
 have hkp:∀ o:j00,Kp (rb :: blk sa) S (S'.set rb o):=λ o=>⟨by simp;exact hl,λ i hi hn=>by
  rw [List.getElem?_set_ne (by rintro rfl;simp at hn)]
  exact hk i hi λ e=>hn (List.mem_cons_of_mem _ (jwp.2 ⟨_,e,rfl⟩))⟩
 have hbk:blk (some ⟨nb,0,none⟩)=[nb]:=rfl
 refine ⟨h.mo.trans ⟨(hkp _).mono (λ i hi=>?_),λ i hi=>?_⟩,?_,h.ms.kp (hkp _) (λ i hi hr=>?_),?_,λ hY y e=>?_,?_,?_,h.rT,h.nf,λ i hi=>?_,h.ne⟩
 ·rcases List.mem_cons.1 hi with rfl | hi
  ·simp
  ·exact List.mem_cons_of_mem _ (List.mem_append_right _ (List.mem_append_right _ hi))
 ·rcases List.mem_cons.1 hi with rfl | hi
  ·exact .inl (by simp)
  ·rcases List.mem_append.1 hi with hi | hi
   ·exact .inl (by simp [hi])
   ·rcases List.mem_append.1 hi with hi | hi
    ·exact .inl (by simp [hi])
    ·rw [hbk,List.mem_singleton] at hi;exact .inr (by omega)
 ·show (S'.set rb _)[rb]? = _
  rw [List.getElem?_set_self (by omega),List.length_append]; rfl
 ·rcases List.mem_cons.1 hr with rfl | hr
  ·exact h.rT hi
  ·exact (h.ns i hr).1 hi
 ·by_cases hY:s.Y=[]
  ·show Ar _ ya s.Y.length 1 eU s.Y
   rw [hY]; exact ⟨rfl,λ i hi=>absurd hi (by simp)⟩
  ·refine h.y.keepL λ y e=>?_
   have hn:=h.ny hY y e
   exact (hkp _).keep _ (h.ylt hY e) λ hm=>hn (by
    rcases List.mem_cons.1 hm with hm | hm
    ·rw [hm]; simp
    ·exact List.mem_cons_of_mem _ (List.mem_append_right _ (List.mem_append_right _ hm)))
 ·have hn:=h.ny hY y e
  have hyl:=h.ylt hY e
  intro hm
  rcases List.mem_cons.1 hm with hm | hm
  ·exact hn (by rw [hm]; simp)
  ·rcases List.mem_append.1 hm with hm | hm
   ·exact hn (by simp [hm])
   ·rcases List.mem_append.1 hm with hm | hm
    ·exact hn (by simp [hm])
    ·rw [hbk,List.mem_singleton] at hm;omega
 ·refine h.fx.keep λ i e=>?_
  have hi:=jwp.2 ⟨_,e,rfl⟩
  exact (hkp _).keep _ (hf i hi) λ hm=>by
   rcases List.mem_cons.1 hm with hm | hm
   ·exact (h.nf i hi).2 hm
   ·exact (h.ns i hm).2.2 hi
 ·show Own 0 (S'.set rb _) (some ⟨nb,0,none⟩) _ 4 ((s.sl++[x]).flatMap _)
  rw [List.flatMap_append,List.flatMap_cons,List.flatMap_nil,List.append_nil]
  refine ho.keep λ i e=>?_
  cases e
  rw [List.getElem?_set_ne (by omega)]
 ·rw [hbk,List.mem_singleton] at hi;subst hi
  exact ⟨λ hm=>by have:=hT _ hm;omega,by omega,λ hm=>by have:=hf _ hm;omega⟩
end
theorem jwu {x:Ev} {l:List Ev} (h:x∈z9h l):x∈l:=by
 have key:∀ (l o:List Ev),x∈l.foldl js3 o->x∈l\/x∈o:=by
  intro l
  induction l with
  | nil=>intro o h;exact .inr h
  | cons y l ih=>
    intro o h
    rw [List.foldl_cons] at h
    rcases ih _ h with h | h
    ·exact .inl (List.mem_cons_of_mem _ h)
    ·unfold js3 at h
     rcases List.mem_append.1 h with h | h
     ·exact .inr (List.mem_filter.1 h).1
     ·rcases List.mem_cons.1 h with rfl | h
      ·exact .inl (by simp)
      ·exact .inr (List.mem_filter.1 h).1
 rcases key l [] h with h | h
 ·exact h
 ·cases h
theorem jws {x:Ev} {l:List Ev} {it tr wi:Int} (h:x∈ofS l it tr wi):x∈l:=(List.mem_filter.1 (jwu h)).1
theorem jy9 (l:List Ev) (it tr wi:Int):(ofS l it tr wi).length<=l.length:=by
 have hst:=z9i (l.filter (jzw it tr wi))
 have : (ofS l it tr wi).length=(l.filter (jzw it tr wi)).length:=hst.len
 rw [this]; exact List.length_filter_le _ _
structure TB (s:Ts):Prop where
 t:0<=s.m.t/\s.m.t<=100000
 ah:0<=s.m.ah/\s.m.ah<=s.win*100000
 w:0<=s.win
 fx:(s.fx.length:Int)<=3*s.win
 sl:(s.sl.length:Int)<=s.win
 yl:s.Y.length<=4096
theorem TB.on {s:Ts} (h:TB s) {f:j1j} {w:Nat} {cost:Int} (hf:j1e f w cost) (hw:s.m.W.length=w) (hc:cost<=90000) (of:Int->List Ev) {sl:List (Int×Int)} (hs:sl.length<=1):TB (s.on (s.next f of) sl)/\(s.on (s.next f of) sl).m.W.length=w:=by
 obtain ⟨h1,h2,h3,h4,h5,_⟩:=h
 have hn:(s.m.nxt (of (s.win+1))).W.length=w:=(Mm.nxt_len _ _).trans hw
 obtain ⟨t1,t2⟩:=hf.t _ hn
 have t3:=hf.fx _ hn
 have t0:(s.m.nxt (of (s.win+1))).t=0:=rfl
 have a0:(s.m.nxt (of (s.win+1))).ah=s.m.ah+s.m.t:=rfl
 refine ⟨⟨?_,?_,?_,?_,?_,hf.yl _ hn⟩,hf.len _ hn⟩
 ·show 0<=(f (s.m.nxt (of (s.win+1)))).2.t/\(f (s.m.nxt (of (s.win+1)))).2.t<=100000
  omega
 ·show 0<=(f (s.m.nxt (of (s.win+1)))).2.ah/\(f (s.m.nxt (of (s.win+1)))).2.ah<=(s.win+1)*100000
  rw [hf.ah,a0]; omega
 ·show 0<=s.win+1;omega
 ·show ((s.fx++_).length:Int)<=3*(s.win+1)
  rw [List.length_append,List.length_map]
  have : (s.next f of).1.2.1.length<=3:=t3
  omega
 ·show ((s.sl++sl).length:Int)<=s.win+1
  rw [List.length_append]; omega
def DoS (la:Option Addr) (ln lc:Nat) (it tr:Int) (S0:St) (M0:List Nat) (rb b:Nat) (C:FuncId->List Value->M Value) (dv:Value) (f:j1j) (w:Nat):Prop:=
 ∀ (S:St) (T:List Nat) (s:Ts) (ya fa sa:Option Addr),RS la ln lc it tr S0 M0 S rb b T s ya fa sa->s.Y=[]->(0<=s.m.t/\s.m.t < 1000000)->s.m.W.length=w ->
  WP (j6k C dv []) S λ v S'=>∃ xa ya',v=vT [vA [vB (f s.m).1.1,.slice xa (f s.m).1.2.1.length (f s.m).1.2.1.length],vI 0]/\RS la ln lc it tr S0 M0 S' rb b T { s with m:=(f s.m).2,Y:=(f s.m).1.2.2 } ya' fa sa/\j0v S.length S' xa (f s.m).1.2.1/\S.length<=S'.length
set_option maxHeartbeats 4000000 in
set_option maxRecDepth 20000 in
theorem zfa {C:FuncId->List Value->M Value} {la:Option Addr} {ln lc:Nat} {it tr:Int} {S0:St} {M0:List Nat} {rb b:Nat} {dv:Value} {f:j1j} {w:Nat} {cost step:Int} {times:Nat}
 (hd:DoS la ln lc it tr S0 M0 rb b (jvv [(170,jms),(28,jjt)] C) dv f w) (hf:j1e f w cost) (hc:cost<=90000)
 {l:List Ev} (hl:Ar S0 la ln 6 Ev.cells l) (hlM:l≠[]->∀ y,la=some y->y.block∉M0) (hln:ln<=900) (hlk:∀ x∈l,Go.Proofs.YtpecnaacgkgjmaaGreatDoor.u64r x.ma) (hlt:∀ x∈l,x.ti<=9223372036854775807)
 {S:St} {T:List Nat} {s:Ts} {ya fa sa:Option Addr} (h:RS la ln lc it tr S0 M0 S rb b T s ya fa sa) (hY:s.Y=[]) (hB:TB s) (hw:s.m.W.length=w) (hwin:s.win+times<=200000) (ht:times<=1000) :
 WP (jpj C [.pointer (some ⟨rb,0,none⟩),vI step,vI times,dv]) S λ v S'=>v=vT [vB (zf4 f (ofS l it tr) step times s).1,vI 0] /\
  ∃ T' ya' fa' sa',RS la ln lc it tr S0 M0 S' rb b T' (zf4 f (ofS l it tr) step times s).2 ya' fa' sa'/\TB (zf4 f (ofS l it tr) step times s).2/\(zf4 f (ofS l it tr) step times s).2.m.W.length=w/\(zf4 f (ofS l it tr) step times s).2.win<=s.win+times /\
  ((zf4 f (ofS l it tr) step times s).1=false->(zf4 f (ofS l it tr) step times s).2.Y=[]):=by
 rw [jpk]
 simp only [wps]
 generalize hV:zf4 f (ofS l it tr) step times s=V
 refine zgd (λ st S' m=>∃ (j:Nat) (T':List Nat) (s':Ts) (ya' fa' sa':Option Addr),st=[vN j]/\m=times-j/\j<=times/\RS la ln lc it tr S0 M0 S' rb b T' s' ya' fa' sa'/\s'.Y=[]/\TB s'/\s'.m.W.length=w/\s'.win=s.win+j/\zf4 f (ofS l it tr) step (times-j) s'=V) ?_ times _ _
  ⟨0,T,s,ya,fa,sa,rfl,rfl,Nat.zero_le _,h,hY,hB,hw,by simp,hV⟩
 rintro st S1 m ⟨j,T1,s1,ya1,fa1,sa1,rfl,rfl,hj,h1,hY1,hB1,hw1,hwj,hV1⟩
 simp only [wps]
 have hlen0:=hl.1
 refine ⟨λ h3=>?_,λ h3=>?_⟩
 rotate_left
 ·obtain rfl:j=times:=by omega
  rw [Nat.sub_self] at hV1
  have : V=(false,s1):=hV1.symm
  rw [this]
  exact ⟨rfl,T1,ya1,fa1,sa1,h1,hB1,hw1,by dsimp only;omega,λ _=>hY1⟩
 have hj':j < times:=by omega
 have hB1w:=hB1.w
 have hr1:=h1.r
 have hrl:=z1y hr1
 rw [wI_ (n:=(j:Int)+1) (by omega) (by omega)]
 simp only [wps,j6u hr1,hr1,z40,z41,z46,Nat.reduceAdd,Nat.reduceLeDiff]
 rw [wI_ (n:=s1.win+1) (by omega) (by omega)]
 have h2:=h1.put (Y':=s1.Y) (win':=s1.win+1) (ya':=ya1) h1.y h1.ny
 generalize hS2:S1.set rb (j00.cells (rC false ya1 s1.Y.length fa1 s1.fx.length sa1 s1.sl.length 0 b la ln lc it tr (s1.win+1)) 172 none)=S2 at h2 ⊢
 have hr2:=h2.r
 dsimp only at hr2
 simp only [wps,j6u hr2,z3x,z3y,z3z,z40]
 have hl2:Ar S2 la ln 6 Ev.cells l:=h2.mo.kp.ar hl λ hne y e=>hlM hne y e
 refine (jya (c:=lc) (it:=it) (tr:=tr) (wi:=s1.win+1) hl2 hln).mono ?_
 rintro _ S3 ⟨oa,rfl,ho⟩
 have hoa:=ho.ar (λ _=>rfl) (by decide)
 have h3':=h2.pre ho.pre
 have hr3:=h3'.r
 dsimp only at hr3
 have hol:=jy9 l it tr (s1.win+1)
 have hok:∀ x∈ofS l it tr (s1.win+1),Go.Proofs.YtpecnaacgkgjmaaGreatDoor.u64r x.ma:=λ x hx=>hlk x (jws hx)
 have hot:∀ x∈ofS l it tr (s1.win+1),x.ti<=9223372036854775807:=λ x hx=>hlt x (jws hx)
 have hB1t:=hB1.t
 have hB1a:=hB1.ah
 simp only [wps,j6u hr3,z3w]
 refine (jy4 (c:=(ofS l it tr (s1.win+1)).length) h3'.ms hoa (by omega) hok ⟨hB1t.1,by dsimp only;omega⟩ ⟨hB1a.1,by dsimp only;omega⟩ hot).mono ?_
 rintro _ S4 ⟨rfl,k4,m4⟩
 have h4:=h3'.mem hY1 k4 m4
 simp only [wps]
 refine (hd S4 _ _ ya1 fa1 sa1 h4 hY1 ⟨by show (0:Int)<=0;omega,by show (0:Int) < 1000000;omega⟩ ((Mm.nxt_len _ _).trans hw1)).mono ?_
 rintro _ S5 ⟨xa,ya5,rfl,h5,o5,hl5⟩
 have hnx:f (s1.m.nxt (ofS l it tr (s1.win+1)))=s1.next f (ofS l it tr):=rfl
 dsimp only at h5 o5 ⊢
 rw [hnx] at h5 o5 ⊢
 have hne:∀ x∈(s1.next f (ofS l it tr)).1.2.1,x.bad≠x.good:=λ x hx=>hf.ne _ m4.ok x hx
 have hyb:(s1.next f (ofS l it tr)).1.1=false->(s1.next f (ofS l it tr)).1.2.2=[]:=λ e=>hf.y _ ((Mm.nxt_len _ _).trans hw1) e
 have hx3:(s1.next f (ofS l it tr)).1.2.1.length<=3:=hf.fx _ ((Mm.nxt_len _ _).trans hw1)
 have hBon:=λ sl hs=>hB1.on hf hw1 hc (ofS l it tr) (sl:=sl) hs
 have hVs:zf4 f (ofS l it tr) step (times-j) s1=if (s1.next f (ofS l it tr)).1.1=true then (true,s1.on (s1.next f (ofS l it tr)) []) else zf4 f (ofS l it tr) step (times-(j+1)) (s1.on (s1.next f (ofS l it tr)) [(s1.win+1,step)]):=by
  rw [show times-j=(times-(j+1))+1 by omega]; rfl
 rw [hV1] at hVs
 generalize hR:s1.next f (ofS l it tr)=R at h5 o5 hne hyb hx3 hBon hVs ⊢
 have hp6:=List.prefix_append S5 [j00.cells [vB R.1.1,.slice xa R.1.2.1.length R.1.2.1.length] 52 none]
 have z6:=jek (S:=S5) (o:=j00.cells [vB R.1.1,.slice xa R.1.2.1.length R.1.2.1.length] 52 none)
 simp only [wps]
 generalize hS6:S5++[j00.cells [vB R.1.1,.slice xa R.1.2.1.length R.1.2.1.length] 52 none]=S6 at hp6 z6 ⊢
 have h6:=h5.pre hp6
 have o6:=o5.pre hp6
 have ho6:∀ i∈blk xa,i∉fpR rb (T1++jxy S3 S4) fa1 sa1:=λ i hi hm=>by
  obtain ⟨y,e,rfl⟩:=jwp.1 hi
  rcases o5 with ⟨e1,_⟩ | ⟨q,e1,e2,e3⟩
  ·rw [e1] at e;cases e
  ·rw [e1] at e;cases e
   have:=h4.lt hm
   dsimp only at this;omega
 have hsl6:S5.length∉fpR rb (T1++jxy S3 S4) fa1 sa1:=λ hm=>by have:=h5.lt hm;omega
 refine zgd (λ st S' m=>∃ (i:Nat) (fa':Option Addr),st=[vN i]/\m=R.1.2.1.length-i/\i<=R.1.2.1.length/\RS la ln lc it tr S0 M0 S' rb b (T1++jxy S3 S4) ⟨R.2,s1.win+1,R.1.2.2,s1.fx++(R.1.2.1.take i).map (λ x=>(s1.win+1,x)),s1.sl⟩ ya5 fa' sa1 /\
  j0v S4.length S' xa R.1.2.1/\S'[S5.length]? = some (j00.cells [vB R.1.1,.slice xa R.1.2.1.length R.1.2.1.length] 52 none)/\(∀ q∈blk xa,q∉fpR rb (T1++jxy S3 S4) fa' sa1)/\S5.length∉fpR rb (T1++jxy S3 S4) fa' sa1) ?_ R.1.2.1.length _ _
  ⟨0,fa1,rfl,rfl,Nat.zero_le _,by simp only [List.take_zero,List.map_nil,List.append_nil]; exact h6,o6,z6,ho6,hsl6⟩
 rintro st S7 _ ⟨i,fa7,rfl,rfl,hi,h7,o7,z7,q7,u7⟩
 have hr7:=h7.r
 dsimp only at hr7
 simp only [wps]
 refine ⟨λ g3=>?_,λ g3=>?_⟩
 ·have hi':i < R.1.2.1.length:=by omega
  obtain ⟨xb,rfl,c0,c1,c2⟩:=jec o7.ar hi'
  rw [wI_ (n:=(i:Int)+1) (by omega) (by omega)]
  have hp8:=List.prefix_append S7 [j00.cells [vI R.1.2.1[i].ad,vU R.1.2.1[i].bad,vU R.1.2.1[i].good] 78 none]
  have z8:=jek (S:=S7) (o:=j00.cells [vI R.1.2.1[i].ad,vU R.1.2.1[i].bad,vU R.1.2.1[i].good] 78 none)
  simp only [wps,c0,c1,c2,Int.toNat_natCast]
  refine ⟨g3,?_⟩
  generalize hS8:S7++[j00.cells [vI R.1.2.1[i].ad,vU R.1.2.1[i].bad,vU R.1.2.1[i].good] 78 none]=S8 at hp8 z8 ⊢
  have h8:=h7.pre hp8
  have hr8:=h8.r
  dsimp only at hr8
  have o8:=o7.pre hp8
  have z8':=z1w hp8 z7
  have h8l:S7.length<=S8.length:=hp8.length_le
  have hxl:∀ q∈blk (some xb),q < S8.length:=λ q hq=>by
   obtain ⟨y,e,rfl⟩:=jwp.1 hq
   rcases o8 with ⟨e1,_⟩ | ⟨q,e1,e2,e3⟩
   ·cases e1
   ·rw [e1] at e;cases e;exact z1y e3
  have hul:=z1y z8'
  have hfl:(s1.fx++(R.1.2.1.take i).map (λ x=>(s1.win+1,x))).length<=1000000:=by
   have:=hB1.fx
   rw [List.length_append,List.length_map,List.length_take]; omega
  simp only [wps,j6u hr8,z3t,z3y,z3z,z40,j6u z8,gcz,gcs]
  refine zgj h8.fx (jcv (e:=jah it tr) (w:=6) (λ _=>rfl) _) rfl (by decide) rfl (by decide) hfl (Nat.zero_le _) ?_
  intro nb S9 k1 k2 k3 k9 ho9
  have h9:=h8.pushF (x:=(s1.win+1,R.1.2.1[i])) (hne _ (List.getElem_mem _)) k1 k2 k3 k9 ho9
  have keep9:∀ q,q < S8.length->q∉fpR rb (T1++jxy S3 S4) fa7 sa1->∀ o:j00,(S9.set rb o)[q]? = S8[q]?:=λ q hq hn o=>by
   have hrq:rb≠q:=λ e=>hn (by rw [<- e]; exact List.mem_cons_self)
   rw [List.getElem?_set_ne hrq]
   exact k9 q hq λ e=>hn (List.mem_cons_of_mem _ (List.mem_append_right _ (List.mem_append_left _ (jwp.2 ⟨⟨q,0,none⟩,e,rfl⟩))))
  have fp9:∀ q,q < S8.length->q∉fpR rb (T1++jxy S3 S4) fa7 sa1->q∉fpR rb (T1++jxy S3 S4) (some ⟨nb,0,none⟩) sa1:=λ q hq hn hm=>by
   rcases List.mem_cons.1 hm with hm | hm
   ·exact hn (by rw [hm]; exact List.mem_cons_self)
   ·rcases List.mem_append.1 hm with hm | hm
    ·exact hn (List.mem_cons_of_mem _ (List.mem_append_left _ hm))
    ·rcases List.mem_append.1 hm with hm | hm
     ·rw [show blk (some (⟨nb,0,none⟩:Addr))=[nb] from rfl,List.mem_singleton] at hm;omega
     ·exact hn (List.mem_cons_of_mem _ (List.mem_append_right _ (List.mem_append_right _ hm)))
  have hr9:S9[rb]? = S8[rb]?:=k9 rb (z1y hr8) λ e=>(h8.nf rb (jwp.2 ⟨_,e,rfl⟩)).2 rfl
  rw [hr8] at hr9
  simp only [wps,hr9,z41,z43,Nat.reduceAdd,Nat.reduceLeDiff]
  have hsn:s1.fx++(R.1.2.1.take (i+1)).map (λ x=>(s1.win+1,x))=(s1.fx++(R.1.2.1.take i).map (λ x=>(s1.win+1,x)))++[(s1.win+1,R.1.2.1[i])]:=by
   rw [zcr hi',List.map_append,<- List.append_assoc]; rfl
  refine ⟨R.1.2.1.length-(i+1),by omega,i+1,some ⟨nb,0,none⟩,rfl,rfl,by omega,?_,?_,?_,?_,?_⟩
  ·rw [hsn]; exact h9
  ·exact o8.keep λ q e=>keep9 q (hxl q (jwp.2 ⟨_,e,rfl⟩)) (q7 q (jwp.2 ⟨_,e,rfl⟩)) _
  ·rw [keep9 _ hul u7]; exact z8'
  ·exact λ q hq=>fp9 q (hxl q hq) (q7 q hq)
  ·exact fp9 _ hul u7
 ·obtain rfl:i=R.1.2.1.length:=by omega
  rw [List.take_length] at h7 hr7
  simp only [wps,j6u z7,List.getElem?_cons_zero]
  refine ⟨λ e=>?_,λ e=>?_⟩
  ·rw [if_pos e] at hVs
   rw [hVs]
   obtain ⟨b1,b2⟩:=hBon [] (by simp)
   refine ⟨rfl,T1++jxy S3 S4,ya5,fa7,sa1,?_,b1,b2,by show s1.win+1<=_;omega,λ e=>by cases e⟩
   show RS la ln lc it tr S0 M0 S7 rb b _ ⟨R.2,s1.win+1,R.1.2.2,s1.fx++R.1.2.1.map (λ x=>(s1.win+1,x)),s1.sl++[]⟩ _ _ _
   rw [List.append_nil]
   exact h7
  ·have e':R.1.1=false:=e
   rw [e',if_neg (by decide)] at hVs
   have hYR:=hyb e'
   simp only [wps,j6u hr7,z3u,z3y,z3z,z40]
   have hsl:s1.sl.length<=1000000:=by have:=hB1.sl;omega
   refine zgj h7.sl (jcv (e:=jai it tr) (w:=4) (λ _=>rfl) _) rfl (by decide) rfl (by decide) hsl (Nat.zero_le _) ?_
   intro nb S9 k1 k2 k3 k9 ho9
   have h9:=h7.pushS (x:=(s1.win+1,step)) k1 k2 k3 k9 ho9
   have hr9:S9[rb]? = S7[rb]?:=k9 rb (z1y hr7) λ e=>(h7.ns rb (jwp.2 ⟨_,e,rfl⟩)).2.1 rfl
   rw [hr7] at hr9
   simp only [wps,hr9,z41,z44,Nat.reduceAdd,Nat.reduceLeDiff]
   obtain ⟨b1,b2⟩:=hBon [(s1.win+1,step)] (by simp)
   exact ⟨times-(j+1),by omega,j+1,_,_,_,_,_,rfl,rfl,by omega,h9,hYR,b1,b2,by show s1.win+1=_;omega,hVs.symm⟩
theorem RS.other {la:Option Addr} {ln lc:Nat} {it tr:Int} {S0:St} {M0:List Nat} {S:St} {rb b:Nat} {T:List Nat} {s:Ts} {ya fa sa:Option Addr} (h:RS la ln lc it tr S0 M0 S rb b T s ya fa sa) {i:Nat} (hi:i∉fpR rb T fa sa) (hl:S0.length<=i) (hy:s.Y≠[]->∀ y,ya=some y->y.block≠i) (o:j00) :
 RS la ln lc it tr S0 M0 (S.set i o) rb b T s ya fa sa:=by
 have hk:∀ j,j≠i->(S.set i o)[j]? = S[j]?:=λ j hj=>List.getElem?_set_ne (λ e=>hj e.symm)
 have hm:∀ j∈fpR rb T fa sa,j≠i:=λ j hj e=>hi (e ▸ hj)
 refine ⟨⟨⟨by rw [List.length_set]; exact h.mo.kp.len,λ j hj hn=>by rw [hk j (by omega),h.mo.kp.keep j hj hn]⟩,h.mo.own⟩,?_,h.ms.kp (M:=[i]) ⟨by simp,λ j hj hn=>hk j (by simpa using hn)⟩ (λ j hj e=>?_),?_,h.ny,?_,?_,h.rT,h.nf,h.ns,h.ne⟩
 ·rw [hk rb (hm rb (by simp))]; exact h.r
 ·rw [List.mem_singleton] at e;exact hm j (by simp [hj]) e
 ·by_cases hY:s.Y=[]
  ·rw [hY]; exact ⟨rfl,λ i hi=>absurd hi (by simp)⟩
  ·exact h.y.keepL λ y e=>hk _ (hy hY y e)
 ·exact h.fx.keep λ j e=>hk j (hm j (List.mem_cons_of_mem _ (List.mem_append_right _ (List.mem_append_left _ (jwp.2 ⟨⟨j,0,none⟩,e,rfl⟩)))))
 ·exact h.sl.keep λ j e=>hk j (hm j (List.mem_cons_of_mem _ (List.mem_append_right _ (List.mem_append_right _ (jwp.2 ⟨⟨j,0,none⟩,e,rfl⟩)))))
section
variable {la:Option Addr} {ln lc:Nat} {it tr:Int} {S0:St} {M0:List Nat} {rb b:Nat} {q:Req} {a1 a4 a5:Option Addr} {c1 c4 c5 n0 n1 n2 n4 n5 n6:Nat} {src dst N TT W:Int} {sl:Value} {st:Stp} {w:Nat}
set_option maxHeartbeats 2000000 in
set_option maxRecDepth 20000 in
theorem ja4 (hr:S0[n0]? = some (.cells [.pointer (some ⟨rb,0,none⟩)] 167 none)) (hq:S0[n1]? = some (.cells (qc q a1 c1 a4 c4 a5 c5) 62 none)) (hs:S0[n6]? = some (.cells (spC st) 29 none))
 (h4:S0[n4]? = some (.cells [vI src] 3 none)) (h5:S0[n5]? = some (.cells [vI dst] 3 none)) (hp:S0[n2]? = some (.cells [vI (nV q.axes),vI TT,vI W,sl] 90 none))
 (hM:n0∉M0/\n1∉M0/\n6∉M0/\n4∉M0/\n5∉M0/\n2∉M0) (hax:Ar S0 a1 q.axes.length 2 eAx q.axes) (haM:∀ y,a1=some y->q.axes≠[]->y.block∉M0) (hb1:q.axes.length<=8796093022208)
 (hst:zam q.P q.axes st=0) (hpl:PlT (nV q.axes) w src dst) (htb:2*(nV q.axes+6)+((zcd q.P q.axes q.inv st).length:Int)<=w) (hn:1<=nV q.axes/\nV q.axes<=4096) :
 DoS la ln lc it tr S0 M0 rb b (jvv [(170,jms),(28,jjt)] (jvv [(173,jpg)] (jvv [(172,jpd)] noC)))
  (.func (.func 172) ⟨[]⟩ ⟨[.pointer (some ⟨n0,0,none⟩),.pointer (some ⟨n1,0,none⟩),.pointer (some ⟨n6,0,none⟩),.pointer (some ⟨n4,0,none⟩),.pointer (some ⟨n5,0,none⟩),.pointer (some ⟨n2,0,none⟩)]⟩) (doF (zdk q) st src dst) w:=by
 intro S T s ya fa sa h hY ht hw
 have e:j6k (jvv [(170,jms),(28,jjt)] (jvv [(173,jpg)] (jvv [(172,jpd)] noC)))
  (.func (.func 172) ⟨[]⟩ ⟨[.pointer (some ⟨n0,0,none⟩),.pointer (some ⟨n1,0,none⟩),.pointer (some ⟨n6,0,none⟩),.pointer (some ⟨n4,0,none⟩),.pointer (some ⟨n5,0,none⟩),.pointer (some ⟨n2,0,none⟩)]⟩) [] =
  jpd [.pointer (some ⟨n0,0,none⟩),.pointer (some ⟨n1,0,none⟩),.pointer (some ⟨n6,0,none⟩),.pointer (some ⟨n4,0,none⟩),.pointer (some ⟨n5,0,none⟩),.pointer (some ⟨n2,0,none⟩)]:=rfl
 rw [e,jpe]
 obtain ⟨m0,m1,m6,m4,m5,m2⟩:=hM
 have hp0:=List.prefix_append S [j00.cells [vB false,.slice none 0 0] 52 none]
 have y0:=jek (S:=S) (o:=j00.cells [vB false,.slice none 0 0] 52 none)
 have nS:S.length∉fpR rb T fa sa:=λ hm=>by have:=h.lt hm;omega
 have hS0:=h.mo.kp.len
 have h1:=h.pre hp0
 simp only [wps]
 generalize hS1:S++[j00.cells [vB false,.slice none 0 0] 52 none]=S1 at hp0 y0 h1 ⊢
 have g:∀ {i:Nat} {o:j00},S0[i]? = some o->i∉M0->S1[i]? = some o:=λ hi hm=>h1.mo.get hi hm
 have hr1:=h1.r
 simp only [wps,j6u (g hr m0),j6u (g hq m1),j6u (g hs m6),j6u (g h4 m4),j6u (g h5 m5),j6u (g hp m2),j6u hr1,z3w,gcz,gcs]
 rw [wI_ (n:=nV q.axes+6) (by omega) (by omega),wI_ (n:=2*(nV q.axes+6)) (by omega) (by omega)]
 have har:Ar S1 a1 q.axes.length 2 eAx q.axes:=h1.mo.kp.ar hax λ hne y e=>haM y e hne
 have haT:∀ y,a1=some y->q.axes≠[]->y.block∉T:=λ y e hne hm=>by
  have hl:y.block < S0.length:=hax.low (λ x=>⟨_,rfl⟩) hne y e
  exact h1.mo.out (haM y e hne) hl (List.mem_cons_of_mem _ (List.mem_append_left _ hm))
 refine (zeb (p:=q.P) (ac:=c1) (inv:=q.inv) (s:=st) (src:=src) (dst:=dst) (tab:=2*(nV q.axes+6)) h1.ms har hb1 haT ⟨ht.1,by omega⟩).mono ?_
 rintro _ S2 ⟨xa,rfl,k2,m2',o2⟩
 have h2:=h1.mem hY ⟨k2,λ i hi=>.inl hi⟩ m2'
 obtain ⟨p1,p2,p3,p4⟩:=hpl
 have tt:=zea (m:=s.m) (inv:=q.inv) (src:=src) (dst:=dst) (tab:=2*(nV q.axes+6)) hst (jra hw ⟨p1,by omega,by omega⟩) (jra hw ⟨p2,by omega,by omega⟩) (jra hw ⟨by omega,by omega,by omega⟩)
 have y2:=k2.get y0 λ hm=>nS (List.mem_cons_of_mem _ (List.mem_append_left _ hm))
 have y2l:=z1y y2
 rw [tt.1]
 simp only [wps,y2,List.drop_succ_cons,List.drop_zero,List.drop_nil,j6u (List.getElem?_set_self y2l),gcz,gcs]
 have hl1:=hp0.length_le
 refine ⟨xa,ya,rfl,?_,?_,by rw [List.length_set]; have:=k2.len;omega⟩
 ·have h3:=h2.other nS (by omega) (λ e=>absurd hY e) (j00.cells [vB (ze2 s.m q.P q.axes q.inv st src dst (2*(nV q.axes+6))).1.1.1,.slice xa (ze2 s.m q.P q.axes q.inv st src dst (2*(nV q.axes+6))).1.1.2.length (ze2 s.m q.P q.axes q.inv st src dst (2*(nV q.axes+6))).1.1.2.length] 52 none)
  cases s
  dsimp only at hY
  subst hY
  exact h3
 have : j0v S1.length (S2.set S.length (j00.cells [vB (ze2 s.m q.P q.axes q.inv st src dst (2*(nV q.axes+6))).1.1.1,.slice xa (ze2 s.m q.P q.axes q.inv st src dst (2*(nV q.axes+6))).1.1.2.length (ze2 s.m q.P q.axes q.inv st src dst (2*(nV q.axes+6))).1.1.2.length] 52 none)) xa _:=o2.keep λ i hi=>by
  have:=(o2.lt i hi).1
  have hl:S1.length=S.length+1:=by rw [<- hS1]; simp
  rw [List.getElem?_set_ne (by omega)]
 exact this.imp id λ ⟨b,e1,e2,e3⟩=>⟨b,e1,by omega,e3⟩
set_option maxHeartbeats 2000000 in
set_option maxRecDepth 20000 in
theorem jzp (hr:S0[n0]? = some (.cells [.pointer (some ⟨rb,0,none⟩)] 167 none)) (hq:S0[n1]? = some (.cells (qc q a1 c1 a4 c4 a5 c5) 62 none))
 (h4:S0[n4]? = some (.cells [vI src] 3 none)) (hp:S0[n2]? = some (.cells [vI (nV q.axes),vI TT,vI W,sl] 90 none))
 (hM:n0∉M0/\n1∉M0/\n4∉M0/\n2∉M0) (hk:jt3 q.P=true) (hn:1<=nV q.axes/\nV q.axes<=4096) (hpl:0<=src/\src+nV q.axes+6<=w) :
 DoS la ln lc it tr S0 M0 rb b (jvv [(170,jms),(28,jjt)] (jvv [(173,jpg)] (jvv [(172,jpd)] noC)))
  (.func (.func 173) ⟨[]⟩ ⟨[.pointer (some ⟨n0,0,none⟩),.pointer (some ⟨n1,0,none⟩),.pointer (some ⟨n2,0,none⟩),.pointer (some ⟨n4,0,none⟩)]⟩) (jzj (zdk q) src) w:=by
 intro S T s ya fa sa h hY ht hw
 have e:j6k (jvv [(170,jms),(28,jjt)] (jvv [(173,jpg)] (jvv [(172,jpd)] noC)))
  (.func (.func 173) ⟨[]⟩ ⟨[.pointer (some ⟨n0,0,none⟩),.pointer (some ⟨n1,0,none⟩),.pointer (some ⟨n2,0,none⟩),.pointer (some ⟨n4,0,none⟩)]⟩) [] =
  jpg [.pointer (some ⟨n0,0,none⟩),.pointer (some ⟨n1,0,none⟩),.pointer (some ⟨n2,0,none⟩),.pointer (some ⟨n4,0,none⟩)]:=rfl
 rw [e,jph]
 obtain ⟨m0,m1,m4,m2⟩:=hM
 have hp0:S <+: S++[j00.cells [vB false,.slice none 0 0] 52 none,j00.cells [vB false,.slice none 0 0] 52 none]:=List.prefix_append _ _
 have nS:S.length∉fpR rb T fa sa:=λ hm=>by have:=h.lt hm;omega
 have nS1:S.length+1∉fpR rb T fa sa:=λ hm=>by have:=h.lt hm;omega
 have hS0:=h.mo.kp.len
 have h1:=h.pre hp0
 obtain ⟨nn,hnn⟩:=Int.eq_ofNat_of_zero_le (show 0<=nV q.axes by omega)
 have hN:s.m.hasN src ((nn:Int)+6)=true:=jra hw ⟨hpl.1,by omega,by omega⟩
 have g0:∀ {i:Nat} {o:j00},S0[i]? = some o->i∉M0->S[i]? = some o:=λ hi hm=>h.mo.get hi hm
 have g:∀ {i:Nat} {o:j00} (L:St),S0[i]? = some o->i∉M0->(S++L)[i]? = some o:=λ L hi hm=>jeh (g0 hi hm)
 have hr0:∀ L:St,(S++L)[rb]? = _:=λ L=>jeh h.r
 simp only [wps,List.append_assoc,List.cons_append,List.nil_append,List.length_append,List.length_cons,List.length_nil,Nat.zero_add,Nat.reduceAdd,j6u (g _ hr m0),j6u (g _ hq m1),j6u (g _ h4 m4),j6u (g _ hp m2),j6u (hr0 _),z3w,gcz,gcs]
 have y0:(S++[j00.cells [vB false,.slice none 0 0] 52 none,j00.cells [vB false,.slice none 0 0] 52 none])[S.length]? = some (j00.cells [vB false,.slice none 0 0] 52 none):=gA0
 have y1:(S++[j00.cells [vB false,.slice none 0 0] 52 none,j00.cells [vB false,.slice none 0 0] 52 none])[S.length+1]? = some (j00.cells [vB false,.slice none 0 0] 52 none):=gA1
 have hl1:(S++[j00.cells [vB false,.slice none 0 0] 52 none,j00.cells [vB false,.slice none 0 0] 52 none]).length=S.length+2:=by simp
 generalize S++[j00.cells [vB false,.slice none 0 0] 52 none,j00.cells [vB false,.slice none 0 0] 52 none]=S1 at hp0 y0 y1 h1 hl1 ⊢
 have hO:jzj (zdk q) src s.m=(((jzo s.m q.P nn src).1.1.2.1,(jzo s.m q.P nn src).1.1.2.2,(jzo s.m q.P nn src).1.1.1),(jzo s.m q.P nn src).2):=by
  unfold jzj zdk;dsimp only;rw [hnn]
 rw [hO,hnn]
 refine (jzv h1.ms hk (by omega) hN ⟨ht.1,by omega⟩).mono ?_
 rintro _ S2 ⟨yb,xa,rfl,k2,m2',ay,o2,nl⟩
 have ot:=jzu (m:=s.m) (p:=q.P) (a:=src) (n:=nn) hk (by omega) hN
 have h2:=h1.mem hY ⟨k2,λ i hi=>.inl hi⟩ m2'
 generalize jzo s.m q.P nn src=O at h2 ay o2 ot m2' ⊢
 have nT:S.length∉T:=λ hm=>nS (List.mem_cons_of_mem _ (List.mem_append_left _ hm))
 have nT1:S.length+1∉T:=λ hm=>nS1 (List.mem_cons_of_mem _ (List.mem_append_left _ hm))
 have z0:=k2.get y0 nT
 have z1:=k2.get y1 nT1
 have z1l:=z1y z1
 have hl2:=k2.len
 rw [ot.1]
 have h3:=h2.other nS1 (by omega) (λ e=>absurd hY e) (j00.cells [vB O.1.1.2.1,.slice xa O.1.1.2.2.length O.1.1.2.2.length] 52 none)
 have w1:(S2.set (S.length+1) (j00.cells [vB O.1.1.2.1,.slice xa O.1.1.2.2.length O.1.1.2.2.length] 52 none))[S.length+1]? = _:=List.getElem?_set_self z1l
 have w0:(S2.set (S.length+1) (j00.cells [vB O.1.1.2.1,.slice xa O.1.1.2.2.length O.1.1.2.2.length] 52 none))[S.length]? = _:=(List.getElem?_set_ne (by omega)).trans z0
 have ay3:Ar (S2.set (S.length+1) (j00.cells [vB O.1.1.2.1,.slice xa O.1.1.2.2.length O.1.1.2.2.length] 52 none)) yb O.1.1.1.length 1 eU O.1.1.1:=ay.keepL λ y e=>by
  have:=nl y e
  rw [List.getElem?_set_ne (by omega)]
 have o3:j0v S1.length (S2.set (S.length+1) (j00.cells [vB O.1.1.2.1,.slice xa O.1.1.2.2.length O.1.1.2.2.length] 52 none)) xa O.1.1.2.2:=o2.keep λ i e=>by
  have:=(o2.lt i e).1
  rw [List.getElem?_set_ne (by omega)]
 have hl3:(S2.set (S.length+1) (j00.cells [vB O.1.1.2.1,.slice xa O.1.1.2.2.length O.1.1.2.2.length] 52 none)).length=S2.length:=by simp
 simp only [wps,z1,List.drop_succ_cons,List.drop_zero,List.drop_nil]
 generalize S2.set (S.length+1) (j00.cells [vB O.1.1.2.1,.slice xa O.1.1.2.2.length O.1.1.2.2.length] 52 none)=S3 at h3 w0 w1 ay3 o3 hl3 ⊢
 have hr3:=h3.r
 dsimp only at hr3
 have hrb:rb < S.length:=z1y h.r
 have h4:=h3.put (Y':=O.1.1.1) (win':=s.win) (ya':=yb) ay3 λ hne y e hm=>by have:=nl y e;have:=h.lt hm;omega
 simp only [wps,j6u (h3.mo.get hr m0),hr3,z41,z42,Nat.reduceAdd,Nat.reduceLeDiff]
 have v1:=λ o:j00=>(List.getElem?_set_ne (l:=S3) (a:=o) (i:=rb) (j:=S.length+1) (by omega)).trans w1
 have v0:=λ o:j00=>(List.getElem?_set_ne (l:=S3) (a:=o) (i:=rb) (j:=S.length) (by omega)).trans w0
 simp only [wps,j6u (v1 _),v0,gcz,gcs,List.drop_succ_cons,List.drop_zero,List.drop_nil]
 have hz:=h4.other nS (by omega) (λ _ y e=>by have:=nl y e;omega) (j00.cells [vB O.1.1.2.1,.slice xa O.1.1.2.2.length O.1.1.2.2.length] 52 none)
 have l4:S.length < (S3.set rb (j00.cells (rC false yb O.1.1.1.length fa s.fx.length sa s.sl.length 0 b la ln lc it tr s.win) 172 none)).length:=by rw [List.length_set]; omega
 simp only [wps,j6u (List.getElem?_set_self l4),gcz,gcs]
 refine ⟨xa,yb,rfl,hz,?_,by rw [List.length_set,List.length_set]; omega⟩
 have o5:j0v S1.length ((S3.set rb (j00.cells (rC false yb O.1.1.1.length fa s.fx.length sa s.sl.length 0 b la ln lc it tr s.win) 172 none)).set S.length (j00.cells [vB O.1.1.2.1,.slice xa O.1.1.2.2.length O.1.1.2.2.length] 52 none)) xa O.1.1.2.2:=o3.keep λ i e=>by
  have:=(o3.lt i e).1
  rw [List.getElem?_set_ne (by omega),List.getElem?_set_ne (by omega)]
 exact o5.imp id λ ⟨b,e1,e2,e3⟩=>⟨b,e1,by omega,e3⟩
end
theorem jx9 {p:Int} {l:List Ax} {inv:Bool}:∀ (r:List Stp) (t:Int),t<=jx7 p l inv t r/\∀ s∈r,((zcd p l inv s).length:Int)<=jx7 p l inv t r
 | [], t => ⟨Int.le_refl _, λ s hs => by cases hs⟩
 | x :: r, t => by
   unfold jx7
   obtain ⟨h1,h2⟩:=jx9 (p:=p) (l:=l) (inv:=inv) r (if ((zcd p l inv x).length:Int) > t then ((zcd p l inv x).length:Int) else t)
   have hx:t<=(if ((zcd p l inv x).length:Int) > t then ((zcd p l inv x).length:Int) else t)/\((zcd p l inv x).length:Int)<=(if ((zcd p l inv x).length:Int) > t then ((zcd p l inv x).length:Int) else t):=by split <;> omega
   refine ⟨Int.le_trans hx.1 h1,λ s hs=>?_⟩
   rcases List.mem_cons.1 hs with rfl | hs
   ·exact Int.le_trans hx.2 h1
   ·exact h2 s hs
structure RE (ok:Bool) (la:Option Addr) (ln lc:Nat) (it tr:Int) (S0:St) (M0:List Nat) (S:St) (rb b:Nat) (T:List Nat) (s:Ts) (ya fa sa:Option Addr):Prop where
 mo:Mo M0 S0 (fpR rb T fa sa) S
 r:S[rb]? = some (.cells (rC ok ya s.Y.length fa s.fx.length sa s.sl.length 0 b la ln lc it tr s.win) 172 none)
 ms:MS S b s.m T
 y:Ar S ya s.Y.length 1 eU s.Y
 ny:s.Y≠[]->∀ y,ya=some y->y.block∉fpR rb T fa sa
 fx:Own 0 S fa 80 6 (s.fx.flatMap (jah it tr))
 sl:Own 0 S sa 76 4 (s.sl.flatMap (jai it tr))
 rT:rb∉T
 nf:∀ i∈blk fa,i∉T/\i≠rb
 ns:∀ i∈blk sa,i∉T/\i≠rb/\i∉blk fa
 ne:∀ x∈s.fx,x.2.bad≠x.2.good
section
variable {la:Option Addr} {ln lc:Nat} {it tr:Int} {S0:St} {M0:List Nat} {S S':St} {rb b:Nat} {T T':List Nat} {s:Ts} {ya fa sa:Option Addr}
theorem RS.re (h:RS la ln lc it tr S0 M0 S rb b T s ya fa sa):RE false la ln lc it tr S0 M0 S rb b T s ya fa sa:=⟨h.mo,h.r,h.ms,h.y,h.ny,h.fx,h.sl,h.rT,h.nf,h.ns,h.ne⟩
theorem RS.fin (h:RS la ln lc it tr S0 M0 S rb b T s ya fa sa) (ok:Bool):RE ok la ln lc it tr S0 M0 (S.set rb (.cells (rC ok ya s.Y.length fa s.fx.length sa s.sl.length 0 b la ln lc it tr s.win) 172 none)) rb b T s ya fa sa:=by
 have hlt:=z1y h.r
 refine ⟨⟨⟨by rw [List.length_set]; exact h.mo.kp.len,λ i hi hn=>?_⟩,h.mo.own⟩,List.getElem?_set_self hlt,h.ms.kp (M:=[rb]) ⟨by simp,λ i hi hn=>by rw [List.getElem?_set_ne]; rintro rfl;simp at hn⟩ (λ i hi hr=>h.rT (by rw [List.mem_singleton] at hr;exact hr ▸ hi)),?_,h.ny,?_,?_,h.rT,h.nf,h.ns,h.ne⟩
 ·by_cases e:i=rb
  ·subst e
   rcases h.mo.own i (by simp) with h' | h'
   ·exact absurd h' hn
   ·omega
  ·rw [List.getElem?_set_ne (Ne.symm e),h.mo.kp.keep i hi hn]
 ·by_cases hY:s.Y=[]
  ·rw [hY]; exact ⟨rfl,λ i hi=>absurd hi (by simp)⟩
  ·refine h.y.keepL λ y e=>?_
   rw [List.getElem?_set_ne]
   rintro e2
   exact h.ny hY y e (by rw [<- e2]; exact List.mem_cons_self)
 ·refine h.fx.keep λ i e=>?_
  rw [List.getElem?_set_ne]
  rintro e2
  exact (h.nf i (jwp.2 ⟨⟨i,0,none⟩,e,rfl⟩)).2 e2.symm
 ·refine h.sl.keep λ i e=>?_
  rw [List.getElem?_set_ne]
  rintro e2
  exact (h.ns i (jwp.2 ⟨⟨i,0,none⟩,e,rfl⟩)).2.1 e2.symm
theorem RS.here (h:RS la ln lc it tr S0 M0 S rb b T s ya fa sa):RS la ln lc it tr S (fpR rb T fa sa) S rb b T s ya fa sa:=⟨.refl,h.r,h.ms,h.y,h.ny,h.fx,h.sl,h.rT,h.nf,h.ns,h.ne⟩
theorem RS.base {ya' fa' sa':Option Addr} {s':Ts} (h:RS la ln lc it tr S0 M0 S rb b T s ya fa sa) (k:RS la ln lc it tr S (fpR rb T fa sa) S' rb b T' s' ya' fa' sa'):RS la ln lc it tr S0 M0 S' rb b T' s' ya' fa' sa':=⟨h.mo.trans k.mo,k.r,k.ms,k.y,k.ny,k.fx,k.sl,k.rT,k.nf,k.ns,k.ne⟩
end
theorem zf6 {f:j1j} (hf:∀ m,(f m).1.2.2=[]) {of:Int->List Ev} {step:Int}:∀ (k:Nat) (s:Ts),s.Y=[]->(zf4 f of step k s).2.Y=[]
 | 0, s, h => h
 | k + 1, s, h => by
   unfold zf4
   split
   ·exact hf _
   ·exact zf6 hf k _ (hf _)
set_option maxHeartbeats 4000000 in
set_option maxRecDepth 20000 in
theorem j2r {q:Req} {a1 a4 a5 la ta:Option Addr} {c1 c4 c5 ln lc tc:Nat} {it tr TT W:Int} {S:St} {rb b:Nat} {T:List Nat} {s:Ts} {ya fa sa:Option Addr} {w:Nat} {l:List Ev} {G:List Stp}
 (h:RS la ln lc it tr S (fpR rb T fa sa) S rb b T s ya fa sa) (hl:Ar S la ln 6 Ev.cells l) (hlM:l≠[]->∀ y,la=some y->y.block∉fpR rb T fa sa) (hln:ln<=900) (hlk:∀ x∈l,Go.Proofs.YtpecnaacgkgjmaaGreatDoor.u64r x.ma) (hlt:∀ x∈l,x.ti<=9223372036854775807)
 (hax:Ar S a1 q.axes.length 2 eAx q.axes) (haM:∀ y,a1=some y->q.axes≠[]->y.block∉fpR rb T fa sa) (hb1:q.axes.length<=8796093022208)
 (hG:Ar S ta G.length 5 jaj G) (hGM:G≠[]->∀ y,ta=some y->y.block∉fpR rb T fa sa)
 (hst:∀ st∈G,zam q.P q.axes st=0/\2*(nV q.axes+6)+((zcd q.P q.axes q.inv st).length:Int)<=w) (hk:jt3 q.P=true) (hn:1<=nV q.axes/\nV q.axes<=4096) (hw2:2*(nV q.axes+6)<=w) (hrt:0<=q.retry/\q.retry<=8)
 (hY:s.Y=[]) (hB:TB s) (hw:s.m.W.length=w) (hwin:s.win+(G.length+1)*9<=190000) :
 WP (jpa [.pointer (some ⟨rb,0,none⟩),qv q a1 c1 a4 c4 a5 c5,vA [vI (nV q.axes),vI TT,vI W,.slice ta G.length tc]]) S λ v S'=>v=vI 0 /\
  ∃ T' ya' fa' sa',RE (j2g (zdk q) (ofS l it tr) G 0 0 (nV q.axes+6) s).1 la ln lc it tr S (fpR rb T fa sa) S' rb b T' (j2g (zdk q) (ofS l it tr) G 0 0 (nV q.axes+6) s).2 ya' fa' sa'/\TB (j2g (zdk q) (ofS l it tr) G 0 0 (nV q.axes+6) s).2/\(j2g (zdk q) (ofS l it tr) G 0 0 (nV q.axes+6) s).2.m.W.length=w/\(j2g (zdk q) (ofS l it tr) G 0 0 (nV q.axes+6) s).2.win<=200000:=by
 rw [jpb]
 generalize hV:j2g (zdk q) (ofS l it tr) G 0 0 (nV q.axes+6) s=V
 have e2:∀ i,S.length+i∉fpR rb T fa sa:=λ i hm=>by have:=h.lt hm;omega
 simp only [wps,List.append_assoc,List.cons_append,List.nil_append,List.length_append,List.length_cons,List.length_nil,Nat.zero_add,Nat.add_assoc,Nat.reduceAdd,gA,sA,List.set_cons_succ,List.set_cons_zero,List.getElem?_cons_succ,List.getElem?_cons_zero,j6u gA2]
 rw [wI_ (n:=nV q.axes+6) (by omega) (by omega)]
 obtain ⟨tm,htm⟩:=Int.eq_ofNat_of_zero_le (show 0<=q.retry+1 by omega)
 have htp:(zdk q).times=tm:=by show (q.retry+1).toNat=tm;omega
 have hp5:S <+: S++[j00.cells [.pointer (some ⟨rb,0,none⟩)] 167 none,j00.cells (qc q a1 c1 a4 c4 a5 c5) 62 none,j00.cells [vI (nV q.axes),vI TT,vI W,.slice ta G.length tc] 90 none,j00.cells [vI 0] 3 none,j00.cells [vI (nV q.axes+6)] 3 none]:=List.prefix_append _ _
 have b0:(S++[j00.cells [.pointer (some ⟨rb,0,none⟩)] 167 none,j00.cells (qc q a1 c1 a4 c4 a5 c5) 62 none,j00.cells [vI (nV q.axes),vI TT,vI W,.slice ta G.length tc] 90 none,j00.cells [vI 0] 3 none,j00.cells [vI (nV q.axes+6)] 3 none])[S.length]? = some (j00.cells [.pointer (some ⟨rb,0,none⟩)] 167 none):=gA0
 have b1:(S++[j00.cells [.pointer (some ⟨rb,0,none⟩)] 167 none,j00.cells (qc q a1 c1 a4 c4 a5 c5) 62 none,j00.cells [vI (nV q.axes),vI TT,vI W,.slice ta G.length tc] 90 none,j00.cells [vI 0] 3 none,j00.cells [vI (nV q.axes+6)] 3 none])[S.length+1]? = some (j00.cells (qc q a1 c1 a4 c4 a5 c5) 62 none):=gA1
 have b2:(S++[j00.cells [.pointer (some ⟨rb,0,none⟩)] 167 none,j00.cells (qc q a1 c1 a4 c4 a5 c5) 62 none,j00.cells [vI (nV q.axes),vI TT,vI W,.slice ta G.length tc] 90 none,j00.cells [vI 0] 3 none,j00.cells [vI (nV q.axes+6)] 3 none])[S.length+2]? = some (j00.cells [vI (nV q.axes),vI TT,vI W,.slice ta G.length tc] 90 none):=gA2
 have b3:(S++[j00.cells [.pointer (some ⟨rb,0,none⟩)] 167 none,j00.cells (qc q a1 c1 a4 c4 a5 c5) 62 none,j00.cells [vI (nV q.axes),vI TT,vI W,.slice ta G.length tc] 90 none,j00.cells [vI 0] 3 none,j00.cells [vI (nV q.axes+6)] 3 none])[S.length+3]? = some (j00.cells [vI 0] 3 none):=gA
 have b4:(S++[j00.cells [.pointer (some ⟨rb,0,none⟩)] 167 none,j00.cells (qc q a1 c1 a4 c4 a5 c5) 62 none,j00.cells [vI (nV q.axes),vI TT,vI W,.slice ta G.length tc] 90 none,j00.cells [vI 0] 3 none,j00.cells [vI (nV q.axes+6)] 3 none])[S.length+4]? = some (j00.cells [vI (nV q.axes+6)] 3 none):=gA
 have h5:=h.pre hp5
 generalize S++[j00.cells [.pointer (some ⟨rb,0,none⟩)] 167 none,j00.cells (qc q a1 c1 a4 c4 a5 c5) 62 none,j00.cells [vI (nV q.axes),vI TT,vI W,.slice ta G.length tc] 90 none,j00.cells [vI 0] 3 none,j00.cells [vI (nV q.axes+6)] 3 none]=S5 at hp5 b0 b1 b2 b3 b4 h5 ⊢
 have hlow:∀ {y:Addr} {T':List Nat} {fa' sa':Option Addr} {S':St},Mo (fpR rb T fa sa) S (fpR rb T' fa' sa') S'->y.block < S.length->y.block∉fpR rb T fa sa->y.block∉fpR rb T' fa' sa':=λ k hy hn=>k.out hn hy
 have hlb:l≠[]->∀ y,la=some y->y.block < S.length:=λ hne y e=>hl.low (λ x=>⟨_,rfl⟩) hne y e
 have hab:∀ y,a1=some y->q.axes≠[]->y.block < S.length:=λ y e hne=>hax.low (λ x=>⟨_,rfl⟩) hne y e
 refine zgd (λ st S' m=>∃ (i:Nat) (src dst:Int) (s':Ts) (T':List Nat) (ya' fa' sa':Option Addr),st=[vN i]/\m=G.length-i/\i<=G.length/\RS la ln lc it tr S (fpR rb T fa sa) S' rb b T' s' ya' fa' sa'/\s'.Y=[]/\TB s'/\s'.m.W.length=w/\s'.win<=s.win+i*9/\PlT (nV q.axes) w src dst /\
  (S'[S.length]? = some (j00.cells [.pointer (some ⟨rb,0,none⟩)] 167 none)/\S'[S.length+1]? = some (j00.cells (qc q a1 c1 a4 c4 a5 c5) 62 none)/\S'[S.length+2]? = some (j00.cells [vI (nV q.axes),vI TT,vI W,.slice ta G.length tc] 90 none)/\S'[S.length+3]? = some (j00.cells [vI src] 3 none)/\S'[S.length+4]? = some (j00.cells [vI dst] 3 none)) /\
  (∀ k,k < 5->S.length+k∉fpR rb T' fa' sa')/\j2g (zdk q) (ofS l it tr) (G.drop i) i src dst s'=V) ?_ G.length _ _
  ⟨0,0,nV q.axes+6,s,T,ya,fa,sa,rfl,rfl,Nat.zero_le _,h5,hY,hB,hw,by simp,⟨by omega,by omega,by omega,by omega⟩,⟨b0,b1,b2,b3,b4⟩,λ k _=>e2 k,hV⟩
 rintro st S6 _ ⟨i,src,dst,s1,T1,ya1,fa1,sa1,rfl,rfl,hi,h6,hY1,hB1,hw1,hwi,hpl,⟨d0,d1,d2,d3,d4⟩,hf,hV1⟩
 have f0:=hf 0 (by omega)
 have f1:=hf 1 (by omega)
 have f2:=hf 2 (by omega)
 have f3:=hf 3 (by omega)
 have f4:=hf 4 (by omega)
 have hBw:=hB.w
 rw [Nat.add_zero] at f0
 have hlM1:l≠[]->∀ y,la=some y->y.block∉fpR rb T1 fa1 sa1:=λ hne y e=>hlow h6.mo (hlb hne y e) (hlM hne y e)
 have haM1:∀ y,a1=some y->q.axes≠[]->y.block∉fpR rb T1 fa1 sa1:=λ y e hne=>hlow h6.mo (hab y e hne) (haM y e hne)
 simp only [wps]
 refine ⟨λ g3=>?_,λ g3=>?_⟩
 ·have hi':i < G.length:=by omega
  have hG6:Ar S6 ta G.length 5 jaj G:=h6.mo.kp.ar hG hGM
  obtain ⟨x,rfl,s1',s2',s3',s4',s5'⟩:=hG6.getStp hi'
  have hp7:=List.prefix_append S6 [j00.cells (spC G[i]) 29 none]
  have z7:=jek (S:=S6) (o:=j00.cells (spC G[i]) 29 none)
  simp only [wps,s1',s2',s3',s4',s5',Int.toNat_natCast]
  refine ⟨g3,?_⟩
  have h7:=h6.pre hp7
  have n7:S6.length∉fpR rb T1 fa1 sa1:=λ hm=>by have:=h6.lt hm;omega
  have z7l:=z1y z7
  generalize S6++[j00.cells (spC G[i]) 29 none]=S7 at hp7 z7 h7 z7l ⊢
  have d0:=z1w hp7 d0
  have d1:=z1w hp7 d1
  have d2:=z1w hp7 d2
  have d3:=z1w hp7 d3
  have d4:=z1w hp7 d4
  simp only [wps,j6u d0,j6u d1,gcz,gcs]
  rw [wI_ (n:=q.retry+1) (by omega) (by omega),htm]
  obtain ⟨hst1,hst2⟩:=hst _ (List.getElem_mem hi')
  have htb:=zcj (inv:=q.inv) hst1
  have hfk:=ja1 (c:=zdk q) hst1 hpl hst2
  have hdos:=ja4 (la:=la) (ln:=ln) (lc:=lc) (it:=it) (tr:=tr) (b:=b) (w:=w) (dst:=dst) d0 d1 z7 d3 d4 d2 ⟨f0,f1,n7,f3,f4,f2⟩ (h7.mo.kp.ar hax λ hne y e=>haM y e hne) haM1 hb1 hst1 hpl hst2 hn
  refine (zfa (step:=(i:Int)) (times:=tm) hdos hfk (by unfold j82;show 6*nV q.axes+12+2*((zcd q.P q.axes q.inv G[i]).length:Int)<=90000;omega) (h7.mo.kp.ar hl hlM) hlM1 hln hlk hlt h7.here hY1 hB1 hw1 (by omega) (by omega)).mono ?_
  rintro _ S8 ⟨rfl,T8,ya8,fa8,sa8,k8,hB8,hw8,hwin8,hY8⟩
  have hYd:=zf6 (f:=doF (zdk q) G[i] src dst) (λ _=>rfl) (of:=ofS l it tr) (step:=(i:Int)) tm s1 hY1
  have hVs:j2g (zdk q) (ofS l it tr) (G.drop i) i src dst s1=if (zf4 (doF (zdk q) G[i] src dst) (ofS l it tr) i tm s1).1=true then j2g (zdk q) (ofS l it tr) (G.drop (i+1)) ((i:Int)+1) dst src (zf4 (doF (zdk q) G[i] src dst) (ofS l it tr) i tm s1).2 else zf4 (doF (zdk q) G[i] src dst) (ofS l it tr) i tm s1:=by
   rw [List.drop_eq_getElem_cons hi',<- htp]; rfl
  rw [hV1] at hVs
  have h8:=h7.base k8
  generalize zf4 (doF (zdk q) G[i] src dst) (ofS l it tr) i tm s1=R at k8 hB8 hw8 hwin8 hY8 hYd hVs h8 ⊢
  simp only [wps]
  refine ⟨λ e=>?_,λ e=>?_⟩
  ·rw [e,if_neg (by decide)] at hVs
   rw [hVs,e]
   exact ⟨T8,ya8,fa8,sa8,h8.re,hB8,hw8,by omega⟩
  ·rw [if_pos e] at hVs
   have q0:=k8.mo.get d0 f0
   have q1:=k8.mo.get d1 f1
   have q2:=k8.mo.get d2 f2
   have q3:=k8.mo.get d3 f3
   have q4:=k8.mo.get d4 f4
   have hf8:∀ k,k < 5->S.length+k∉fpR rb T8 fa8 sa8:=λ k hk5=>k8.mo.out (hf k hk5) (by have:=z1y d4;omega)
   have l3:=z1y q3
   have l4:=z1y q4
   have v3:(S8.set (S.length+3) (j00.cells [vI dst] 3 none))[S.length+4]? = some (j00.cells [vI dst] 3 none):=(List.getElem?_set_ne (by omega)).trans q4
   have h9:=(h8.other (hf8 3 (by omega)) (by omega) (λ hne=>absurd hYd hne) (j00.cells [vI dst] 3 none)).other (hf8 4 (by omega)) (by omega) (λ hne=>absurd hYd hne) (j00.cells [vI src] 3 none)
   simp only [wps,j6u q4,j6u q3,q3,v3,List.getElem?_cons_zero,List.drop_succ_cons,List.drop_zero]
   rw [wI_ (n:=(i:Int)+1) (by omega) (by omega)]
   have hne:∀ (o o':j00) (j:Nat),j≠S.length+3->j≠S.length+4->((S8.set (S.length+3) o).set (S.length+4) o')[j]? = S8[j]?:=λ o o' j h1 h2=>by rw [List.getElem?_set_ne (Ne.symm h2),List.getElem?_set_ne (Ne.symm h1)]
   refine ⟨G.length-(i+1),by omega,i+1,dst,src,R.2,T8,ya8,fa8,sa8,rfl,rfl,by omega,h9,hYd,hB8,hw8,by omega,⟨hpl.2.1,hpl.1,hpl.2.2.2,hpl.2.2.1⟩,⟨?_,?_,?_,?_,?_⟩,hf8,hVs.symm⟩
   ·rw [hne _ _ _ (by omega) (by omega)]; exact q0
   ·rw [hne _ _ _ (by omega) (by omega)]; exact q1
   ·rw [hne _ _ _ (by omega) (by omega)]; exact q2
   ·rw [List.getElem?_set_ne (by omega),List.getElem?_set_self l3]
   ·rw [List.getElem?_set_self (by rw [List.length_set]; exact l4)]
 ·obtain rfl:i=G.length:=by omega
  rw [List.drop_length] at hV1
  simp only [wps,j6u d0,j6u d1,j6u d2,gcz,gcs]
  rw [wI_ (n:=q.retry+1) (by omega) (by omega),htm]
  have hfk:=jzk (c:=zdk q) (src:=src) (w:=w) hk hn ⟨hpl.1,hpl.2.2.1⟩
  have hdos:=jzp (la:=la) (ln:=ln) (lc:=lc) (it:=it) (tr:=tr) (b:=b) (w:=w) d0 d1 d3 d2 ⟨f0,f1,f3,f2⟩ hk hn ⟨hpl.1,hpl.2.2.1⟩
  refine (zfa (step:=(G.length:Int)) (times:=tm) hdos hfk (by show 2*nV q.axes+6<=90000;omega) (h6.mo.kp.ar hl hlM) hlM1 hln hlk hlt h6.here hY1 hB1 hw1 (by omega) (by omega)).mono ?_
  rintro _ S8 ⟨rfl,T8,ya8,fa8,sa8,k8,hB8,hw8,hwin8,hY8⟩
  have hVs:j2g (zdk q) (ofS l it tr) [] G.length src dst s1=zf4 (jzj (zdk q) src) (ofS l it tr) G.length tm s1:=by rw [<- htp]; rfl
  rw [hV1] at hVs
  have h8:=h6.base k8
  rw [<- hVs] at k8 hB8 hw8 hwin8 hY8 h8 ⊢
  have q0:=k8.mo.get d0 f0
  have hr8:=h8.r
  simp only [wps,j6u q0,hr8,z41,List.getElem?_cons_zero]
  exact ⟨by decide,T8,ya8,fa8,sa8,h8.fin V.1,hB8,hw8,by omega⟩
def zfj (q:Req):Int×Int:=if j7c q=0 then (1+(q.retry+1)*(((zau q.inv 0 q.axes).length:Int)+1),0) else (0,j7c q)
theorem zfk {S:St} {q:Req} {a1 a4 a5:Option Addr} {c1 c4 c5:Nat} (h:QA S q a1 a4 a5) :
 Sp (jp4 [qv q a1 c1 a4 c4 a5 c5]) S λ v S'=>v=vT [vI (zfj q).1,vI (zfj q).2]:=by
 unfold Sp
 rw [jp5]
 simp only [wps]
 have hp:S <+: S++[j00.cells (qc q a1 c1 a4 c4 a5 c5) 62 none]:=List.prefix_append _ _
 refine (j7f (c1:=c1) (c4:=c4) (c5:=c5) (h.mono hp)).use ?_
 rintro _ S1 h1 rfl
 have hb1:=z1w h1 jek
 simp only [wps,j6u hb1]
 unfold zfj
 refine ⟨λ hc=>by rw [if_neg hc]; exact ⟨hp.trans h1,rfl⟩,λ hc=>?_⟩
 rw [if_pos hc]
 obtain ⟨q1,q2,_⟩:=j7d hc
 obtain ⟨f1,f2,f3,f4⟩:=j83 q2
 refine (zb3 (h.ax.mono (hp.trans h1)) h.b1 q.inv).mono ?_
 rintro _ S2 ⟨a,rfl,hap⟩
 have hb2:=z1w hap.pre hb1
 have hs:zav q.P q.axes q.inv=(zau q.inv 0 q.axes,0):=by unfold zav;rw [if_pos q2]
 rw [hs]
 simp only [wps,j6u hb2]
 refine ⟨hp.trans (h1.trans hap.pre),?_⟩
 obtain ⟨m1,m2⟩:=jxl (a:=q.retry+1) (A:=9) (b:=((zau q.inv 0 q.axes).length:Int)+1) (B:=16393) (by omega) (by omega) (by omega) (by omega)
 rw [wI_ (n:=q.retry+1) (by omega) (by omega),wI_ (n:=((zau q.inv 0 q.axes).length:Int)+1) (by omega) (by omega),wI_ (n:=(q.retry+1)*(((zau q.inv 0 q.axes).length:Int)+1)) (by omega) (by omega),wI_ (by omega) (by omega)]
end Go.AM
