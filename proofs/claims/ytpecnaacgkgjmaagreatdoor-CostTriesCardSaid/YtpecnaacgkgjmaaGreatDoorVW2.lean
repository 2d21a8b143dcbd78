/-
  Part of the proof of a law: what the functions compute. Conditions: none.
-/
import Derived.Test.YtpecnaacgkgjmaaGreatDoorVW1
import Derived.Test.YtpecnaacgkgjmaaGreatDoorVP1
import Derived.KernelRfl
set_option linter.unusedVariables false
set_option linter.unusedSectionVars false
set_option linter.unusedSimpArgs false
set_option linter.deprecated false
namespace Go.AM
open Go Go.Proofs.YtpecnaacgkgjmaaGreatDoor
set_option maxHeartbeats 4000000 in
set_option maxRecDepth 20000 in
theorem jdj {S:St} {p:Int} {wa a:Option Addr} {wn wc n c:Nat} {x0 x1 x2 x3 w0 w1 w2 w3:Int} (h:Ar S a n 1 eU [x0,x1,x2,x3]) (h0:inU x0) (h1:inU x1) (h2:inU x2) (h3:inU x3) (hw:Ar S wa wn 1 eU [w0,w1,w2,w3]) (hw1:inU w1) :
 WP (jin [wgV p wa wn wc,.slice a n c]) S λ v S'=>∃ b,v = .slice (some ⟨b,0,none⟩) 4 4/\Nw S S' b (jdh p w1 x0 x1 x2 x3):=by
 have hl:n=4:=h.1
 have hl2:wn=4:=hw.1
 subst hl hl2
 obtain ⟨x,rfl⟩:=addrOf h (by simp)
 obtain ⟨y,rfl⟩:=addrOf hw (by simp)
 rw [jio]
 simp only [wps]
 have z:=jek (S:=S) (o:=j00.cells [vU p,.slice (some y) 4 wc] 232 none)
 have hp:=List.prefix_append S [j00.cells [vU p,.slice (some y) 4 wc] 232 none]
 generalize hY:S++[j00.cells [vU p,.slice (some y) 4 wc] 232 none]=Y at hp z ⊢
 have C:=λ (S':St) (k:Y <+: S')=>And.intro (j6t (h.mono (hp.trans k)) 0 rfl) (And.intro (j6t (h.mono (hp.trans k)) 1 rfl) (And.intro (j6t (h.mono (hp.trans k)) 2 rfl) (And.intro (j6t (h.mono (hp.trans k)) 3 rfl) (And.intro (j6t (hw.mono (hp.trans k)) 1 rfl) (z1w k z)))))
 simp only [j25] at C
 obtain ⟨c0,c1,c2,c3,d1,e0⟩:=C Y List.prefix_rfl
 simp only [wps,j6u e0,c0,c1,c2,c3,d1,gcz,gcs]
 refine ⟨by decide,by decide,?_⟩
 have hp1:=List.prefix_append Y [j00.cells [vU x0,vU x2] 24 none]
 have z1:=jek (S:=Y) (o:=j00.cells [vU x0,vU x2] 24 none)
 generalize hY1:Y++[j00.cells [vU x0,vU x2] 24 none]=Y1 at hp1 z1 ⊢
 obtain ⟨c0,c1,c2,c3,d1,e0⟩:=C Y1 hp1
 simp only [wps,j6u e0,c0,c1,c2,c3,d1,gcz,gcs]
 refine ⟨by decide,by decide,?_⟩
 have hp2:=List.prefix_append Y1 [j00.cells [vU x1,vU x3] 24 none]
 have z2:=jek (S:=Y1) (o:=j00.cells [vU x1,vU x3] 24 none)
 generalize hY2:Y1++[j00.cells [vU x1,vU x3] 24 none]=Y2 at hp2 z2 ⊢
 have z1:=z1w hp2 z1
 have k2:=hp1.trans hp2
 have arE:Ar Y2 (some (ad Y.length 0)) 2 1 eU [x0,x2]:=Ar.blk (l:=[x0,x2]) z1 (λ _ _=>rfl) rfl
 have arO:Ar Y2 (some (ad Y1.length 0)) 2 1 eU [x1,x3]:=Ar.blk (l:=[x1,x3]) z2 (λ _ _=>rfl) rfl
 refine (zee (c:=2) arE h0 h2).mono ?_
 rintro _ S3 ⟨be,rfl,hE⟩
 have k3:=k2.trans hE.p
 obtain ⟨c0,c1,c2,c3,d1,e0⟩:=C S3 k3
 simp only [wps,j6u e0,c0,c1,c2,c3,d1,gcz,gcs,and_true,true_and]
 refine (zee (c:=2) (arO.mono hE.p) h1 h3).mono ?_
 rintro _ S4 ⟨bo,rfl,hO⟩
 have k4:=k3.trans hO.p
 have E:=λ (S':St) (k:S4 <+: S')=>And.intro (j6t ((hE.more hO.p).ar.mono k) 0 rfl) (And.intro (j6t ((hE.more hO.p).ar.mono k) 1 rfl) (And.intro (j6t (hO.ar.mono k) 0 rfl) (j6t (hO.ar.mono k) 1 rfl)))
 simp only [j25,j23,Nat.zero_add] at E
 have ue0:=j21 p [x0,x2]
 have ue1:=zbi p x0 x2
 have uo0:=j21 p [x1,x3]
 have uo1:=zbi p x1 x3
 have hum:inU (jxc p (zbg p x1 x3) w1):=jxh p _ _
 unfold jdh
 generalize j1x p [x0,x2]=ev0 at E ue0 ⊢
 generalize zbg p x0 x2=ev1 at E ue1 ⊢
 generalize j1x p [x1,x3]=od0 at E uo0 ⊢
 generalize zbg p x1 x3=od1 at E uo1 hum ⊢
 generalize hturn:jxc p od1 w1=turn at hum ⊢
 have two:(2:Nat)=(2:Nat):=rfl
 obtain ⟨f0,f1,g0,g1⟩:=E S4 List.prefix_rfl
 obtain ⟨c0,c1,c2,c3,d1,e0⟩:=C S4 k4
 simp only [wps,j6u e0,d1,f0,f1,g0,g1,gcz,gcs,and_true,true_and]
 refine ⟨by decide,by decide,?_⟩
 refine (zfl uo1 hw1).use ?_
 rintro _ S5 k5 rfl
 rw [hturn]
 have q5:=k5
 have k5:=k4.trans k5
 obtain ⟨f0,f1,g0,g1⟩:=E S5 q5
 obtain ⟨c0,c1,c2,c3,d1,e0⟩:=C S5 k5
 simp only [wps,j6u e0,d1,f0,f1,g0,g1,gcz,gcs,and_true,true_and]
 refine ⟨by decide,by decide,?_⟩
 have hp6:=List.prefix_append S5 [j00.cells [vU ev0,vU od0] 24 none]
 have z6:=jek (S:=S5) (o:=j00.cells [vU ev0,vU od0] 24 none)
 generalize hY6:S5++[j00.cells [vU ev0,vU od0] 24 none]=Y6 at hp6 z6 ⊢
 have q6:=q5.trans hp6
 have k6:=k5.trans hp6
 obtain ⟨f0,f1,g0,g1⟩:=E Y6 q6
 obtain ⟨c0,c1,c2,c3,d1,e0⟩:=C Y6 k6
 simp only [wps,j6u e0,d1,f0,f1,g0,g1,gcz,gcs,and_true,true_and]
 refine ⟨by decide,?_⟩
 have hp7:=List.prefix_append Y6 [j00.cells [vU ev1,vU turn] 24 none]
 have z7:=jek (S:=Y6) (o:=j00.cells [vU ev1,vU turn] 24 none)
 generalize hY7:Y6++[j00.cells [vU ev1,vU turn] 24 none]=Y7 at hp7 z7 ⊢
 have z6:=z1w hp7 z6
 have q7:=q6.trans hp7
 have k7:=k6.trans hp7
 obtain ⟨f0,f1,g0,g1⟩:=E Y7 q7
 obtain ⟨c0,c1,c2,c3,d1,e0⟩:=C Y7 k7
 simp only [wps,j6u e0,d1,f0,f1,g0,g1,gcz,gcs,and_true,true_and]
 refine ⟨by decide,by decide,by decide,?_⟩
 have ar6:Ar Y7 (some (ad S5.length 0)) 2 1 eU [ev0,od0]:=Ar.blk (l:=[ev0,od0]) z6 (λ _ _=>rfl) rfl
 have ar7:Ar Y7 (some (ad Y6.length 0)) 2 1 eU [ev1,turn]:=Ar.blk (l:=[ev1,turn]) z7 (λ _ _=>rfl) rfl
 refine (zey (c:=2) ar6 (by intro y hy;simp at hy;rcases hy with rfl | rfl <;> assumption) (by omega)).use ?_
 rintro _ S8 k8 rfl
 have ar7:=ar7.mono k8
 have q8:=q7.trans k8
 have k8:=k7.trans k8
 obtain ⟨f0,f1,g0,g1⟩:=E S8 q8
 obtain ⟨c0,c1,c2,c3,d1,e0⟩:=C S8 k8
 simp only [wps,j6u e0,d1,f0,f1,g0,g1,gcz,gcs,and_true,true_and]
 refine (zey (c:=2) ar7 (by intro y hy;simp at hy;rcases hy with rfl | rfl <;> assumption) (by omega)).use ?_
 rintro _ S9 k9 rfl
 have q9:=q8.trans k9
 have k9:=k8.trans k9
 obtain ⟨f0,f1,g0,g1⟩:=E S9 q9
 obtain ⟨c0,c1,c2,c3,d1,e0⟩:=C S9 k9
 simp only [wps,j6u e0,d1,f0,f1,g0,g1,gcz,gcs,and_true,true_and]
 refine (zhh ue0 uo0).use ?_
 rintro _ S10 k10 rfl
 have q10:=q9.trans k10
 have k10:=k9.trans k10
 obtain ⟨f0,f1,g0,g1⟩:=E S10 q10
 obtain ⟨c0,c1,c2,c3,d1,e0⟩:=C S10 k10
 simp only [wps,j6u e0,d1,f0,f1,g0,g1,gcz,gcs,and_true,true_and]
 refine (zhh ue1 hum).use ?_
 rintro _ S11 k11 rfl
 have k11:=k10.trans k11
 simp only [wps]
 exact ⟨S11.length,rfl,(hp.trans k11).trans (List.prefix_append _ _),(hp.trans k11).length_le,none,jek⟩
theorem zfs {S:St} {b n:Nat} {t:TypeId} {g:Option Nat} {l:List Int} {y:Int} {Q:Sl->St->Prop} (hb:S[b]? = some (.cells (l.flatMap eU) t g)) (hg:g=none\/g=some 1) (hn:n=l.length) (hsz:n<=1000000)
 (q:∀ S',S'.length=S.length+1->(∀ i,i < S.length->i≠b->S'[i]? = S[i]?)->S'[S.length]? = some (.cells ((l++[y]).flatMap eU) t (some 1))->Q ⟨some ⟨S.length,0,none⟩,n+1,n+1⟩ S') :
 WP (j33 t 1 8 (some ⟨b,0,none⟩) n n 1 [vU y]) S Q:=by
 have hfl:=jcv (e:=eU) (w:=1) (λ _=>rfl) l
 have hfin:(l++[y]).flatMap eU=l.flatMap eU++[vU y]:=by rw [List.flatMap_append]; rfl
 rcases hg with rfl | rfl
 ·unfold j33
  rw [if_neg (by omega),if_pos ⟨by omega,by omega⟩]
  dsimp only
  rw [zg4]
  refine zgm hb rfl (by simp [hfl]; omega) ?_
  have e1:(((l.flatMap eU).drop 0).take (n*1))=l.flatMap eU:=by rw [List.drop_zero,List.take_of_length_le (by omega)]
  rw [e1]
  refine ⟨⟨some ⟨S.length,0,none⟩,n+1,n+1⟩,S++[.cells (l.flatMap eU++[vU y]) t (some 1)],by dsimp only;rw [hb],?_⟩
  exact q _ (by simp) (λ i hi _=>List.getElem?_append_left hi) (by rw [jek,hfin])
 ·refine zft (.inr ⟨b,rfl,hb⟩) (by omega) (by omega) (by omega) (by omega) rfl ?_
  intro S' h1 h2 h3
  exact q S' h1 (λ i hi hne=>h2 i hi (by intro e;injection e with e;injection e with e;exact hne e.symm)) (by rw [h3,hfin])
set_option maxHeartbeats 4000000 in
theorem jcf {S:St} {p W:Int} {wa a:Option Addr} {wn wc n c:Nat} {x:List Int} (hx5:x.length=5) (h:Ar S a n 1 eU x) (hu:∀ y∈x,inU y) (hw:Ar S wa wn 1 eU (z1q p W 5)) :
 WP (jik [wgV p wa wn wc,.slice a n c]) S λ v S'=>∃ b,v = .slice (some ⟨b,0,none⟩) 5 5/\Nw S S' b (jcd p W x):=by
 have hl:n=5:=by have:=h.1;omega
 have hl2:wn=5:=by have:=hw.1;rw [z1s] at this;exact this
 subst hl hl2
 obtain ⟨xa,rfl⟩:=addrOf h (by omega)
 obtain ⟨y,rfl⟩:=addrOf hw (by rw [z1s]; decide)
 rw [jil]
 simp only [wps]
 have z:=jek (S:=S) (o:=j00.cells [vU p,.slice (some y) 5 wc] 232 none)
 have hp:=List.prefix_append S [j00.cells [vU p,.slice (some y) 5 wc] 232 none]
 generalize hY:S++[j00.cells [vU p,.slice (some y) 5 wc] 232 none]=Y at hp z ⊢
 refine (zey (c:=c) (h.mono hp) hu (by omega)).use ?_
 rintro _ S1 k1 rfl
 have z1:=z1w k1 z
 have hS1:=hp.trans k1
 simp only [wps]
 have hget:∀ i,i < 5->x[i]? = some (x.getD i 0):=λ i hi=>by rw [List.getD_eq_getElem?_getD,List.getElem?_eq_getElem (by omega)]; rfl
 have hgu:∀ i,inU (x.getD i 0):=by
  intro i
  rw [List.getD_eq_getElem?_getD]
  cases hc:x[i]? with
  | none=>simp [inU]
  | some v=>exact hu v (List.mem_of_getElem? hc)
 -- outer loop: the first append goes to a literal
 refine zgd (λ st S' m=>∃ (u b:Nat) (g:Option Nat),st=[.slice (some ⟨b,0,none⟩) (u+1) (u+1),vN (u+1)]/\m=4-u/\u<=4/\(g=none\/g=some 1)/\S1 <+: S'/\S1.length<=b/\S'[b]? = some (.cells ((j1x p x :: (List.range u).map λ t=>jcc p W x (t+1)).flatMap eU) 24 g)) ?_ 4 _ _ ⟨0,S1.length,none,rfl,rfl,by omega,.inl rfl,List.prefix_append _ _,Nat.le_refl _,jek⟩
 rintro st S' m ⟨u,b,g,rfl,rfl,hu4,hg,hS',hb,hcell⟩
 have C:=λ (S2:St) (k:S' <+: S2)=>And.intro (z1w k (z1w hS' z1)) (And.intro (λ i (hi:i < 5)=>j6t (h.mono (hS1.trans (hS'.trans k))) i (hget i hi)) (λ i (hi:i < 5)=>j6t (hw.mono (hS1.trans (hS'.trans k))) i (show (z1q p W 5)[i]? = some (z1g p W i) by simp [z1q,hi])))
 obtain ⟨c0,c1,c2⟩:=C S' List.prefix_rfl
 have cx0:=c1 0 (by omega)
 rw [j25] at cx0
 simp only [wps,cx0]
 refine ⟨λ h3=>⟨⟨by decide,by decide⟩,?_⟩,λ h3=>?_⟩
 rotate_left
 ·obtain rfl:u=4:=by omega
  exact ⟨b,rfl,hS1.trans hS',Nat.le_trans hS1.length_le hb,g,hcell⟩
 have hu4':u < 4:=by omega
 let acc:Nat->Int:=λ t=>((List.range t).map λ t=>jxc p (x.getD (t+1) 0) (z1g p W ((t+1)*(u+1) % 5))).foldl (λ s y=>j1x p [s,y]) (x.getD 0 0)
 have acc_s:∀ t,acc (t+1)=j1x p [acc t,jxc p (x.getD (t+1) 0) (z1g p W ((t+1)*(u+1) % 5))]:=λ t=>by
  show ((List.range (t+1)).map _).foldl _ _=_
  rw [List.range_succ,List.map_append,List.foldl_append]; rfl
 have acc_u:∀ t,inU (acc t):=by
  intro t
  cases t with
  | zero=>exact hgu 0
  | succ t=>rw [acc_s]; exact j21 p _
 have acc_4:acc 4=jcc p W x (u+1):=rfl
 have acc_0:acc 0=x.getD 0 0:=rfl
 rw [<- acc_0]
 clear_value acc
 refine zgd (λ st S2 m=>∃ t:Nat,st=[vU (acc t),vN (t+1)]/\m=4-t/\t<=4/\S' <+: S2) ?_ 4 _ _ ⟨0,rfl,rfl,by omega,List.prefix_rfl⟩
 rintro st S2 m ⟨t,rfl,rfl,ht4,hS2⟩
 obtain ⟨c0,c1,c2⟩:=C S2 hS2
 have e1:wI (((t+1:Nat):Int)*((u+1:Nat):Int))=(((t+1)*(u+1):Nat):Int):=by
  have h1:(t+1)*(u+1)<=5*5:=Nat.mul_le_mul (by omega) (by omega)
  rw [<- Int.natCast_mul,wN (by omega)]
 have e2:(((t+1)*(u+1):Nat):Int).tmod 5=(((t+1)*(u+1) % 5:Nat):Int):=rfl
 have hmod:(t+1)*(u+1) % 5 < 5:=Nat.mod_lt _ (by omega)
 have hmu:=jxn (p:=p) (hgu (t+1)) (z1i p W ((t+1)*(u+1) % 5))
 have hmr:inU (jxc p (x.getD (t+1) 0) (z1g p W ((t+1)*(u+1) % 5))):=jxh p _ _
 simp only [wps,e1,e2,j6u c0,gcz,gcs,Int.toNat_natCast,c2 _ hmod]
 refine ⟨λ h4=>?_,λ h4=>?_⟩
 ·have ht:t < 4:=by omega
  have cx:=c1 (t+1) (by omega)
  simp only [wps,cx,j6u c0,gcz,gcs,c2 _ hmod]
  refine ⟨by omega,Int.ofNat_lt.2 hmod,?_⟩
  refine (zfl (hgu (t+1)) (z1i p W ((t+1)*(u+1) % 5))).use ?_
  rintro _ S3 k3 rfl
  obtain ⟨c0,c1,c2⟩:=C S3 (hS2.trans k3)
  simp only [wps,j6u c0,gcz,gcs,and_true,true_and]
  generalize hM:jxc p (x.getD (t+1) 0) (z1g p W ((t+1)*(u+1) % 5))=M at hmr ⊢
  have hp4:=List.prefix_append S3 [j00.cells [vU (acc t),vU M] 24 none]
  have z4:=jek (S:=S3) (o:=j00.cells [vU (acc t),vU M] 24 none)
  generalize hY4:S3++[j00.cells [vU (acc t),vU M] 24 none]=Y4 at hp4 z4 ⊢
  have ar4:Ar Y4 (some (ad S3.length 0)) 2 1 eU [acc t,M]:=Ar.blk (l:=[acc t,M]) z4 (λ _ _=>rfl) rfl
  have hat:=acc_u t
  refine (zey (c:=2) ar4 (by intro y hy;simp at hy;rcases hy with rfl | rfl <;> assumption) (by omega)).use ?_
  rintro _ S5 k5 rfl
  simp only [wps]
  rw [wI_ (n:=((t+1:Nat):Int)+1) (by omega) (by omega)]
  exact ⟨4-(t+1),by omega,t+1,by rw [acc_s,hM]; rfl,rfl,by omega,hS2.trans (k3.trans (hp4.trans k5))⟩
 ·obtain rfl:t=4:=by omega
  have hb2:=z1w hS2 hcell
  have hfl:=z1y hb2
  have hbS:S1.length<=S2.length:=(hS'.trans hS2).length_le
  refine z4y (jek (S:=S2) (o:=j00.cells [vU (acc 4)] 24 none)) rfl ?_
  have hb3:(S2++[j00.cells [vU (acc 4)] 24 none])[b]? = some (.cells ((j1x p x :: (List.range u).map λ t=>jcc p W x (t+1)).flatMap eU) 24 g):=jeh hb2
  refine zfs hb3 hg (by simp) (by omega) ?_
  intro S3 l3 k3 n3
  simp only [wps]
  rw [wI_ (n:=((u+1:Nat):Int)+1) (by omega) (by omega)]
  refine ⟨4-(u+1),by omega,u+1,S2.length+1,some 1,by simp,rfl,by omega,.inr rfl,?_,by omega,?_⟩
  ·rw [List.prefix_iff_getElem?]
   intro i hi
   rw [k3 i (by simp;omega) (by omega),List.getElem?_append_left (by omega),z1u (hS'.trans hS2) hi,List.getElem?_eq_getElem hi]
  ·simp only [List.length_append,List.length_singleton] at n3
   rw [n3,acc_4,List.range_succ,List.map_append]; rfl
theorem jd7 (p:Int) (inv:Bool) (r:Int):inU (jd6 p inv r):=by
 unfold jd6
 cases inv with
 | false => exact z61 p r
 | true =>
   simp only [if_true]
   unfold j5l
   split
   ·exact js9 p _
   ·simp [inU]
theorem z1c {C:FuncId->List Value->M Value} {S:St} {p:Int} {inv:Bool} {r:Nat} (hr:2<=r/\r<=5) (h:(z60 p r).2=0) :
 WP (jib C [vU p,vN r,vB inv]) S λ v S'=>∃ a,v=vT [.slice a r r,vI 0]/\S <+: S'/\Ar S' a r 1 eU (z1q p (jd6 p inv r) r):=by
 obtain ⟨hk,-⟩:=z65 h
 rw [jic,jt8]
 simp only [wps,hk]
 refine ⟨λ e=>by omega,λ _=>⟨λ e=>by omega,λ _=>?_⟩⟩
 have hpw:z1o p (jd6 p inv r) (r:Int)=(z1q p (jd6 p inv r) r,0):=by unfold z1o;rw [if_pos hk,if_neg (by omega),Int.toNat_natCast]
 have main:∀ Q:Value->St->Prop,(∀ a S',S <+: S'->Ar S' a r 1 eU (z1q p (jd6 p inv r) r)->Q (vT [.slice a r r,vI 0]) S')->WP (jln [vU p,vU (jd6 p inv r),vN r]) S Q:=by
  intro Q hQ
  refine (z1p (p:=p) (jd7 p inv r)).use ?_
  rintro _ S1 k1 ⟨b,k',rfl,hpa,hpb⟩
  rw [hpw] at hpa hpb ⊢
  obtain ⟨rfl,hk',hpc⟩:=hpb rfl
  rw [Int.toNat_natCast] at hk'
  subst hk'
  simp only [z1s] at hpa ⊢
  exact hQ _ _ k1 hpa
 refine ⟨λ hi=>?_,λ hi=>?_⟩
 ·subst hi
  have hb:=j5n h
  have hf:jd6 p true r=(j5l p r).1:=by simp [jd6]
  simp only [wps,j5p,hb.1]
  rw [<- hf]
  refine main _ λ a S' k har=>?_
  simp only [wps]
  exact ⟨a,rfl,k,har⟩
 ·subst hi
  have hf:jd6 p false r=(z60 p r).1:=by simp [jd6]
  simp only [wps,z68,h]
  rw [<- hf]
  refine main _ λ a S' k har=>?_
  simp only [wps]
  exact ⟨a,rfl,k,har⟩
theorem jrw {p:Int} (hk:jt3 p=true) {l:List Int} (h:∀ x∈l,inP p x):inV p l=true:=by
 unfold inV
 rw [hk,Bool.and_true,List.all_eq_true]
 intro x hx
 simp [(h x hx).2]
set_option maxHeartbeats 1000000 in
set_option maxRecDepth 100000 in
theorem jbw {C:FuncId->List Value->M Value} {S:St} {p:Int} {inv:Bool} {a:Option Addr} {n c:Nat} {x:List Int} (h:Ar S a n 1 eU x) (hr:2<=n/\n<=5) (hroot:(z60 p n).2=0) (hx:∀ y∈x,inP p y) :
 WP (ji8 C [vU p,vB inv,.slice a n c]) S λ v S'=>∃ b,v=vT [.slice (some ⟨b,0,none⟩) n n,vI 0]/\Nw S S' b (jd3 p inv x):=by
 obtain ⟨hk,-⟩:=z65 hroot
 have hl:=h.1
 have hu:∀ y∈x,inU y:=λ y hy=>jru hk (hx y hy)
 rw [ji9]
 simp only [wps]
 refine (z1c hr hroot).mono ?_
 rintro _ S1 ⟨wa,rfl,k1,hw⟩
 have hin:=jry (p:=p) (c:=c) (h.mono k1) (by omega)
 rw [jrw hk hx] at hin
 simp only [wps,hin.wp]
 generalize hY:S1++_=Y
 have hp:S1 <+: Y:=⟨_,hY⟩
 have k2:=k1.trans hp
 have har:=h.mono k2
 have hw2:=hw.mono hp
 have hW:z1g p (jd6 p inv n) 1=z1g p (jd6 p inv n) 1:=rfl
 have e2:wI (((2:Nat):Int)-2)=0:=by decide
 have e3:wI (((3:Nat):Int)-2)=1:=by decide
 have e4:wI (((4:Nat):Int)-2)=2:=by decide
 have e5:wI (((5:Nat):Int)-2)=3:=by decide
 rcases (show n=2\/n=3\/n=4\/n=5 by omega) with rfl | rfl | rfl | rfl
 ·obtain ⟨x0,x1,rfl⟩:∃ x0 x1,x=[x0,x1]:=by
   match x,hl with
   | [x0,x1],_=>exact ⟨x0,x1,rfl⟩
  refine ⟨by rw [e2]; omega,_,by rw [e2]; rfl,?_⟩
  refine WP.mono (zee (p:=p) (wa:=wa) (wn:=2) (wc:=2) (c:=c) har (hu _ (by simp)) (hu _ (by simp))) ?_
  rintro _ S3 ⟨b,rfl,hN⟩
  simp only [wps]
  exact ⟨b,rfl,by rw [zed hk]; exact hN.base k2⟩
 ·obtain ⟨x0,x1,x2,rfl⟩:∃ x0 x1 x2,x=[x0,x1,x2]:=by
   match x,hl with
   | [x0,x1,x2],_=>exact ⟨x0,x1,x2,rfl⟩
  refine ⟨by rw [e3]; omega,_,by rw [e3]; rfl,?_⟩
  refine WP.mono (zd2 (p:=p) (wa:=wa) (wn:=3) (wc:=3) (c:=c) har (hu _ (by simp)) (hu _ (by simp)) (hu _ (by simp)) hw2 (z1i p _ 1)) ?_
  rintro _ S3 ⟨b,rfl,hN⟩
  simp only [wps]
  exact ⟨b,rfl,by rw [zd1 hroot]; exact hN.base k2⟩
 ·obtain ⟨x0,x1,x2,x3,rfl⟩:∃ x0 x1 x2 x3,x=[x0,x1,x2,x3]:=by
   match x,hl with
   | [x0,x1,x2,x3],_=>exact ⟨x0,x1,x2,x3,rfl⟩
  refine ⟨by rw [e4]; omega,_,by rw [e4]; rfl,?_⟩
  refine WP.mono (jdj (p:=p) (wa:=wa) (wn:=4) (wc:=4) (c:=c) har (hu _ (by simp)) (hu _ (by simp)) (hu _ (by simp)) (hu _ (by simp)) hw2 (z1i p _ 1)) ?_
  rintro _ S3 ⟨b,rfl,hN⟩
  simp only [wps]
  exact ⟨b,rfl,by rw [jdi hroot]; exact hN.base k2⟩
 ·obtain ⟨x0,x1,x2,x3,x4,rfl⟩:∃ x0 x1 x2 x3 x4,x=[x0,x1,x2,x3,x4]:=by
   match x,hl with
   | [x0,x1,x2,x3,x4],_=>exact ⟨x0,x1,x2,x3,x4,rfl⟩
  refine ⟨by rw [e5]; omega,_,by rw [e5]; rfl,?_⟩
  refine WP.mono (jcf (p:=p) (wa:=wa) (wn:=5) (wc:=5) (c:=c) rfl har hu hw2) ?_
  rintro _ S3 ⟨b,rfl,hN⟩
  simp only [wps]
  exact ⟨b,rfl,by rw [jce hroot (hx _ (by simp))]; exact hN.base k2⟩
theorem zf2 {S:St} {p:Int} {inv:Bool} {a d:Option Addr} {n c dn e:Nat} {x f:List Int} (h:Ar S a n 1 eU x) (hf:Ar S d dn 1 eU f) (hnn:dn=n) (hr:2<=n/\n<=5) (hroot:(z60 p n).2=0) (hx:∀ y∈x,inP p y) (hfi:∀ y∈f,inP p y) :
 WP (jie [vU p,vB inv,.slice a n c,.slice d dn e]) S λ v S'=>S <+: S'/\v=vT [vU (wtV p false (jd3 p inv x) f),vI 0]:=by
 obtain ⟨hk,-⟩:=z65 hroot
 have hl:=h.1
 have hl2:=hf.1
 subst hnn
 rw [jif]
 simp only [wps]
 refine (jbw (c:=c) h hr hroot hx).mono ?_
 rintro _ S1 ⟨b,rfl,hN⟩
 have hfl:=jd5 p inv x
 have har:=hN.ar
 have hin:=jry (p:=p) (c:=e) (hf.mono hN.p) (by omega)
 rw [jrw hk hfi] at hin
 have hyu:∀ y∈jd3 p inv x,inU y:=λ y hy=>jru hk (jd4 hk y hy)
 simp only [wps,hin.wp]
 have hS:=hN.p
 have hst:∀ j,j < dn->j1x p ((List.zipWith (jxc p) (jd3 p inv x) f).take (j+1))=j1t p (j1x p ((List.zipWith (jxc p) (jd3 p inv x) f).take j)) (jxc p ((jd3 p inv x).getD j 0) (f.getD j 0)):=by
  intro j hj
  have hjz:j < (List.zipWith (jxc p) (jd3 p inv x) f).length:=by rw [List.length_zipWith]; omega
  rw [j20 p hjz,List.getElem_zipWith]
  simp [List.getD_eq_getElem?_getD,show j < (jd3 p inv x).length by omega,show j < f.length by omega]
 refine zgd (λ st S' m=>∃ j:Nat,st=[vU (j1x p ((List.zipWith (jxc p) (jd3 p inv x) f).take j)),vI j]/\m=dn-j/\j<=dn/\S'=S1) ?_ dn _ _ ⟨0,rfl,rfl,by omega,rfl⟩
 rintro st S' m ⟨j,rfl,rfl,hj,rfl⟩
 simp only [wps]
 refine ⟨λ h3=>⟨h3,?_⟩,λ h3=>?_⟩
 ·have hj':j < dn:=by omega
  obtain ⟨ya,hya,c1⟩:=har.getU (i:=j) (by omega)
  injection hya with hya;subst hya
  obtain ⟨za,rfl,c2⟩:=(hf.mono hS).getU (i:=j) (by omega)
  have g1:(jd3 p inv x)[j]'(by omega)=(jd3 p inv x).getD j 0:=by rw [List.getD_eq_getElem?_getD,List.getElem?_eq_getElem (by omega)]; rfl
  have g2:f[j]'(by omega)=f.getD j 0:=by rw [List.getD_eq_getElem?_getD,List.getElem?_eq_getElem (by omega)]; rfl
  have u1:inU ((jd3 p inv x).getD j 0):=by rw [<- g1]; exact hyu _ (List.getElem_mem _)
  have u2:inU (f.getD j 0):=by rw [<- g2]; exact jru hk (hfi _ (List.getElem_mem _))
  rw [g1] at c1
  rw [g2] at c2
  rw [j23,Nat.zero_add] at c1
  simp only [wps,c1,c2,jxn (p:=p) u1 u2,j1w (p:=p) (j21 p _) (jxh p _ _)]
  rw [wI_ (n:=(j:Int)+1) (by omega) (by omega)]
  exact ⟨h3,dn-(j+1),by omega,j+1,by rw [hst j hj']; rfl,rfl,by omega⟩
 ·rw [List.take_of_length_le (by rw [List.length_zipWith]; omega)]
  exact ⟨hS,rfl⟩
theorem zfp {S:St} {p:Int} {axes a:Option Addr} {n c xn xc:Nat} {l:List Ax} {s:Stp} {x:List Int} (hs:zam p l s=0) (h:Ar S axes n 2 eAx l) (hl:n<=8796093022208) (hx:Ar S a xn 1 eU x) (hn:(x.length:Int)=nV l) (hi:∀ y∈x,inP p y) :
 WP (joy [vU p,.slice axes n c,spV s,.slice a xn xc]) S λ v S'=>v=vI 0/\S <+: S':=by
 obtain ⟨k,d,inner,nn,m,hS⟩:=zas hs
 obtain ⟨hg,_⟩:=zan hs
 obtain ⟨hk,hal,_⟩:=jqn hg
 have hxl:=hx.1
 have hnn:=hS.nn
 have hn1:=hS.n1
 rw [joz]
 simp only [wps]
 have hp:=List.prefix_append S [j00.cells (spC s) 29 none]
 generalize hY:S++[j00.cells (spC s) 29 none]=Y at hp ⊢
 refine (zat (c:=c) (h.mono hp) hl s).use ?_
 rintro _ S1 k1 rfl
 have p1:=hp.trans k1
 simp only [wps,hs]
 refine (j9x (c:=c) (h.mono p1) hl).mono ?_
 rintro _ S2 ⟨rfl,k2,har⟩
 have p2:=p1.trans k2
 have hin:=jry (p:=p) (c:=xc) (hx.mono p2) (by omega)
 rw [jrw hk hi] at hin
 have e1:(allV (j9y l)).1=(xn:Int):=by
  have : nV l=(allV (j9y l)).1:=rfl
  omega
 simp only [wps,(j2q (c:=n) har).wp,hal,e1,hin.wp]
 exact p2
def j0w (L:Nat) (S':St) (a:Option Addr) (out:List Int):Prop:=(a=none/\out=[])\/∃ b,a=some ⟨b,0,none⟩/\L<=b/\S'[b]? = some (.cells (out.flatMap eU) 24 (some 1))
theorem j0w.ar {L:Nat} {S':St} {a:Option Addr} {out:List Int} (h:j0w L S' a out):Ar S' a out.length 1 eU out:=by
 rcases h with ⟨rfl,rfl⟩ | ⟨b,rfl,_,hb⟩
 ·exact .nil
 ·exact Ar.blk hb (λ _ _=>rfl) rfl
theorem j0w.pre {L:Nat} {S S':St} {a:Option Addr} {out:List Int} (h:j0w L S a out) (k:S <+: S'):j0w L S' a out:=h.imp id λ ⟨b,h1,h2,h3⟩=>⟨b,h1,h2,z1w k h3⟩
theorem j0w.lt {L:Nat} {S:St} {a:Option Addr} {out:List Int} (h:j0w L S a out):∀ i,a=some ⟨i,0,none⟩->L<=i/\i < S.length:=by
 intro i hi
 rcases h with ⟨e,_⟩ | ⟨b,e,e2,hb⟩
 ·rw [hi] at e;cases e
 ·rw [hi] at e;injection e with e;injection e with e;subst e;exact ⟨e2,z1y hb⟩
theorem zgk {L:Nat} {S:St} {a:Option Addr} {n:Nat} {out:List Int} {y:Int} {Q:Sl->St->Prop} (h:j0w L S a out) (hn:n=out.length) (hsz:n<=1000000) (hL:L<=S.length)
 (q:∀ b S',S.length<=b->b < S'.length->S.length<=S'.length->(∀ i,i < S.length->a≠some ⟨i,0,none⟩->S'[i]? = S[i]?)->j0w L S' (some ⟨b,0,none⟩) (out++[y])->Q ⟨some ⟨b,0,none⟩,n+1,n+1⟩ S') :
 WP (rdN (some (ad S.length 0)) 1) (S++[j00.cells [vU y] 24 none]) λ xs S1=>WP (j33 24 1 8 a n n 1 xs) S1 Q:=by
 refine z4y (jek (S:=S) (o:=j00.cells [vU y] 24 none)) rfl ?_
 have own':(a=none/\n=0/\out.flatMap eU=[])\/∃ b,a=some ⟨b,0,none⟩/\(S++[j00.cells [vU y] 24 none])[b]? = some (.cells (out.flatMap eU) 24 (some 1)):=by
  rcases h with ⟨e1,e2⟩ | ⟨b,e1,_,e3⟩
  ·exact .inl ⟨e1,by rw [hn,e2]; rfl,by rw [e2]; rfl⟩
  ·exact .inr ⟨b,e1,jeh e3⟩
 refine zft own' (by rw [jcv (e:=eU) (w:=1) (λ _=>rfl)]; omega) (by omega) (by omega) (by omega) rfl ?_
 intro S' h1 h2 h3
 simp only [List.length_append,List.length_singleton] at h1 h2 h3 ⊢
 refine q _ S' (by omega) (by omega) (by omega) (λ i hi hne=>by rw [h2 i (by omega) hne,List.getElem?_append_left hi]) (.inr ⟨_,rfl,by omega,?_⟩)
 rw [h3,List.flatMap_append]; rfl
theorem j0w.move {L:Nat} {S S':St} {a a2:Option Addr} {out:List Int} (h:j0w L S a out) (k:∀ i,i < S.length->a2≠some ⟨i,0,none⟩->S'[i]? = S[i]?) (hne:∀ i,a=some ⟨i,0,none⟩->a2≠some ⟨i,0,none⟩):j0w L S' a out:=by
 rcases h with h | ⟨b,e1,e2,e3⟩
 ·exact .inl h
 ·exact .inr ⟨b,e1,e2,by rw [k b (z1y e3) (hne b e1)]; exact e3⟩
theorem Ar.keepL {β:Type} {f:β->List Value} {m:List β} {S S':St} {p:Option Addr} {n v:Nat} (h:Ar S p n v f m) (k:∀ y,p=some y->S'[y.block]? = S[y.block]?):Ar S' p n v f m:=by
 refine ⟨h.1,λ i hi=>?_⟩
 obtain ⟨x,h1,h2⟩:=h.2 i hi
 refine ⟨x,h1,λ j u hu=>?_⟩
 have h3:=h2 j u hu
 have hblk:((x.add (i*v)).add j).block=x.block:=by
  unfold Addr.add;split <;> split <;> rfl
 unfold St.cell at h3 ⊢
 rw [hblk] at h3 ⊢
 rw [k x h1]; exact h3
structure PC (S:St) (p:Int) (inv:Bool) (s:Stp) (tab x:List Int) (t xb pb sb ib bb q:Nat):Prop where
 ft:∃ a n c,S[t]? = some (.cells [.slice a n c] 22 none)/\Ar S a n 1 eU tab/\∀ y,a=some y->y.block < S.length/\y.block≠q
 fx:∃ a n c,S[xb]? = some (.cells [.slice a n c] 22 none)/\Ar S a n 1 eU x/\∀ y,a=some y->y.block < S.length/\y.block≠q
 fp:S[pb]? = some (.cells [vU p] 24 none)
 fs:S[sb]? = some (.cells (spC s) 29 none)
 fi:S[ib]? = some (.cells [vB inv] 4 none)
 fb:S[bb]? = some (.cells [vI 0] 37 none)
 ne:t≠q/\xb≠q/\pb≠q/\sb≠q/\ib≠q/\bb≠q
theorem PC.kp {S S':St} {p:Int} {inv:Bool} {s:Stp} {tab x:List Int} {t xb pb sb ib bb q:Nat} (h:PC S p inv s tab x t xb pb sb ib bb q) (k:Kp [q] S S'):PC S' p inv s tab x t xb pb sb ib bb q:=by
 obtain ⟨a,n,c,h1,h2,h3⟩:=h.ft
 obtain ⟨a',n',c',h1',h2',h3'⟩:=h.fx
 obtain ⟨n1,n2,n3,n4,n5,n6⟩:=h.ne
 have hl:=k.len
 refine ⟨⟨a,n,c,k.get h1 (by simpa using n1),h2.keepL λ y hy=>k.keep _ (h3 y hy).1 (by simpa using (h3 y hy).2),λ y hy=>⟨Nat.lt_of_lt_of_le (h3 y hy).1 hl,(h3 y hy).2⟩⟩,⟨a',n',c',k.get h1' (by simpa using n2),h2'.keepL λ y hy=>k.keep _ (h3' y hy).1 (by simpa using (h3' y hy).2),λ y hy=>⟨Nat.lt_of_lt_of_le (h3' y hy).1 hl,(h3' y hy).2⟩⟩,k.get h.fp (by simpa using n3),k.get h.fs (by simpa using n4),k.get h.fi (by simpa using n5),k.get h.fb (by simpa using n6),h.ne⟩
theorem PC.pre {S S':St} {p:Int} {inv:Bool} {s:Stp} {tab x:List Int} {t xb pb sb ib bb q:Nat} (h:PC S p inv s tab x t xb pb sb ib bb q) (k:S <+: S'):PC S' p inv s tab x t xb pb sb ib bb q:=h.kp (.of k)
def Df (a b:Option Addr):Prop:=∀ i,a=some ⟨i,0,none⟩->b≠some ⟨i,0,none⟩
theorem je8 {p:Int} (hk:jt3 p=true) {l:List Int} (h:∀ y∈l,inP p y) (i:Nat):inP p (l.getD i 0):=by
 rw [List.getD_eq_getElem?_getD]
 cases hc:l[i]? with
 | none => exact jrv hk
 | some v => exact h v (List.mem_of_getElem? hc)
theorem z3a {Y S1 S2:St} {a:Option Addr} (h:Y <+: S1) (k:∀ i,i < S1.length->a≠some ⟨i,0,none⟩->S2[i]? = S1[i]?) (ha:∀ i,a=some ⟨i,0,none⟩->Y.length<=i/\i < S1.length):Y <+: S2:=by
 rw [List.prefix_iff_getElem?]
 intro i hi
 have:=h.length_le
 rw [k i (by omega) (λ e=>by have:=ha i e;omega),z1u h hi,List.getElem?_eq_getElem hi]
theorem jxr {S:St} {b:Nat} {l:List Nat} (h:S[b]? = some (jxp l)) {j:Nat} (hj:j < l.length):S.cell ⟨b,j,none⟩=some (vN l[j]):=by
 rw [j6u h]; simp [hj]
theorem je7 {l:List Int} {i:Nat} (h:i < l.length):l[i]=l.getD i 0:=by
 rw [List.getD_eq_getElem?_getD,List.getElem?_eq_getElem h]; rfl
set_option maxHeartbeats 4000000 in
theorem z32 {S:St} {p:Int} {inv:Bool} {s:Stp} {tab x:List Int} {t xb pb sb ib bb q:Nat} (h:PC S p inv s tab x t xb pb sb ib bb q) (hk:jt3 p=true) (ht:∀ y∈tab,inP p y) (hx:∀ y∈x,inP p y) {g:GrN} (hg:g.ok s.tw) {b0 b1 b2:Nat} (h0:S[b0]? = some (jxp g.i)) (h1:S[b1]? = some (jxp g.f)) (h2:S[b2]? = some (jxp g.o)) (nq:b0≠q/\b1≠q/\b2≠q)
 (hgi:∀ i∈g.i,i < x.length) (hgf:∀ i∈g.f,i < tab.length) (hgo:∀ i∈g.o,i < 100000) (hr:s.tw=false->2<=g.i.length/\g.i.length<=5/\(z60 p g.i.length).2=0) {s0 s1:Int} (hs0:inU s0) (hs1:inU s1) (hq:S[q]? = some (.cells [vU s0,vU s1] 40 none)) :
 WP (jog [grV b0 b1 b2 g,.pointer (some ⟨t,0,none⟩),.pointer (some ⟨xb,0,none⟩),.pointer (some ⟨pb,0,none⟩),.pointer (some ⟨sb,0,none⟩),.pointer (some ⟨ib,0,none⟩),.pointer (some ⟨bb,0,none⟩),.pointer (some ⟨q,0,none⟩)]) S λ v S'=>v=vT []/\Kp [q] S S' /\
  S'[q]? = some (.cells [vU (z2a p inv s.tw tab x (s0,s1) g).1,vU (z2a p inv s.tw tab x (s0,s1) g).2] 40 none):=by
 have hn5:g.i.length<=5:=by
  cases hw:s.tw with
  | true=>have:=hg.t hw;omega
  | false=>exact (hr hw).2.1
 have hn1:1<=g.i.length:=by
  cases hw:s.tw with
  | true=>have:=hg.t hw;omega
  | false=>have:=(hr hw).1;omega
 have hgfl:=hg.f
 have hgol:=hg.o
 rw [joh]
 simp only [wps]
 have hp:=List.prefix_append S [j00.cells [.slice (some ⟨b0,0,none⟩) g.i.length g.i.length,.slice (some ⟨b1,0,none⟩) g.f.length g.f.length,.slice (some ⟨b2,0,none⟩) g.o.length g.o.length] 128 none]
 have z:=jek (S:=S) (o:=j00.cells [.slice (some ⟨b0,0,none⟩) g.i.length g.i.length,.slice (some ⟨b1,0,none⟩) g.f.length g.f.length,.slice (some ⟨b2,0,none⟩) g.o.length g.o.length] 128 none)
 generalize hY:S++[j00.cells [.slice (some ⟨b0,0,none⟩) g.i.length g.i.length,.slice (some ⟨b1,0,none⟩) g.f.length g.f.length,.slice (some ⟨b2,0,none⟩) g.o.length g.o.length] 128 none]=Y at hp z ⊢
 have hYq:q < Y.length:=by have:=z1y hq;have:=hp.length_le;omega
 have hPY:=h.pre hp
 generalize hW:g.i.map (λ i=>x.getD i 0)=W
 generalize hF:g.f.map (λ i=>tab.getD i 0)=F
 generalize hP:List.zipWith (λ f (o:Nat)=>jxc p f ((o:Int)+1)) F g.o=Pl
 have lW:W.length=g.i.length:=by rw [<- hW,List.length_map]
 have lF:F.length=g.i.length:=by rw [<- hF,List.length_map,hgfl]
 have lP:Pl.length=g.i.length:=by rw [<- hP,List.length_zipWith,lF,hgol]; omega
 refine zgd (λ st S' m=>∃ (j:Nat) (aw ao ap:Option Addr),st=[.slice aw j j,.slice ao j j,.slice ap j j,vN j]/\m=g.i.length-j/\j<=g.i.length/\Y <+: S'/\j0w Y.length S' aw (W.take j)/\j0w Y.length S' ao (F.take j)/\j0w Y.length S' ap (Pl.take j)/\Df aw ao/\Df aw ap/\Df ao ap) ?_ g.i.length _ _ ?_
 rotate_left
 ·refine ⟨0,none,none,none,rfl,rfl,Nat.zero_le _,List.prefix_rfl,.inl ⟨rfl,rfl⟩,.inl ⟨rfl,rfl⟩,.inl ⟨rfl,rfl⟩,?_,?_,?_⟩
  all_goals intro i hi;cases hi
 rintro st S1 m ⟨j,aw,ao,ap,rfl,rfl,hj,k1,oW,oF,oP,d1,d2,d3⟩
 simp only [wps]
 refine ⟨λ h3=>⟨h3,?_⟩,λ h3=>?_⟩
 ·have hj':j < g.i.length:=by omega
  have hP1:=hPY.pre k1
  obtain ⟨ta,tn,tc,t1,t2,t3⟩:=hP1.ft
  obtain ⟨xa,xn,xc,x1,x2,x3⟩:=hP1.fx
  have hkS:=hp.trans k1
  have jf:j < g.f.length:=by omega
  have jo:j < g.o.length:=by omega
  have bi:=hgi _ (List.getElem_mem hj')
  have bf:=hgf _ (List.getElem_mem jf)
  have bo:=hgo _ (List.getElem_mem jo)
  have i0:=jxr (z1w hkS h0) hj'
  have f0:=jxr (z1w hkS h1) jf
  obtain ⟨tA,rfl,tc0⟩:=t2.getU (i:=g.f[j]) bf
  obtain ⟨xA,rfl,xc0⟩:=x2.getU (i:=g.i[j]) bi
  rw [je7 bf] at tc0
  rw [je7 bi] at xc0
  have tl:=t2.1
  have xl:=x2.1
  have z1:=z1w k1 z
  have hft:inP p (tab.getD g.f[j] 0):=je8 hk ht _
  simp only [wps,i0,j6u t1,j6u z1,f0,gcz,gcs,Int.toNat_natCast,tc0,j6u x1,xc0]
  refine ⟨by omega,by omega,by omega,?_⟩
  have hWj:W.take (j+1)=W.take j++[x.getD g.i[j] 0]:=by rw [zcr (show j < W.length by omega)]; congr 2;simp [<- hW]
  have hFj:F.take (j+1)=F.take j++[tab.getD g.f[j] 0]:=by rw [zcr (show j < F.length by omega)]; congr 2;simp [<- hF]
  have hPj:Pl.take (j+1)=Pl.take j++[jxc p (tab.getD g.f[j] 0) ((g.o[j]:Int)+1)]:=by rw [zcr (show j < Pl.length by omega)]; congr 2;simp [<- hP,<- hF]
  have hY1:=k1.length_le
  refine zgk (n:=j) oW (by simp;omega) (by omega) hY1 ?_
  intro bw S2 w1 w2 w3 w4 oW2
  have k2:=z3a k1 w4 oW.lt
  have oF2:=oF.move w4 (λ i hi e=>d1 i e hi)
  have oP2:=oP.move w4 (λ i hi e=>d2 i e hi)
  simp only [wps]
  refine zgk (n:=j) oF2 (by simp;omega) (by omega) (by omega) ?_
  intro bf' S3 v1 v2 v3 v4 oF3
  have k3:=z3a k2 v4 oF2.lt
  have oW3:=oW2.move v4 (λ i hi e=>by have:=oF2.lt i e;have:=oF.lt i e;injection hi with hi;injection hi with hi;omega)
  have oP3:=oP2.move v4 (λ i hi e=>d3 i e hi)
  have hkS3:=hp.trans k3
  have z3:=z1w k3 z
  have hP3:=hPY.pre k3
  have o0:=jxr (z1w hkS3 h2) jo
  have hoU:inU ((g.o[j]:Int)+1):=⟨by omega,by omega⟩
  have eo:wU (wU (g.o[j]:Int)+1)=(g.o[j]:Int)+1:=by rw [wU_ (n:=(g.o[j]:Int)) (by omega) (by omega),wU_ (by omega) (by omega)]
  simp only [wps,j6u hP3.fp,j6u z3,o0,gcz,gcs,eo,jxn (p:=p) (jru hk hft) hoU]
  refine ⟨by omega,?_⟩
  refine zgk (n:=j) oP3 (by simp;omega) (by omega) (by omega) ?_
  intro bp S4 u1 u2 u3 u4 oP4
  have k4:=z3a k3 u4 oP3.lt
  have oW4:=oW3.move u4 (λ i hi e=>by have:=oP3.lt i e;have:=oP.lt i e;injection hi with hi;injection hi with hi;omega)
  have oF4:=oF3.move u4 (λ i hi e=>by have:=oP3.lt i e;have:=oP2.lt i e;injection hi with hi;injection hi with hi;omega)
  simp only [wps]
  rw [wI_ (n:=(j:Int)+1) (by omega) (by omega)]
  refine ⟨g.i.length-(j+1),by omega,j+1,_,_,_,rfl,rfl,by omega,k4,by rw [hWj]; exact oW4,by rw [hFj]; exact oF4,by rw [hPj]; exact oP4,?_,?_,?_⟩
  ·intro i hi e;injection hi with hi;injection hi with hi;injection e with e;injection e with e;omega
  ·intro i hi e;injection hi with hi;injection hi with hi;injection e with e;injection e with e;omega
  ·intro i hi e;injection hi with hi;injection hi with hi;injection e with e;injection e with e;omega
 ·obtain rfl:j=g.i.length:=by omega
  rw [List.take_of_length_le (by omega)] at oW oF oP
  have hkS:=hp.trans k1
  have hP1:=hPY.pre k1
  have hq1:=z1w hkS hq
  have aW:=oW.ar
  have aF:=oF.ar
  have aP:=oP.ar
  have z5:=jek (S:=S1) (o:=j00.cells [.slice ao g.i.length g.i.length,.slice ap g.i.length g.i.length] 22 none)
  have hp5:=List.prefix_append S1 [j00.cells [.slice ao g.i.length g.i.length,.slice ap g.i.length g.i.length] 22 none]
  generalize hX:S1++[j00.cells [.slice ao g.i.length g.i.length,.slice ap g.i.length g.i.length] 22 none]=X at z5 hp5 ⊢
  have hWin:∀ y∈W,inP p y:=by
   intro y hy;rw [<- hW] at hy
   obtain ⟨i,_,rfl⟩:=List.mem_map.1 hy
   exact je8 hk hx i
  have hFin:∀ y∈F,inP p y:=by
   intro y hy;rw [<- hF] at hy
   obtain ⟨i,_,rfl⟩:=List.mem_map.1 hy
   exact je8 hk ht i
  have hPin:∀ y∈Pl,inP p y:=by
   intro y hy;rw [<- hP] at hy
   obtain ⟨i,hi,rfl⟩:=List.mem_iff_getElem.1 hy
   rw [List.getElem_zipWith]; exact jrq hk _ _
  have e1:(z2a p inv s.tw tab x (s0,s1) g).1=j1t p s0 (wtV p s.tw (gyV p inv s.tw W) F):=by rw [<- hW,<- hF]; rfl
  have e2:(z2a p inv s.tw tab x (s0,s1) g).2=j1t p s1 (wtV p s.tw (gyV p inv s.tw W) Pl):=by rw [<- hP,<- hW,<- hF]; rfl
  rw [e1,e2]
  generalize hr1:j1t p s0 (wtV p s.tw (gyV p inv s.tw W) F)=r1
  generalize hr2:j1t p s1 (wtV p s.tw (gyV p inv s.tw W) Pl)=r2
  have hXS:S <+: X:=hkS.trans hp5
  have hqX:=z1w hp5 hq1
  have hPX:=hP1.pre hp5
  have hX1:=hp5.length_le
  have oWX:=oW.pre hp5
  have oFX:=oF.pre hp5
  have oPX:=oP.pre hp5
  have hYl1:=k1.length_le
  refine zgd (λ st S' m=>∃ k:Nat,st=[vN k]/\m=2-k/\k<=2/\Kp [q] X S'/\S'[q]? = some (.cells [vU (if 1<=k then r1 else s0),vU (if 2<=k then r2 else s1)] 40 none)) ?_ 2 _ _ ⟨0,rfl,rfl,by omega,.refl,by simpa using hqX⟩
  rintro st S' m ⟨k,rfl,rfl,hk2,kX,hqk⟩
  simp only [wps]
  refine ⟨λ h4=>?_,λ h4=>?_⟩
  rotate_left
  ·obtain rfl:k=2:=by omega
   exact ⟨(Kp.of hXS).trans kX,by simpa using hqk⟩
  have hk2':k < 2:=by omega
  obtain ⟨ab,B,cur,hBl,hBin,hoB,hcell,hcur,hset⟩:∃ (ab:Option Addr) (B:List Int) (cur:Int),B.length=g.i.length/\(∀ y∈B,inP p y)/\j0w Y.length X ab B /\
   ([Value.slice ao g.i.length g.i.length,.slice ap g.i.length g.i.length])[k]? = some (.slice ab g.i.length g.i.length)/\(([vU (if 1<=k then r1 else s0),vU (if 2<=k then r2 else s1)])[k]? = some (vU cur)/\inU cur) /\
   splice [vU (if 1<=k then r1 else s0),vU (if 2<=k then r2 else s1)] k [vU (j1t p cur (wtV p s.tw (gyV p inv s.tw W) B))]=[vU (if 1<=k+1 then r1 else s0),vU (if 2<=k+1 then r2 else s1)]:=by
   rcases (show k=0\/k=1 by omega) with rfl | rfl
   ·exact ⟨ao,F,s0,lF,hFin,oFX,rfl,⟨rfl,hs0⟩,by rw [hr1]; rfl⟩
   ·exact ⟨ap,Pl,s1,lP,hPin,oPX,rfl,⟨rfl,hs1⟩,by rw [hr2]; rfl⟩
  have zX:=kX.get z5 (by simp;omega)
  have hPk:=hPX.kp kX
  have hnW:∀ (a:Option Addr) (l:List Int),j0w Y.length X a l->Ar S' a l.length 1 eU l:=λ a l o=>o.ar.keepL λ y hy=>by
   rcases o with ⟨e,_⟩ | ⟨b',e,e2,e3⟩
   ·rw [hy] at e;cases e
   ·rw [hy] at e;injection e with e;subst e;exact kX.keep _ (z1y e3) (by simp;omega)
  have aWk:=hnW _ _ oWX
  have aBk:=hnW _ _ hoB
  obtain ⟨wA,rfl,w0⟩:=aWk.getU (i:=0) (by omega)
  obtain ⟨bA,rfl,b0'⟩:=aBk.getU (i:=0) (by omega)
  rw [j25,je7 (by omega)] at w0 b0'
  have uw:=jru hk (je8 hk hWin 0)
  have ub:=jru hk (je8 hk hBin 0)
  have hqlt:=z1y hqk
  simp only [wps,j6u zX,hcell,j6u hPk.fp,gcz,gcs,w0,b0',jxn (p:=p) uw ub,j6u hPk.fs,Int.toNat_natCast]
  rw [wI_ (n:=(k:Int)+1) (by omega) (by omega)]
  refine ⟨by omega,⟨by decide,by omega⟩,⟨by decide,by omega⟩,?_⟩
  cases hw:s.tw with
  | false=>
    obtain ⟨r1',r2',r3⟩:=hr hw
    simp only [wps,Bool.not_false,j6u hPk.fp,j6u hPk.fi,List.getElem?_cons_zero]
    rw [<- lW] at r3
    refine (zf2 (c:=g.i.length) (e:=g.i.length) (n:=g.i.length) (dn:=g.i.length) (by rw [<- lW]; exact aWk) (by rw [<- hBl]; exact aBk) rfl ⟨r1',r2'⟩ (by rw [<- lW]; exact r3) hWin hBin).mono ?_
    rintro _ S2 ⟨k2,rfl⟩
    have hP2:=hPk.pre k2
    have hq2:=z1w k2 hqk
    have hlt2:=z1y hq2
    have uwt:inU (wtV p false (jd3 p inv W) B):=j21 p _
    have hset2:=hset
    rw [hw] at hset2
    have hgy:gyV p inv false W=jd3 p inv W:=by simp [gyV]
    rw [hgy] at hset2
    simp only [wps,j6u hP2.fp,j6u hq2,List.getElem?_cons_zero,hcur.1,j1w (p:=p) hcur.2 uwt,hq2,hset2]
    refine ⟨by omega,by omega,by simp;omega,2-(k+1),by omega,k+1,rfl,rfl,by omega,?_,by rw [List.getElem?_set_self hlt2]⟩
    exact (kX.more k2).trans ⟨by simp,λ i hi hn=>by rw [List.getElem?_set_ne]; rintro rfl;simp at hn⟩
  | true=>
    have hset2:=hset
    rw [hw] at hset2
    have hgy:wtV p true (gyV p inv true W) B=jxc p (W.getD 0 0) (B.getD 0 0):=by simp [gyV,wtV]
    rw [hgy] at hset2
    have um:inU (jxc p (W.getD 0 0) (B.getD 0 0)):=jxh p _ _
    simp only [wps,Bool.not_true,j6u hPk.fp,List.getElem?_cons_zero,j6u hqk,hcur.1,j1w (p:=p) hcur.2 um,hqk,hset2]
    refine ⟨by omega,by omega,by simp;omega,2-(k+1),by omega,k+1,rfl,rfl,by omega,?_,by rw [List.getElem?_set_self hqlt]⟩
    exact kX.trans ⟨by simp,λ i hi hn=>by rw [List.getElem?_set_ne]; rintro rfl;simp at hn⟩
set_option maxHeartbeats 2000000 in
set_option maxRecDepth 20000 in
theorem z2d {S:St} {p:Int} {axes a:Option Addr} {n c xn xc:Nat} {l:List Ax} {inv:Bool} {s:Stp} {x:List Int} (hs:zam p l s=0) (h:Ar S axes n 2 eAx l) (hl:n<=8796093022208) (hx:Ar S a xn 1 eU x) (hn:(x.length:Int)=nV l) (hi:∀ y∈x,inP p y) :
 WP (jod [vU p,.slice axes n c,vB inv,spV s,.slice a xn xc]) S λ v S'=>v=vT [vA [vU (z26 p inv s.tw (jqs l s) (zcd p l inv s) x).1,vU (z26 p inv s.tw (jqs l s) (zcd p l inv s) x).2],vI 0]/\S <+: S':=by
 have hk:=zaq hs
 obtain ⟨k,d,inner,nn,m,hS⟩:=zas hs
 obtain ⟨gf1,gf2,gf3,gf4,gf5⟩:=jqt hS
 have hnn:=hS.nn
 have hn1:=hS.n1
 have hxl:=hx.1
 rw [joe]
 simp only [wps,List.append_assoc,List.cons_append,List.nil_append,List.length_append,List.length_cons,List.length_nil,Nat.zero_add,Nat.reduceAdd,Nat.add_assoc]
 generalize hY:S++[j00.cells [vU p] 24 none,j00.cells [vB inv] 4 none,j00.cells (spC s) 29 none,j00.cells [.slice a xn xc] 22 none,j00.cells [vU 0,vU 0] 40 none]=Y
 have hp:S <+: Y:=⟨_,hY⟩
 have y0:Y[S.length]? = some (j00.cells [vU p] 24 none):=by rw [<- hY]; exact gA0
 have y1:Y[S.length+1]? = some (j00.cells [vB inv] 4 none):=by rw [<- hY]; exact gA
 have y2:Y[S.length+2]? = some (j00.cells (spC s) 29 none):=by rw [<- hY]; exact gA
 have y3:Y[S.length+3]? = some (j00.cells [.slice a xn xc] 22 none):=by rw [<- hY]; exact gA
 have y4:Y[S.length+4]? = some (j00.cells [vU 0,vU 0] 40 none):=by rw [<- hY]; exact gA
 have hYl:Y.length=S.length+5:=by rw [<- hY]; simp
 simp only [wps,j6u y0,j6u y1,j6u y2,j6u y3,gcz,gcs]
 refine (zfp (c:=c) (xc:=xc) hs (h.mono hp) hl (hx.mono hp) hn hi).mono ?_
 rintro _ S1 ⟨rfl,k1⟩
 have p1:=hp.trans k1
 simp only [wps,j6u (z1w k1 y0),j6u (z1w k1 y1),j6u (z1w k1 y2),gcz,gcs]
 refine (zcl (c:=c) (h.mono p1) hl inv s).use ?_
 rintro _ S2 k2 ⟨tb,tk,rfl,htab⟩
 have p2:=p1.trans k2
 have k12:=k1.trans k2
 rw [show zck p l inv s (zcd p l inv s)=zcd p l inv s by unfold zck;rw [if_pos hs]] at htab ⊢
 have htl:=zch (p:=p) (inv:=inv) hS
 simp only [wps,hs,List.append_assoc,List.cons_append,List.nil_append,List.length_append,List.length_cons,List.length_nil,Nat.zero_add,Nat.reduceAdd,sA0,sA1,sA2]
 generalize hZ:S2++[j00.cells [Value.slice tb (zcd p l inv s).length tk] 22 none,j00.cells [vU 0,vU 0] 40 none,j00.cells [vI 0] 37 none]=Z
 have pz:S2 <+: Z:=⟨_,hZ⟩
 have z0:Z[S2.length]? = some (j00.cells [Value.slice tb (zcd p l inv s).length tk] 22 none):=by rw [<- hZ]; exact gA0
 have z1:Z[S2.length+1]? = some (j00.cells [vU 0,vU 0] 40 none):=by rw [<- hZ]; exact gA
 have z2:Z[S2.length+2]? = some (j00.cells [vI 0] 37 none):=by rw [<- hZ]; exact gA
 have kz:=k12.trans pz
 have lz:=kz.length_le
 have l12:=k12.length_le
 have w0:=z1w kz y0
 have w1:=z1w kz y1
 have w2:=z1w kz y2
 have w3:=z1w kz y3
 have w4:=z1w kz y4
 have htne:zcd p l inv s≠[]:=by
  intro e
  rw [e] at htl
  have hd:=hS.d1
  rcases hS.st with ⟨ht,_⟩ | ⟨ht,R,L,M,hst,r1,r2,l1,m1,_⟩
  ·rw [if_pos ht] at htl;simp at htl;omega
  ·rw [if_neg (by rw [ht]; simp),hst] at htl
   simp only [Int.toNat_natCast,List.length_nil] at htl
   have:=Nat.mul_pos (show 0 < M by omega) (show 0 < R by omega)
   omega
 have hxne:x≠[]:=by intro e;rw [e] at hn;simp at hn;omega
 have hPC:PC Z p inv s (zcd p l inv s) x S2.length (S.length+3) S.length (S.length+2) (S.length+1) (S2.length+2) (S2.length+1):=by
  refine ⟨⟨tb,_,tk,z0,htab.mono pz,λ y hy=>?_⟩,⟨a,xn,xc,w3,hx.mono (p2.trans pz),λ y hy=>?_⟩,w0,w2,w1,z2,⟨by omega,by omega,by omega,by omega,by omega,by omega⟩⟩
  ·have:=htab.low (λ x=>⟨_,rfl⟩) htne y hy;have:=pz.length_le;exact ⟨by omega,by omega⟩
  ·have:=hx.low (λ x=>⟨_,rfl⟩) hxne y hy;exact ⟨by omega,by omega⟩
 have hT:j1h (jvv [((192:Nat),jog)] noC) (.func (.func 192) (ar []) (ar [.pointer (some (ad S2.length 0)),.pointer (some (ad (S.length+3) 0)),.pointer (some (ad S.length 0)),.pointer (some (ad (S.length+2) 0)),.pointer (some (ad (S.length+1) 0)),.pointer (some (ad (S2.length+2) 0)),.pointer (some (ad (S2.length+1) 0))])) (jqs l s)
  (λ pre T S'=>T=[S2.length+1]/\PC S' p inv s (zcd p l inv s) x S2.length (S.length+3) S.length (S.length+2) (S.length+1) (S2.length+2) (S2.length+1)/\S'[S2.length+1]? = some (.cells [vU (z26 p inv s.tw pre (zcd p l inv s) x).1,vU (z26 p inv s.tw pre (zcd p l inv s) x).2] 40 none)) Z.length:=by
  refine ⟨λ pre T S' ⟨h1,h2,h3⟩ i hi=>?_,λ pre T S' S'' ⟨h1,h2,h3⟩ k=>⟨h1,h2.pre k,z1w k h3⟩,?_⟩
  ·rw [h1,List.mem_singleton] at hi;rw [hi]; exact z1y h3
  ·rintro pre g T S4 b0 b1 b2 ⟨rfl,h2,h3⟩ hg hpl i0 i1 i2 n0 n1 n2 l0 l1 l2
   have hx':∀ v,j6k (eC (jvv [((192:Nat),jog)] noC)) (.func (.func 192) (ar []) (ar [.pointer (some (ad S2.length 0)),.pointer (some (ad (S.length+3) 0)),.pointer (some (ad S.length 0)),.pointer (some (ad (S.length+2) 0)),.pointer (some (ad (S.length+1) 0)),.pointer (some (ad (S2.length+2) 0)),.pointer (some (ad (S2.length+1) 0))])) [v]=jog [v,.pointer (some (ad S2.length 0)),.pointer (some (ad (S.length+3) 0)),.pointer (some (ad S.length 0)),.pointer (some (ad (S.length+2) 0)),.pointer (some (ad (S.length+1) 0)),.pointer (some (ad (S2.length+2) 0)),.pointer (some (ad (S2.length+1) 0))]:=λ _=>rfl
   rw [hx']
   obtain ⟨u1,u2⟩:=z29 (inv:=inv) (tw:=s.tw) (tab:=zcd p l inv s) (x:=x) hk pre (0,0) ⟨jrv hk,jrv hk⟩
   refine (z32 h2 hk (zcf hk) hi (gf1 g hg) i0 i1 i2 ⟨by simpa using n0,by simpa using n1,by simpa using n2⟩ ?_ ?_ ?_ (jqr hS hs hg) (jru hk u1) (jru hk u2) h3).mono ?_
   ·intro i hi
    have:=List.mem_range.1 (gf2.mem_iff.1 (List.mem_flatMap.2 ⟨g,hg,hi⟩))
    omega
   ·intro i hi
    rw [htl]; exact gf4 g hg i hi
   ·intro i hi
    have:=List.mem_range.1 (gf3.mem_iff.1 (List.mem_flatMap.2 ⟨g,hg,hi⟩))
    omega
   ·rintro _ S5 ⟨rfl,k5,q5⟩
    refine ⟨rfl,[S2.length+1],⟨k5,λ i hi=>.inl hi⟩,rfl,h2.kp k5,?_⟩
    rw [z27]; exact q5
 simp only [wps,j6u w2,gcz,gcs]
 refine (jan (c:=c) hS (h.mono (p2.trans pz)) hT ⟨rfl,hPC,by simpa [z26] using z1⟩).mono ?_
 rintro _ S5 ⟨rfl,T,hm,rfl,hPC5,hq5⟩
 have hS5:S2 <+: S5:=hm.low pz (λ i hi=>by rw [List.mem_singleton] at hi;omega)
 have v4:=z1w (k12.trans hS5) y4
 have hl5:=z1y v4
 simp only [wps,j6u hPC5.fb,j6u hq5,gcz,gcs,v4]
 have v5:(List.set S5 (S.length+4) (.cells [vU (z26 p inv s.tw (jqs l s) (zcd p l inv s) x).1,vU (z26 p inv s.tw (jqs l s) (zcd p l inv s) x).2] 40 none))[S.length+4]? = some (.cells [vU (z26 p inv s.tw (jqs l s) (zcd p l inv s) x).1,vU (z26 p inv s.tw (jqs l s) (zcd p l inv s) x).2] 40 none):=List.getElem?_set_self hl5
 simp only [wps,j6u v5,gcz,gcs]
 exact z24 (p2.trans hS5) (by omega)
theorem z55 {m:Mm} {l:List Int} {j:Nat} (h:j < l.length):m.rds (l.take (j+1))=((m.rds (l.take j)).1++[((m.rds (l.take j)).2.rd l[j]).1],((m.rds (l.take j)).2.rd l[j]).2):=by
 rw [zcr h,Mm.rds_app]; rfl
theorem zh7 {m:Mm} {l:List (Int×Int)} {j:Nat} (h:j < l.length):m.wrs (l.take (j+1))=(m.wrs (l.take j)).wr l[j].1 l[j].2:=by
 rw [zcr h,Mm.wrs_app]; rfl
set_option maxHeartbeats 1000000 in
theorem jvt {C:FuncId->List Value->M Value} (hC:∀ a,C (129:Nat) a=jjq a) {S:St} {b:Nat} {m:Mm} {T:List Nat} (h:MS S b m T) {ib:Nat} {at_:List Nat} {cc:Nat} (ha:S[ib]? = some (jxp at_)) (hib:ib∉T) {f:Int} (hf:0<=f) (hin:∀ i∈at_,f+i < m.W.length) (ht:0<=m.t/\m.t+at_.length < 4611686018427387904) (hn:at_.length<=100000) :
 WP (jkn C [.func (.func 129) (ar [.pointer (some ⟨b,0,none⟩)]) (ar []),vI f,.slice (some ⟨ib,0,none⟩) at_.length cc]) S λ v S'=>v=vT [.slice (some ⟨S.length,0,none⟩) at_.length at_.length,vI 0]/\Kp T S S'/\MS S' b (m.rds (at_.map λ i:Nat=>f+(i:Int))).2 T /\
  S'[S.length]? = some (.cells ((m.rds (at_.map λ i:Nat=>f+(i:Int))).1.flatMap eU) 24 none):=by
 rw [jko]
 simp only [wps,zhy,Int.toNat_natCast]
 refine ⟨⟨by omega,by omega,by omega,rfl⟩,?_⟩
 generalize hA:(at_.map λ i:Nat=>f+(i:Int))=A
 have lA:A.length=at_.length:=by rw [<- hA,List.length_map]
 have hw:=h.w
 have hTlt:=h.lt
 refine zgd (λ st S' k=>∃ j:Nat,st=[vN j]/\k=at_.length-j/\j<=at_.length/\Kp T S S'/\MS S' b (m.rds (A.take j)).2 T/\S'[S.length]? = some (.cells ((m.rds (A.take j)).1.map (.int .u64)++List.replicate (at_.length-j) (vU 0)) 24 none)) ?_ at_.length _ _ ⟨0,rfl,rfl,by omega,Kp.of (List.prefix_append _ _),h.pre (List.prefix_append _ _),by rw [jek]; simp [Mm.rds]⟩
 rintro st S1 k ⟨j,rfl,rfl,hj,k1,hM,hb⟩
 simp only [wps]
 obtain ⟨g1,g2,g3,g4⟩:=Mm.rds_len (A.take j) m
 refine ⟨λ h3=>⟨h3,?_⟩,λ h3=>?_⟩
 ·have hj':j < at_.length:=by omega
  have hjA:j < A.length:=by omega
  have eA:A[j]=f+(at_[j]:Int):=by simp [<- hA]
  have hx:=hin _ (List.getElem_mem hj')
  have c1:=jxr (k1.get ha hib) hj'
  have hb0:=z1y hb
  have hl1:(m.rds (A.take j)).1.length=j:=by rw [g2]; simp;omega
  have lT:S.length∉T:=λ hx=>by have:=hTlt _ hx;omega
  simp only [wps,c1,hC]
  rw [wI_ (n:=f+(at_[j]:Int)) (by omega) (by omega),wI_ (n:=(j:Int)+1) (by omega) (by omega),<- eA]
  refine (jvs hM (by rw [g1]; omega) (by rw [g3]; simp;omega)).mono ?_
  rintro _ S2 ⟨rfl,k2,hM2⟩
  have hb2:=k2.get hb lT
  have hb2l:=z1y hb2
  have e:=z55 (m:=m) hjA
  simp only [wps,hb2]
  refine ⟨by omega,by simp;omega,at_.length-(j+1),by omega,j+1,rfl,rfl,by omega,?_,?_,?_⟩
  ·have k12:=k1.trans k2
   exact ⟨by rw [List.length_set]; exact k12.len,λ i hi hn=>by rw [List.getElem?_set_ne (by omega),k12.keep i hi hn]⟩
  ·rw [e]; exact hM2.kp (M:=[S.length]) ⟨by simp,λ i hi hn=>by rw [List.getElem?_set_ne]; rintro rfl;simp at hn⟩ (λ i hi=>by have:=hTlt i hi;simp;omega)
  ·rw [List.getElem?_set_self hb2l,e,z9v (by simp;omega),List.set_append_right _ _ (by simp;omega)]
   simp only [List.length_map,hl1,Nat.sub_self]
   rw [show at_.length-j=(at_.length-(j+1))+1 by omega,List.replicate_succ,List.set_cons_zero,List.map_append]
   simp
 ·obtain rfl:j=at_.length:=by omega
  rw [List.take_of_length_le (by omega)] at hM hb
  refine ⟨k1,hM,?_⟩
  rw [hb,Nat.sub_self]
  simp only [List.replicate_zero,List.append_nil]
  rw [List.map_eq_flatMap]; rfl
set_option maxHeartbeats 1000000 in
theorem zb7 {S:St} {b:Nat} {m:Mm} {T:List Nat} (h:MS S b m T) {ib lb:Nat} {at_:List Nat} {ws:List Int} {cc lc:Nat} {g:Option Nat} {t:TypeId} (ha:S[ib]? = some (jxp at_)) (hib:ib∉T) (hl:S[lb]? = some (.cells (ws.flatMap eU) t g)) (hlb:lb∉T) (hlen:ws.length=at_.length) (hws:∀ y∈ws,Go.Proofs.YtpecnaacgkgjmaaGreatDoor.u64r y) {f:Int} (hf:0<=f) (hin:∀ i∈at_,f+i < m.W.length) (ht:0<=m.t/\m.t+at_.length < 4611686018427387904) (hn:at_.length<=100000) :
 WP (jkq [.pointer (some ⟨b,0,none⟩),vI f,.slice (some ⟨ib,0,none⟩) at_.length cc,.slice (some ⟨lb,0,none⟩) at_.length lc]) S λ v S'=>v=vI 0/\Kp T S S'/\MS S' b (m.wrs ((at_.map λ i:Nat=>f+(i:Int)).zip ws)) T:=by
 rw [jkr]
 simp only [wps]
 generalize hA:(at_.map λ i:Nat=>f+(i:Int)).zip ws=A
 have lA:A.length=at_.length:=by rw [<- hA,List.length_zip,List.length_map,hlen]; omega
 have hw:=h.w
 refine zgd (λ st S' k=>∃ j:Nat,st=[vN j]/\k=at_.length-j/\j<=at_.length/\Kp T S S'/\MS S' b (m.wrs (A.take j)) T) ?_ at_.length _ _ ⟨0,rfl,rfl,by omega,.refl,h⟩
 rintro st S1 k ⟨j,rfl,rfl,hj,k1,hM⟩
 simp only [wps]
 obtain ⟨g1,g2,g3⟩:=Mm.wrs_len (A.take j) m
 refine ⟨λ h3=>⟨h3,?_⟩,λ h3=>?_⟩
 ·have hj':j < at_.length:=by omega
  have hjA:j < A.length:=by omega
  have eA:A[j]=(f+(at_[j]:Int),ws[j]'(by omega)):=by simp [<- hA]
  have hx:=hin _ (List.getElem_mem hj')
  have c1:=jxr (k1.get ha hib) hj'
  have c2:=(Ob.refl (e:=eU) (k1.get hl hlb)).u (i:=j) (by omega)
  simp only [wps,c1,c2]
  rw [wI_ (n:=f+(at_[j]:Int)) (by omega) (by omega),wI_ (n:=(j:Int)+1) (by omega) (by omega)]
  refine ⟨by omega,?_⟩
  refine (zb6 hM (by rw [g1]; omega) (by rw [g2]; simp;omega) (hws _ (List.getElem_mem _))).mono ?_
  rintro _ S2 ⟨rfl,k2,hM2⟩
  simp only [wps]
  refine ⟨at_.length-(j+1),by omega,j+1,rfl,rfl,by omega,k1.trans k2,?_⟩
  rw [zh7 hjA,eA]; exact hM2
 ·obtain rfl:j=at_.length:=by omega
  rw [List.take_of_length_le (by omega)] at hM
  exact ⟨k1,hM⟩
abbrev jyb (b:Int) (l:List Nat):List Int:=l.map λ i:Nat=>b+(i:Int)
def z0f (p:Int) (inv tw:Bool) (src dst tab:Int) (st:Mm×List Int) (g:GrN):Mm×List Int:=
 (((st.1.rds (jyb src g.i)).2.rds (jyb tab g.f)).2.wrs ((jyb dst g.o).zip (List.zipWith (jxc p) (gyV p inv tw ((st.1.rds (jyb src g.i)).1.map (red p))) ((st.1.rds (jyb src g.i)).2.rds (jyb tab g.f)).1)),
  z7b st.2 (g.i.zip ((st.1.rds (jyb src g.i)).1.map (red p))))
def z0a (p:Int) (inv tw:Bool) (src dst tab:Int) (m:Mm) (n:Nat) (gs:List GrN):Mm×List Int:=gs.foldl (z0f p inv tw src dst tab) (m,List.replicate n 0)
def z97 (q:Int×Int):List Int:=[q.1,q.1,q.1,q.2,q.2,q.2]
def z0h (m:Mm) (p:Int) (l:List Ax) (inv:Bool) (s:Stp) (src dst tab:Int):((Int×Int)×Int)×Mm:=
 if zam p l s=0 then
  (if m.hasN src (nV l+6)=true/\m.hasN dst (nV l+6)=true/\m.hasN tab (zcd p l inv s).length=true then
    let r:=z0a p inv s.tw src dst tab m (nV l).toNat (jqs l s)
    let q:=z26 p inv s.tw (jqs l s) (zcd p l inv s) r.2
    ((q,0),r.1.wrs ((jyb (dst+nV l) [0,1,2,3,4,5]).zip (z97 q)))
  else (((0,0),1),m))
 else (((0,0),zam p l s),m)
theorem jr6 {m:Mm} {a n:Int} (h:m.hasN a n=true):0<=a/\0<=n/\a+n<=m.W.length:=by
 have:=of_decide_eq_true h;omega
theorem z0b (p:Int) (inv tw:Bool) (src dst tab:Int) (m:Mm) (n:Nat) (pre:List GrN) (g:GrN):z0a p inv tw src dst tab m n (pre++[g])=z0f p inv tw src dst tab (z0a p inv tw src dst tab m n pre) g:=by
 unfold z0a;rw [List.foldl_append]; rfl
section
variable {p:Int} {inv tw:Bool} {src dst tab:Int}
theorem zhz {g:GrN} (hg:g.ok tw) (m:Mm):(List.zipWith (jxc p) (gyV p inv tw ((m.rds (jyb src g.i)).1.map (red p))) ((m.rds (jyb src g.i)).2.rds (jyb tab g.f)).1).length=g.i.length:=by
 rw [List.length_zipWith,jr3,List.length_map,(Mm.rds_len _ _).2.1,(Mm.rds_len _ _).2.1,List.length_map,List.length_map,hg.f]; omega
theorem z0g (hk:jt3 p=true) {g:GrN} (hg:g.ok tw) (st:Mm×List Int):(z0f p inv tw src dst tab st g).1.W.length=st.1.W.length/\(z0f p inv tw src dst tab st g).1.t=st.1.t+3*g.i.length/\(z0f p inv tw src dst tab st g).1.ah=st.1.ah/\(z0f p inv tw src dst tab st g).2.length=st.2.length/\((∀ y∈st.2,inP p y)->∀ y∈(z0f p inv tw src dst tab st g).2,inP p y):=by
 unfold z0f
 obtain ⟨a1,a2,a3,a4⟩:=Mm.rds_len (jyb src g.i) st.1
 obtain ⟨b1,b2,b3,b4⟩:=Mm.rds_len (jyb tab g.f) (st.1.rds (jyb src g.i)).2
 obtain ⟨c1,c2,c3⟩:=Mm.wrs_len ((jyb dst g.o).zip (List.zipWith (jxc p) (gyV p inv tw ((st.1.rds (jyb src g.i)).1.map (red p))) ((st.1.rds (jyb src g.i)).2.rds (jyb tab g.f)).1)) ((st.1.rds (jyb src g.i)).2.rds (jyb tab g.f)).2
 have hz:=zhz (p:=p) (inv:=inv) (src:=src) (tab:=tab) hg st.1
 refine ⟨by rw [c1,b1,a1],?_,by rw [c3,b4,a4],z7h _ _,?_⟩
 ·rw [c2,b3,a3,List.length_zip,hz,List.length_map,List.length_map,List.length_map,hg.f,hg.o]; omega
 ·intro h y hy
  have key:∀ (l:List (Nat×Int)) (a:List Int),(∀ y∈a,inP p y)->(∀ e∈l,inP p e.2)->∀ y∈z7b a l,inP p y:=by
   intro l
   induction l with
   | nil=>intro a h _;exact h
   | cons e l ih=>
     intro a h1 h2
     refine ih _ (λ y hy=>?_) (λ e he=>h2 e (by simp [he]))
     rcases List.mem_or_eq_of_mem_set hy with hy | rfl
     ·exact h1 y hy
     ·exact h2 e (by simp)
  refine key _ _ h (λ e he=>?_) y hy
  have:=(List.of_mem_zip he).2
  obtain ⟨z,_,hz⟩:=List.mem_map.1 this
  rw [<- hz]; exact jrs hk _
theorem z0c (hk:jt3 p=true) {m:Mm} {n:Nat}:∀ (gs:List GrN) (st:Mm×List Int),(∀ g∈gs,g.ok tw)->(gs.foldl (z0f p inv tw src dst tab) st).1.W.length=st.1.W.length/\(gs.foldl (z0f p inv tw src dst tab) st).1.t=st.1.t+3*(gs.flatMap GrN.i).length/\(gs.foldl (z0f p inv tw src dst tab) st).1.ah=st.1.ah/\(gs.foldl (z0f p inv tw src dst tab) st).2.length=st.2.length/\((∀ y∈st.2,inP p y)->∀ y∈(gs.foldl (z0f p inv tw src dst tab) st).2,inP p y)
 | [], st, _ => by simp
 | g :: gs, st, h => by
   obtain ⟨a1,a2,a3,a4,a5⟩:=z0g (inv:=inv) (src:=src) (dst:=dst) (tab:=tab) hk (h g (by simp)) st
   obtain ⟨b1,b2,b3,b4,b5⟩:=z0c hk (m:=m) (n:=n) gs (z0f p inv tw src dst tab st g) (λ g' hg'=>h g' (by simp [hg']))
   rw [List.foldl_cons,List.flatMap_cons,List.length_append]
   exact ⟨b1.trans a1,by rw [b2,a2]; omega,b3.trans a3,b4.trans a4,λ h=>b5 (a5 h)⟩
end
theorem jqw {l:List Ax} {s:Stp} {k d inner nn m:Nat} (hs:Shp l s k d inner nn m):((jqs l s).flatMap GrN.i).length=nn:=by
 have:=(jqt hs).2.1.length_eq
 rw [this,List.length_range]
theorem zcp {gs:List GrN} (j:Nat):((gs.take j).flatMap GrN.i).length<=(gs.flatMap GrN.i).length:=by
 conv=>rhs;rw [<- List.take_append_drop j gs,List.flatMap_append,List.length_append]
 omega
theorem jqx {l:List Ax} {s:Stp} {k d inner nn m:Nat} (hs:Shp l s k d inner nn m):(jqs l s).length<=4096:=by
 have hn1:=hs.n1
 rcases hs.st with ⟨ht,_⟩ | ⟨ht,R,L,M,hst,r1,r2,l1,m1,hd⟩
 ·rw [jqv hs ht,List.length_map,List.length_range]; omega
 ·rw [jqu hs ht hst,zac]
  have h1:M*L<=d:=by rw [hd,Nat.mul_comm]; exact Nat.mul_le_mul_left _ (Nat.le_mul_of_pos_left _ (by omega))
  have h2:nn / d*(M*L)<=nn / d*d:=Nat.mul_le_mul_left _ h1
  have h3:=Nat.div_mul_le_self nn d
  omega
theorem Ar.getGp {S:St} {a:Option Addr} {n:Nat} {ps:List Gp} (h:Ar S a n 3 Gp.cells ps) {j:Nat} (hj:j < ps.length):∃ x,a=some x/\S.cell (x.add (j*3))=some (.slice (some ⟨ps[j].b0,0,none⟩) ps[j].g.i.length ps[j].g.i.length)/\S.cell ((x.add (j*3)).add 1)=some (.slice (some ⟨ps[j].b1,0,none⟩) ps[j].g.f.length ps[j].g.f.length)/\S.cell ((x.add (j*3)).add 2)=some (.slice (some ⟨ps[j].b2,0,none⟩) ps[j].g.o.length ps[j].g.o.length):=by
 obtain ⟨x,h1,h2⟩:=h.2 j hj
 exact ⟨x,h1,by have:=h2 0 _ rfl;rwa [j25] at this,h2 1 _ rfl,h2 2 _ rfl⟩
theorem z86 {A B:List Int} {k:Nat} (hl:B.length=A.length) (hk:k < B.length):(B.take k++A.drop k).set k B[k]=B.take (k+1)++A.drop (k+1):=by
 have h1:(B.take k).length=k:=by simp;omega
 rw [List.set_append_right _ _ (by omega),h1,Nat.sub_self,List.drop_eq_getElem_cons (show k < A.length by omega),List.set_cons_zero,zcr hk,List.append_assoc]; rfl
theorem z7j {M:List Int} {z:List (Nat×Int)} {k:Nat} (hk:k < z.length):z7b M (z.take (k+1))=(z7b M (z.take k)).set z[k].1 z[k].2:=by
 rw [zcr hk,z7c]; rfl
theorem z5n (n:Nat):List.replicate n (vU 0)=(List.replicate n (0:Int)).flatMap eU:=by
 induction n with
 | zero => rfl
 | succ k ih => rw [List.replicate_succ, List.replicate_succ, List.flatMap_cons, <- ih]; rfl
set_option maxHeartbeats 2000000 in
theorem z6q {S:St} {b:Nat} {m:Mm} {T:List Nat} (h:MS S b m T) {p dst n2:Int} {n n1 gb b0 b1 b2 fb yb len:Nat} {l0 l1 c0 c1:Nat} {os:List Nat} {Y F:List Int} {gf gy:Option Nat} (hg:S[gb]? = some (.cells [.slice (some ⟨b0,0,none⟩) l0 c0,.slice (some ⟨b1,0,none⟩) l1 c1,.slice (some ⟨b2,0,none⟩) len len] 128 none)) (ho:S[b2]? = some (jxp os)) (hf:S[fb]? = some (.cells (F.flatMap eU) 24 gf)) (hy:S[yb]? = some (.cells (Y.flatMap eU) 24 gy))
 (nT:gb∉T/\b2∉T/\fb∉T/\yb∉T) (ne:gb≠yb/\b2≠yb/\fb≠yb) (lo:os.length=len) (lF:F.length=len) (lY:Y.length=len) (hYu:∀ y∈Y,inU y) (hFu:∀ y∈F,inU y) (hd:0<=dst) (hin:∀ i∈os,dst+i < m.W.length) (ht:0<=m.t/\m.t+len < 4611686018427387904) (hlen:len<=1000) :
 WP (jtk (some ⟨b,0,none⟩) p dst n n1 n2 gb ⟨some ⟨fb,0,none⟩,len,len⟩ (0,[.slice (some ⟨yb,0,none⟩) len len])) S λ q S'=>q=(0,[vI (wI (n2+1))])/\Kp (yb :: T) S S'/\MS S' b (m.wrs ((jyb dst os).zip (List.zipWith (jxc p) Y F))) T:=by
 have hTlt:=h.lt
 have lZ:(List.zipWith (jxc p) Y F).length=len:=by rw [List.length_zipWith]; omega
 unfold jtk
 simp only [wps]
 refine zgd (λ st S' q=>∃ k:Nat,st=[vN k]/\q=len-k/\k<=len/\Kp [yb] S S'/\S'[yb]? = some (.cells (((List.zipWith (jxc p) Y F).take k++Y.drop k).flatMap eU) 24 gy)) ?_ len _ _ ⟨0,rfl,rfl,by omega,.refl,by simpa using hy⟩
 rintro st S1 q ⟨k,rfl,rfl,hk,k1,y1⟩
 have f1:=k1.get hf (by simp;exact ne.2.2)
 have g1:=k1.get hg (by simp;exact ne.1)
 have o1:=k1.get ho (by simp;exact ne.2.1)
 have hY1:=z1y y1
 simp only [wps]
 refine ⟨λ h3=>⟨h3,?_⟩,λ h3=>?_⟩
 ·have hk':k < len:=by omega
  have cF:=(Ob.refl (e:=eU) f1).u (i:=k) (by omega)
  have lcur:((List.zipWith (jxc p) Y F).take k++Y.drop k).length=len:=by simp;omega
  have ecur:((List.zipWith (jxc p) Y F).take k++Y.drop k)[k]'(by omega)=Y[k]:=by
   rw [List.getElem_append_right (by simp;omega)]
   simp [show min k (min Y.length F.length)=k by omega]
  have cY:=(Ob.refl (e:=eU) y1).u (i:=k) (by omega)
  rw [ecur] at cY
  have em:jxc p Y[k] F[k]=(List.zipWith (jxc p) Y F)[k]'(by omega):=by rw [List.getElem_zipWith]
  have hmul:=jxn (p:=p) (hYu _ (List.getElem_mem (show k < Y.length by omega))) (hFu _ (List.getElem_mem (show k < F.length by omega)))
  rw [em] at hmul
  have hput:=(Ob.refl (e:=eU) y1).put (w:=1) (λ _=>rfl) (i:=k) (by omega) ((List.zipWith (jxc p) Y F)[k]'(by omega))
  rw [Nat.mul_one,z86 (by omega) (by omega)] at hput
  simp only [wps,cF,cY,hmul,y1]
  rw [wI_ (n:=(k:Int)+1) (by omega) (by omega)]
  refine ⟨h3,h3,?_,len-(k+1),by omega,k+1,rfl,rfl,by omega,?_,hput.at_⟩
  ·rw [jcv (e:=eU) (w:=1) (λ _=>rfl)]; omega
  ·exact k1.trans ⟨by simp,λ i hi hn=>by rw [List.getElem?_set_ne]; rintro rfl;simp at hn⟩
 ·obtain rfl:k=len:=by omega
  rw [List.take_of_length_le (by omega),List.drop_of_length_le (by omega),List.append_nil] at y1
  have h1:=h.kp k1 (λ i hi=>by simp;rintro rfl;exact nT.2.2.2 hi)
  simp only [wps,j6u g1,gcz,gcs]
  have hst:=zb7 (cc:=k) (lc:=k) h1 o1 nT.2.1 y1 nT.2.2.2 (by omega) (λ y hy=>by
   obtain ⟨i,hi,rfl⟩:=List.mem_iff_getElem.1 hy
   rw [List.getElem_zipWith]
   have:=jxh p Y[i] F[i]
   exact ⟨this.1,by have:=this.2;omega⟩) hd hin (by omega) (by omega)
  rw [lo] at hst
  refine hst.mono ?_
  rintro _ S2 ⟨rfl,k2,h2⟩
  simp only [wps]
  exact ⟨(k1.mono λ i hi=>by simp at hi;simp [hi]).trans (k2.mono λ i hi=>List.mem_cons_of_mem _ hi),h2⟩
set_option maxHeartbeats 4000000 in
set_option maxRecDepth 20000 in
theorem z76 {S:St} {b:Nat} {m:Mm} {T:List Nat} (h:MS S b m T) {p:Int} {axes:Option Addr} {n c:Nat} {l:List Ax} {inv:Bool} {s:Stp} {src dst tab:Int} (har:Ar S axes n 2 eAx l) (hl:n<=8796093022208) (hax:∀ y,axes=some y->l≠[]->y.block∉T) (ht:0<=m.t/\m.t < 1152921504606846976) :
 WP (jkh [.pointer (some ⟨b,0,none⟩),vU p,.slice axes n c,vB inv,spV s,vI src,vI dst,vI tab]) S λ v S'=>v=vT [vA [vU (z0h m p l inv s src dst tab).1.1.1,vU (z0h m p l inv s src dst tab).1.1.2],vI (z0h m p l inv s src dst tab).1.2]/\Kp T S S'/\MS S' b (z0h m p l inv s src dst tab).2 T:=by
 have hTlt:=h.lt
 rw [jki]
 simp only [wps,List.append_assoc,List.cons_append,List.nil_append,List.length_append,List.length_cons,List.length_nil,Nat.zero_add,Nat.reduceAdd,Nat.add_assoc]
 generalize hY:S++[j00.cells (spC s) 29 none,j00.cells [vU 0,vU 0] 40 none,j00.cells [vU 0,vU 0] 40 none]=Y
 have hp:S <+: Y:=⟨_,hY⟩
 have y0:Y[S.length]? = some (j00.cells (spC s) 29 none):=by rw [<- hY]; exact gA0
 have y1:Y[S.length+1]? = some (j00.cells [vU 0,vU 0] 40 none):=by rw [<- hY]; exact gA
 have y2:Y[S.length+2]? = some (j00.cells [vU 0,vU 0] 40 none):=by rw [<- hY]; exact gA
 have hYl:Y.length=S.length+3:=by rw [<- hY]; simp
 simp only [wps,j6u y0,gcz,gcs]
 have hT1:S.length+1∉T:=λ hx=>by have:=hTlt _ hx;omega
 have kset:∀ (S':St) (o:j00),S <+: S'->Kp T S (S'.set (S.length+1) o)/\MS (S'.set (S.length+1) o) b m T:=λ S' o k=>by
  have k2:S <+: S'.set (S.length+1) o:=z24 k (by omega)
  exact ⟨.of k2,h.pre k2⟩
 by_cases hs:zam p l s=0
 rotate_left
 ·have hv:z0h m p l inv s src dst tab=(((0,0),zam p l s),m):=by unfold z0h;rw [if_neg hs]
  rw [hv]
  rw [jo8]
  simp only [wps]
  have hq:=List.prefix_append Y [j00.cells (spC s) 29 none]
  have hq0:=jek (S:=Y) (o:=j00.cells (spC s) 29 none)
  refine (zat (c:=c) (har.mono (hp.trans hq)) hl s).use ?_
  rintro _ S1 k1 rfl
  have k2:=hq.trans k1
  have y1':=z1w k2 y1
  have y2':=z1w k2 y2
  have hl1:=z1y y1'
  have y1'':=List.getElem?_set_self (a:=j00.cells [vU 0,vU 0] 40 none) hl1
  simp only [wps,j6u y2',y1',gcz,gcs,j6u y1'']
  obtain ⟨q1,q2⟩:=kset S1 (j00.cells [vU 0,vU 0] 40 none) (hp.trans k2)
  exact ⟨λ _=>⟨λ _=>⟨q1,q2⟩,λ e=>absurd e hs⟩,λ e=>absurd e hs⟩
 have vbad:¬ (m.hasN src (nV l+6)=true/\m.hasN dst (nV l+6)=true/\m.hasN tab (zcd p l inv s).length=true)->z0h m p l inv s src dst tab=(((0,0),1),m):=λ h=>by unfold z0h;rw [if_pos hs,if_neg h]
 have vgood:(m.hasN src (nV l+6)=true/\m.hasN dst (nV l+6)=true/\m.hasN tab (zcd p l inv s).length=true)->z0h m p l inv s src dst tab=((z26 p inv s.tw (jqs l s) (zcd p l inv s) (z0a p inv s.tw src dst tab m (nV l).toNat (jqs l s)).2,0),(z0a p inv s.tw src dst tab m (nV l).toNat (jqs l s)).1.wrs ((jyb (dst+nV l) [0,1,2,3,4,5]).zip (z97 (z26 p inv s.tw (jqs l s) (zcd p l inv s) (z0a p inv s.tw src dst tab m (nV l).toNat (jqs l s)).2)))):=λ h=>by unfold z0h;rw [if_pos hs,if_pos h]
 have hk:=zaq hs
 obtain ⟨k,d,inner,nn,mm,hS⟩:=zas hs
 obtain ⟨gf1,gf2,gf3,gf4,gf5⟩:=jqt hS
 have hnn:=hS.nn
 have hn1:=hS.n1
 have hgl:=jqx hS
 have hfl:=jqw hS
 have htl:=zch (p:=p) (inv:=inv) hS
 refine (jqq (c:=c) hs (har.mono hp) hl).mono ?_
 rintro _ S1 ⟨ga,ps,rfl,k1,hps,hgp,hga,hgb⟩
 have z0:=z1w k1 y0
 have z1:=z1w k1 y1
 have z2:=z1w k1 y2
 have p1:=hp.trans k1
 simp only [wps,j6u z0,gcz,gcs]
 refine (zcl (c:=c) (har.mono p1) hl inv s).use ?_
 rintro _ S2 k2 ⟨tb,tk,rfl,htab⟩
 have p2:=p1.trans k2
 have z0:=z1w k2 z0
 have z1:=z1w k2 z1
 have z2:=z1w k2 z2
 rw [show zck p l inv s (zcd p l inv s)=zcd p l inv s by unfold zck;rw [if_pos hs]] at htab ⊢
 simp only [wps,hs]
 -- how many words
 have hpl:ps.length=(jqs l s).length:=by rw [<- hps,List.length_map]
 refine zgd (λ st S' q=>∃ j:Nat,st=[vN (((jqs l s).take j).flatMap GrN.i).length,vN j]/\q=(jqs l s).length-j/\j<=(jqs l s).length/\S2 <+: S') ?_ (jqs l s).length _ _ ⟨0,rfl,rfl,by omega,List.prefix_rfl⟩
 rintro st S3 q ⟨j,rfl,rfl,hj,k3⟩
 simp only [wps]
 refine ⟨λ h3=>⟨h3,?_⟩,λ h3=>?_⟩
 ·have hj':j < ps.length:=by omega
  have hj2:j < (jqs l s).length:=by omega
  obtain ⟨x,rfl,g0,g1,g2⟩:=(hga.mono (k2.trans k3)).getGp hj'
  have eg:ps[j].g=(jqs l s)[j]:=by simp [<- hps]
  simp only [wps,g0,g1,g2,sA0,j6u gA0,gcz,gcs]
  have hle:=zcp (gs:=jqs l s) (j+1)
  rw [zcr hj2,List.flatMap_append,List.length_append] at hle
  have e1:(((jqs l s).take j).flatMap GrN.i).length+ps[j].g.i.length=(((jqs l s).take (j+1)).flatMap GrN.i).length:=by
   rw [zcr hj2,List.flatMap_append,List.length_append,eg]; simp
  simp only [List.flatMap_cons,List.flatMap_nil,List.append_nil,<- eg] at hle
  rw [wI_ (n:=((((jqs l s).take j).flatMap GrN.i).length:Int)+(ps[j].g.i.length:Int)) (by omega) (by omega),wI_ (n:=(j:Int)+1) (by omega) (by omega)]
  refine ⟨(jqs l s).length-(j+1),by omega,j+1,?_,rfl,by omega,k3.trans (List.prefix_append _ _)⟩
  rw [<- e1]; rfl
 obtain rfl:j=(jqs l s).length:=by omega
 rw [List.take_length,hfl]
 have p3:=p2.trans k3
 have z0:=z1w k3 z0
 have z1:=z1w k3 z1
 have z2:=z1w k3 z2
 have h3':=h.pre p3
 have e6:wI (((nn:Nat):Int)+6)=nV l+6:=by rw [hnn,wI_ (by omega) (by omega)]
 simp only [wps,e6]
 have bad:∀ S',S <+: S'->S'[S.length+1]? = some (j00.cells [vU 0,vU 0] 40 none)->¬ (m.hasN src (nV l+6)=true/\m.hasN dst (nV l+6)=true/\m.hasN tab (zcd p l inv s).length=true) ->
  WP (jtl (some ⟨b,0,none⟩) p axes n c inv src dst tab S.length (S.length+1) (S.length+2) ⟨ga,(jqs l s).length,(jqs l s).length⟩ (nn:Int) (1,[vI 1])) (S'.set (S.length+1) (j00.cells [vU 0,vU 0] 40 none)) λ a S'=>WP (jzc a) S' λ v S'=>v=vT [vA [vU (z0h m p l inv s src dst tab).1.1.1,vU (z0h m p l inv s src dst tab).1.1.2],vI (z0h m p l inv s src dst tab).1.2]/\Kp T S S'/\MS S' b (z0h m p l inv s src dst tab).2 T:=by
  intro S' k hz hb
  rw [vbad hb]
  have hl1:=z1y hz
  have y1'':=List.getElem?_set_self (a:=j00.cells [vU 0,vU 0] 40 none) hl1
  unfold jtl
  simp only [wps,gcz,gcs,j6u y1'']
  obtain ⟨q1,q2⟩:=kset S' (j00.cells [vU 0,vU 0] 40 none) k
  first
   | exact ⟨rfl,q1,q2⟩
   | exact ⟨q1,q2⟩
 refine (zcu h3').use ?_
 rintro _ S4 k4 rfl
 have h4:=h3'.pre k4
 have z1:=z1w k4 z1
 have z2:=z1w k4 z2
 simp only [wps,j6u z2,z1,gcz,gcs]
 refine ⟨λ c1=>bad S4 (p3.trans k4) z1 (by rw [c1]; simp),λ c1=>?_⟩
 refine (zcu h4).use ?_
 rintro _ S5 k5 rfl
 have h5:=h4.pre k5
 have z1:=z1w k5 z1
 have z2:=z1w k5 z2
 simp only [wps,j6u z2,z1,gcz,gcs]
 refine ⟨λ c2=>bad S5 ((p3.trans k4).trans k5) z1 (by rw [c2]; simp),λ c2=>?_⟩
 refine (zcu h5).use ?_
 rintro _ S6 k6 rfl
 have h6:=h5.pre k6
 have z1:=z1w k6 z1
 have z2:=z1w k6 z2
 simp only [wps,j6u z2,z1,gcz,gcs]
 refine ⟨λ c3=>bad S6 (((p3.trans k4).trans k5).trans k6) z1 (by rw [c3]; simp),λ c3=>?_⟩
 rw [vgood ⟨c1,c2,c3⟩]
 have p6:=((p3.trans k4).trans k5).trans k6
 unfold jtl
 simp only [wps,zhy,Int.toNat_natCast]
 refine ⟨⟨by omega,by omega,by omega,rfl⟩,?_⟩
 rw [z5n]
 generalize hS7:S6++[j00.cells ((List.replicate nn (0:Int)).flatMap eU) 24 none]=S7
 have p7':S6 <+: S7:=⟨_,hS7⟩
 have p7:=p6.trans p7'
 have zm:S7[S6.length]? = some (j00.cells ((List.replicate nn (0:Int)).flatMap eU) 24 none):=by rw [<- hS7]; exact jek
 have h7:=h6.pre p7'
 have z0:=z1w ((k4.trans k5).trans (k6.trans p7')) z0
 have z1:=z1w p7' z1
 have z2:=z1w p7' z2
 have l6:=p6.length_le
 have lY:=hp.length_le
 have l1:=k1.length_le
 have l2:=k2.length_le
 have l3:=k3.length_le
 have l4:=k4.length_le
 have l5:=k5.length_le
 have l66:=k6.length_le
 have l7:S7.length=S6.length+1:=by rw [<- hS7]; simp
 have hmT:S6.length∉T:=λ hx=>by have:=hTlt _ hx;omega
 have k17:S1 <+: S7:=((k2.trans k3).trans (k4.trans k5)).trans (k6.trans p7')
 have hga7:=hga.mono k17
 have hgp7:∀ x∈ps,j0j S7 (S6.length :: T) Y.length x:=by
  intro x hx
  have h8:=hgp x hx
  have b0:=z1y h8.i
  have b1:=z1y h8.f
  have b2:=z1y h8.o
  have hl8:=h8.l
  have hno:∀ i,Y.length<=i->i < S1.length->i∉S6.length :: T:=by
   intro i hi hi1 hm
   rcases List.mem_cons.1 hm with e | e
   ·omega
   ·have:=hTlt _ e;omega
  exact ⟨z1w k17 h8.i,z1w k17 h8.f,z1w k17 h8.o,⟨hno _ hl8.1 b0,hno _ hl8.2.1 b1,hno _ hl8.2.2 b2⟩,hl8⟩
 obtain ⟨r1,r2,r3⟩:=jr6 c1
 obtain ⟨r4,r5,r6⟩:=jr6 c2
 obtain ⟨r7,r8,r9⟩:=jr6 c3
 have enn:(nV l).toNat=nn:=by rw [hnn]; simp
 rw [enn]
 have hTl7:∀ i∈S6.length :: T,i < S7.length:=by
  intro i hi
  rcases List.mem_cons.1 hi with e | e
  ·omega
  ·have:=hTlt _ e;omega
 have z7:S7[S.length]? = some (.cells (spC s) 29 none):=z0
 have nT7:∀ i,S.length<=i->i < Y.length->i∉S6.length :: T:=by
  intro i hi hi1 hm
  rcases List.mem_cons.1 hm with e | e
  ·omega
  ·have:=hTlt _ e;omega
 refine zgd (λ st S' q=>∃ j:Nat,st=[vN j]/\q=(jqs l s).length-j/\j<=(jqs l s).length/\Kp (S6.length :: T) S7 S'/\MS S' b (z0a p inv s.tw src dst tab m nn ((jqs l s).take j)).1 T/\S'[S6.length]? = some (.cells ((z0a p inv s.tw src dst tab m nn ((jqs l s).take j)).2.flatMap eU) 24 none)) ?_ (jqs l s).length _ _ ⟨0,rfl,rfl,by omega,.refl,h7,zm⟩
 rintro st S8 q ⟨j,rfl,rfl,hj,k8,h8,m8⟩
 obtain ⟨f1,f2,f3,f4,f5⟩:=z0c (inv:=inv) (src:=src) (dst:=dst) (tab:=tab) (m:=m) (n:=nn) hk ((jqs l s).take j) (m,List.replicate nn 0) (λ g hg=>gf1 g (List.mem_of_mem_take hg))
 have f1:(z0a p inv s.tw src dst tab m nn ((jqs l s).take j)).1.W.length=m.W.length:=f1
 have f2:(z0a p inv s.tw src dst tab m nn ((jqs l s).take j)).1.t=m.t+3*(((jqs l s).take j).flatMap GrN.i).length:=f2
 have f4:(z0a p inv s.tw src dst tab m nn ((jqs l s).take j)).2.length=nn:=f4.trans (by simp)
 have f5:∀ y∈(z0a p inv s.tw src dst tab m nn ((jqs l s).take j)).2,inP p y:=f5 (by intro y hy;rw [List.mem_replicate] at hy;rw [hy.2]; exact jrv hk)
 have htake:=zcp (gs:=jqs l s) j
 simp only [wps]
 refine ⟨λ hj3=>⟨hj3,?_⟩,λ hj3=>?_⟩
 rotate_left
 ·obtain rfl:j=(jqs l s).length:=by omega
  rw [List.take_length] at h8 m8 f1 f2 f4 f5
  have sT0:S.length∉S6.length :: T:=nT7 _ (by omega) (by omega)
  have sT1:S.length+1∉S6.length :: T:=nT7 _ (by omega) (by omega)
  have v0:=k8.get z7 sT0
  have v1:=k8.get z1 sT1
  have har8:Ar S8 axes n 2 eAx l:=k8.ar (har.mono p7) (λ hne y hy=>by
   have e1:=hax y hy hne
   have e2:=har.low (λ x=>⟨_,rfl⟩) hne y hy
   intro hm;rcases List.mem_cons.1 hm with e | e
   ·omega
   ·exact e1 e)
  have hmet:Ar S8 (some ⟨S6.length,0,none⟩) nn 1 eU (z0a p inv s.tw src dst tab m nn (jqs l s)).2:=by
   have q:=Ar.blk (e:=eU) (w:=1) (l:=(z0a p inv s.tw src dst tab m nn (jqs l s)).2) m8 (λ _ _=>rfl) rfl
   rw [f4] at q
   exact q
  rw [hfl] at f2
  generalize z0a p inv s.tw src dst tab m nn (jqs l s)=pg at h8 m8 f1 f2 f4 f5 hmet ⊢
  simp only [wps,j6u v0,gcz,gcs]
  refine (z2d (c:=c) (xc:=nn) (inv:=inv) hs har8 hl hmet (by rw [f4,hnn]) f5).mono ?_
  rintro _ S9 ⟨rfl,k9⟩
  obtain ⟨u1,u2⟩:=z29 (inv:=inv) (tw:=s.tw) (tab:=zcd p l inv s) (x:=pg.2) hk (jqs l s) (0,0) ⟨jrv hk,jrv hk⟩
  have u1:inP p (z26 p inv s.tw (jqs l s) (zcd p l inv s) pg.2).1:=u1
  have u2:inP p (z26 p inv s.tw (jqs l s) (zcd p l inv s) pg.2).2:=u2
  generalize z26 p inv s.tw (jqs l s) (zcd p l inv s) pg.2=Q at u1 u2 ⊢
  obtain ⟨qa,qb⟩:=Q
  simp only [wps,List.append_assoc,List.cons_append,List.nil_append,List.length_append,List.length_cons,List.length_nil,Nat.zero_add,Nat.reduceAdd,sA0,gA0,j6u gA0,gcz,gcs]
  generalize hZ:S9++[j00.cells [vU qa,vU qb] 40 none,j00.cells [vI 0,vI 1,vI 2,vI 3,vI 4,vI 5] 3 none,j00.cells [vU qa,vU qa,vU qa,vU qb,vU qb,vU qb] 24 none]=Z
  have pz:S9 <+: Z:=⟨_,hZ⟩
  have s0:Z[S9.length]? = some (j00.cells [vU qa,vU qb] 40 none):=by rw [<- hZ]; exact gA0
  have s1:Z[S9.length+1]? = some (jxp [0,1,2,3,4,5]):=by rw [<- hZ,gA]; rfl
  have s2:Z[S9.length+2]? = some (.cells ((z97 (qa,qb)).flatMap eU) 24 none):=by rw [<- hZ,gA]; rfl
  have v1:=z1w (k9.trans pz) v1
  have l8:=k8.len
  have l9:=k9.length_le
  have hTi:∀ i,S.length<=i->i∉T:=λ i hi hm=>by have:=hTlt _ hm;omega
  have e1:wI (dst+(nn:Int))=dst+nV l:=by rw [hnn,wI_ (by have:=h.w;omega) (by have:=h.w;omega)]
  rw [e1]
  have hq6:∀ y∈z97 (qa,qb),Go.Proofs.YtpecnaacgkgjmaaGreatDoor.u64r y:=by
   have i1:=jru hk u1
   have i2:=jru hk u2
   intro y hy
   have : y=qa\/y=qb:=by
    simp only [z97,List.mem_cons,List.not_mem_nil,or_false] at hy;omega
   rcases this with rfl | rfl
   ·exact ⟨i1.1,by have:=i1.2;dsimp only at this;omega⟩
   ·exact ⟨i2.1,by have:=i2.2;dsimp only at this;omega⟩
  have h6:∀ i∈[0,1,2,3,4,5],dst+nV l+((i:Nat):Int) < pg.1.W.length:=by
   intro i hi
   have : i<=5:=by simp only [List.mem_cons,List.not_mem_nil,or_false] at hi;omega
   rw [f1]; omega
  refine (zb7 (at_:=[0,1,2,3,4,5]) (cc:=6) (lc:=6) ((h8.pre k9).pre pz) s1 (hTi _ (by omega)) s2 (hTi _ (by omega)) rfl hq6 (by omega) h6 (by rw [f2]; simp;omega) (by simp)).mono ?_
  rintro _ S10 ⟨rfl,k10,h10⟩
  have s0:=k10.get s0 (hTi _ (by omega))
  have v1:=k10.get v1 (hTi _ (by omega))
  have hl1:=z1y v1
  have v1':=List.getElem?_set_self (a:=j00.cells [vU qa,vU qb] 40 none) hl1
  simp only [wps,j6u s0,gcz,gcs,v1,j6u v1',and_true,true_and]
  have k7S:Kp T S S10:=⟨by have:=k10.len;have:=pz.length_le;have:=p7.length_le;omega,λ i hi hn=>by
   have q7:=p7.length_le
   rw [k10.keep i (by have:=pz.length_le;omega) hn,z1u (k9.trans pz) (by omega),k8.keep i (by omega) (by intro hm;rcases List.mem_cons.1 hm with e | e;omega;exact hn e),z1u p7 hi]⟩
  refine ⟨⟨by rw [List.length_set]; exact k7S.len,λ i hi hn=>by rw [List.getElem?_set_ne (by omega),k7S.keep i hi hn]⟩,h10.kp (M:=[S.length+1]) ⟨by simp,λ i hi hn=>by rw [List.getElem?_set_ne]; rintro rfl;simp at hn⟩ (λ i hi=>by have:=hTlt i hi;simp;omega)⟩
 have hj':j < ps.length:=by omega
 have hj2:j < (jqs l s).length:=by omega
 have hstep:z0a p inv s.tw src dst tab m nn ((jqs l s).take (j+1))=z0f p inv s.tw src dst tab (z0a p inv s.tw src dst tab m nn ((jqs l s).take j)) (jqs l s)[j]:=by rw [zcr hj2,z0b]
 have eg:(jqs l s)[j]=ps[j].g:=by simp [<- hps]
 have hgm:ps[j].g∈jqs l s:=by rw [<- eg]; exact List.getElem_mem hj2
 rw [eg] at hstep
 have hgok:=gf1 _ hgm
 have hgpj:=(hgp7 _ (List.getElem_mem hj')).move (T':=S6.length :: T) ⟨k8,λ i hi=>.inl hi⟩
 generalize z0a p inv s.tw src dst tab m nn ((jqs l s).take j)=pg at h8 m8 f1 f2 f4 f5 hstep
 obtain ⟨x,hxa,g0,g1,g2⟩:=(k8.ar hga7 (λ hne y hy=>by have:=hgb y hy;have:=hga.low (λ x=>⟨_,rfl⟩) hne y hy;intro hm;rcases List.mem_cons.1 hm with e | e;omega;have:=hTlt _ e;omega)).getGp hj'
 subst hxa
 have gi_in:∀ i∈ps[j].g.i,i < nn:=λ i hi=>List.mem_range.1 (gf2.mem_iff.1 (List.mem_flatMap.2 ⟨_,hgm,hi⟩))
 have go_in:∀ i∈ps[j].g.o,i < nn:=λ i hi=>List.mem_range.1 (gf3.mem_iff.1 (List.mem_flatMap.2 ⟨_,hgm,hi⟩))
 have gfc_in:∀ i∈ps[j].g.f,i < (zcd p l inv s).length:=λ i hi=>by rw [htl]; exact gf4 _ hgm i hi
 have gl5:ps[j].g.i.length<=5/\1<=ps[j].g.i.length:=by
  cases hw:s.tw with
  | true=>have:=hgok.t hw;omega
  | false=>have:=jqr hS hs hgm hw;omega
 clear eg
 generalize ps[j]=gp at hstep hgok hgpj g0 g1 g2 gi_in go_in gfc_in gl5 hgm
 obtain ⟨b0,b1,b2,g⟩:=gp
 dsimp only at hstep hgok g0 g1 g2 gi_in go_in gfc_in gl5 hgm
 simp only [wps,g0,g1,g2,sA0,j6u gA0,gcz,gcs]
 have pg9:=List.prefix_append S8 [j00.cells [.slice (some ⟨b0,0,none⟩) g.i.length g.i.length,.slice (some ⟨b1,0,none⟩) g.f.length g.f.length,.slice (some ⟨b2,0,none⟩) g.o.length g.o.length] 128 none]
 have x9:=jek (S:=S8) (o:=j00.cells [.slice (some ⟨b0,0,none⟩) g.i.length g.i.length,.slice (some ⟨b1,0,none⟩) g.f.length g.f.length,.slice (some ⟨b2,0,none⟩) g.o.length g.o.length] 128 none)
 generalize hS9:S8++[j00.cells [.slice (some ⟨b0,0,none⟩) g.i.length g.i.length,.slice (some ⟨b1,0,none⟩) g.f.length g.f.length,.slice (some ⟨b2,0,none⟩) g.o.length g.o.length] 128 none]=S9 at pg9 x9 ⊢
 have h9:=h8.pre pg9
 have gp9:=hgpj.move (T':=S6.length :: T) ⟨.of pg9,λ i hi=>.inl hi⟩
 have m9:=z1w pg9 m8
 have l8:=k8.len
 have l9:S9.length=S8.length+1:=by rw [<- hS9]; simp
 have noT:∀ i,i∉S6.length :: T->i∉T:=λ i hi hm=>hi (List.mem_cons_of_mem _ hm)
 have big:∀ i,S6.length < i->i∉S6.length :: T:=by
  intro i hi hm
  rcases List.mem_cons.1 hm with e | e
  ·omega
  ·have:=hTlt _ e;omega
 refine (jvt (C:=jvv [((129:Nat),jjq)] noC) (f:=src) (cc:=g.i.length) (λ _=>rfl) h9 (show S9[b0]? = some (jxp g.i) from gp9.i) (show b0∉T from noT _ gp9.n.1) (by omega) (λ i hi=>by have:=gi_in i hi;rw [f1]; omega) (by rw [f2]; omega) (by omega)).mono ?_
 rintro _ S10 ⟨rfl,k10,h10,w10⟩
 have hlA:=(Mm.rds_len (jyb src g.i) pg.1)
 have hokA:=(Mm.ok.rds (jyb src g.i) h9.ok)
 have x10:=k10.get x9 (noT _ (big _ (by omega)))
 have m10:=k10.get m9 hmT
 have gp10:=gp9.move (T':=S6.length :: T) ⟨k10.mono (λ i hi=>List.mem_cons_of_mem _ hi),λ i hi=>.inl hi⟩
 have l10:=k10.len
 simp only [wps,j6u x10,gcz,gcs]
 have hgfl:=hgok.f
 have hgol:=hgok.o
 refine (jvt (C:=jvv [((129:Nat),jjq)] noC) (f:=tab) (cc:=g.f.length) (λ _=>rfl) h10 (show S10[b1]? = some (jxp g.f) from gp10.f) (show b1∉T from noT _ gp10.n.2.1) (by omega) (λ i hi=>by have:=gfc_in i hi;rw [hlA.1,f1]; omega) (by rw [hlA.2.2.1,f2,List.length_map]; omega) (by omega)).mono ?_
 rintro _ S11 ⟨rfl,k11,h11,w11⟩
 have hlF:=(Mm.rds_len (jyb tab g.f) (pg.1.rds (jyb src g.i)).2)
 have hokF:=(Mm.ok.rds (jyb tab g.f) h10.ok)
 have x11:=k11.get x10 (noT _ (big _ (by omega)))
 have m11:=k11.get m10 hmT
 have wA11:=k11.get w10 (noT _ (big _ (by omega)))
 have gp11:=gp10.move (T':=S6.length :: T) ⟨k11.mono (λ i hi=>List.mem_cons_of_mem _ hi),λ i hi=>.inl hi⟩
 have l11:=k11.len
 have lAl:(pg.1.rds (jyb src g.i)).1.length=g.i.length:=by rw [hlA.2.1,List.length_map]
 have lFl:((pg.1.rds (jyb src g.i)).2.rds (jyb tab g.f)).1.length=g.i.length:=by rw [hlF.2.1,List.length_map,hgfl]
 have hwA:∀ y∈(pg.1.rds (jyb src g.i)).1,inU y:=λ y hy=>by have:=hokA.2 y hy;exact ⟨this.1,by have:=this.2;omega⟩
 have hwF:∀ y∈((pg.1.rds (jyb src g.i)).2.rds (jyb tab g.f)).1,inU y:=λ y hy=>by have:=hokF.2 y hy;exact ⟨this.1,by have:=this.2;omega⟩
 have hst2:(z0f p inv s.tw src dst tab pg g).1=((pg.1.rds (jyb src g.i)).2.rds (jyb tab g.f)).2.wrs ((jyb dst g.o).zip (List.zipWith (jxc p) (gyV p inv s.tw ((pg.1.rds (jyb src g.i)).1.map (red p))) ((pg.1.rds (jyb src g.i)).2.rds (jyb tab g.f)).1)):=rfl
 have hst3:(z0f p inv s.tw src dst tab pg g).2=z7b pg.2 (g.i.zip ((pg.1.rds (jyb src g.i)).1.map (red p))):=rfl
 have hf12:((pg.1.rds (jyb src g.i)).2.rds (jyb tab g.f)).2.W.length=m.W.length:=by rw [hlF.1,hlA.1,f1]
 have ht12:((pg.1.rds (jyb src g.i)).2.rds (jyb tab g.f)).2.t=pg.1.t+2*g.i.length:=by rw [hlF.2.2.1,hlA.2.2.1,List.length_map,List.length_map,hgfl]; omega
 generalize (pg.1.rds (jyb src g.i)).1=A at w10 wA11 lAl hwA hst2 hst3
 generalize ((pg.1.rds (jyb src g.i)).2.rds (jyb tab g.f)).1=F at w11 lFl hwF hst2
 generalize ((pg.1.rds (jyb src g.i)).2.rds (jyb tab g.f)).2=M2 at h11 hst2 hf12 ht12
 generalize hAr:A.map (red p)=Ar' at hst2 hst3
 have lAr:Ar'.length=g.i.length:=by rw [<- hAr,List.length_map,lAl]
 have hArin:∀ y∈Ar',inP p y:=by
  intro y hy;rw [<- hAr] at hy
  obtain ⟨z,_,rfl⟩:=List.mem_map.1 hy
  exact jrs hk _
 simp only [wps]
 refine zgd (λ st S' q=>∃ k:Nat,st=[vN k]/\q=g.i.length-k/\k<=g.i.length/\Kp [S9.length,S6.length] S11 S'/\S'[S9.length]? = some (.cells ((Ar'.take k++A.drop k).flatMap eU) 24 none)/\S'[S6.length]? = some (.cells ((z7b pg.2 ((g.i.zip Ar').take k)).flatMap eU) 24 none)) ?_ g.i.length _ _ ⟨0,rfl,rfl,by omega,.refl,by simpa using wA11,by simpa [z7b] using m11⟩
 rintro st S12 q ⟨k,rfl,rfl,hkk,k12,w12,m12⟩
 simp only [wps]
 have nb0:b0≠S9.length/\b0≠S6.length:=by
  have e1:=z1y (show S8[b0]? = some (jxp g.i) from hgpj.i)
  have e2:=hgpj.n.1
  refine ⟨by omega,λ e=>e2 (by show b0∈_;rw [e]; exact List.mem_cons_self)⟩
 have i12:S12[b0]? = some (jxp g.i):=k12.get gp11.i (by simp only [List.mem_cons,List.not_mem_nil,or_false]; show ¬ (b0=_\/b0=_); omega)
 have x12:=k12.get x11 (by simp only [List.mem_cons,List.not_mem_nil,or_false]; omega)
 have ww:=z1y w12
 have wm:=z1y m12
 have hne96:S9.length≠S6.length:=by omega
 refine ⟨λ hq3=>⟨hq3,?_⟩,λ hq3=>?_⟩
 ·have hk':k < g.i.length:=by omega
  have hkA:k < A.length:=by omega
  have hkr:k < Ar'.length:=by omega
  have lcur:(Ar'.take k++A.drop k).length=g.i.length:=by simp;omega
  have ecur:(Ar'.take k++A.drop k)[k]'(by omega)=A[k]:=by
   rw [List.getElem_append_right (by simp;omega)]
   simp [show min k Ar'.length=k by omega]
  have hu:=(Ob.refl (e:=eU) w12).u (i:=k) (by omega)
  rw [ecur] at hu
  have hred:=z5j (p:=p) (hwA _ (List.getElem_mem hkA))
  have eAr:red p A[k]=Ar'[k]:=by simp [<- hAr]
  rw [eAr] at hred
  have hput:=(Ob.refl (e:=eU) w12).put (w:=1) (λ _=>rfl) (i:=k) (by omega) Ar'[k]
  rw [Nat.mul_one,z86 (by omega) hkr] at hput
  have hc1:=jxr i12 hk'
  simp only [wps,hu,hred,w12]
  generalize hS13:List.set S12 S9.length _=S13
  rw [show splice ((Ar'.take k++A.drop k).flatMap eU) k (eU Ar'[k])=splice ((Ar'.take k++A.drop k).flatMap eU) k [vU Ar'[k]] from rfl,hS13] at hput
  have k13:∀ i,i≠S9.length->S13[i]? = S12[i]?:=λ i hi=>by rw [<- hS13]; exact List.getElem?_set_ne (Ne.symm hi)
  have x13:S13[S8.length]? = _:=(k13 _ (by omega)).trans x12
  have i13:S13[b0]? = _:=(k13 _ nb0.1).trans i12
  have m13:S13[S6.length]? = _:=(k13 _ (Ne.symm hne96)).trans m12
  have hc13:=jxr i13 hk'
  have hu13:=hput.u (i:=k) (by simp;omega)
  have e13:(Ar'.take (k+1)++A.drop (k+1))[k]'(by simp;omega)=Ar'[k]:=by
   rw [List.getElem_append_left (by simp;omega)]; simp
  rw [e13] at hu13
  have lM:(z7b pg.2 ((g.i.zip Ar').take k)).length=nn:=by rw [z7h,f4]
  have hgi:=gi_in _ (List.getElem_mem hk')
  simp only [wps,j6u x13,gcz,gcs,hc13,hu13,m13,Int.toNat_natCast]
  rw [wI_ (n:=(k:Int)+1) (by omega) (by omega)]
  have hputM:=(Ob.refl (e:=eU) m13).put (w:=1) (λ _=>rfl) (i:=g.i[k]) (by omega) Ar'[k]
  have hzk:k < (g.i.zip Ar').length:=by rw [List.length_zip]; omega
  have ezk:(g.i.zip Ar')[k]=(g.i[k],Ar'[k]):=by simp
  have hsc:=z7j (M:=pg.2) hzk
  rw [ezk] at hsc
  rw [Nat.mul_one,<- hsc] at hputM
  refine ⟨by omega,by rw [jcv (e:=eU) (w:=1) (λ _=>rfl)]; omega,by omega,by omega,by omega,by rw [jcv (e:=eU) (w:=1) (λ _=>rfl)]; omega,g.i.length-(k+1),by omega,k+1,rfl,rfl,by omega,?_,?_,hputM.at_⟩
  ·have hl13:S13.length=S12.length:=by rw [<- hS13,List.length_set]
   refine k12.trans ⟨by rw [List.length_set]; omega,λ i hi hn=>?_⟩
   simp only [List.mem_cons,List.not_mem_nil,or_false,not_or] at hn
   rw [List.getElem?_set_ne (Ne.symm hn.2),k13 i hn.1]
  ·rw [List.getElem?_set_ne (Ne.symm hne96)]; exact hput.at_
 ·obtain rfl:k=g.i.length:=by omega
  rw [List.take_of_length_le (by omega),List.drop_of_length_le (by omega),List.append_nil] at w12
  rw [List.take_of_length_le (by rw [List.length_zip]; omega)] at m12
  have l12:=k12.len
  have q10:=z1y w10
  have q11:=z1y w11
  have d12:∀ i∈T,i∉[S9.length,S6.length]:=by
   intro i hi
   simp only [List.mem_cons,List.not_mem_nil,or_false]
   rintro (e | e)
   ·exact noT _ (big S9.length (by omega)) (e ▸ hi)
   ·exact hmT (e ▸ hi)
  have h12:=h11.kp k12 d12
  have f12:=k12.get w11 (by simp only [List.mem_cons,List.not_mem_nil,or_false]; omega)
  have e2:=z1y (show S8[b2]? = some (jxp g.o) from hgpj.o)
  have nb2:b2≠S9.length/\b2≠S6.length:=by
   refine ⟨by omega,λ e=>hgpj.n.2.2 (by show b2∈_;rw [e]; exact List.mem_cons_self)⟩
  have o12:S12[b2]? = some (jxp g.o):=k12.get gp11.o (by simp only [List.mem_cons,List.not_mem_nil,or_false]; show ¬ (b2=_\/b2=_); omega)
  have sT:S.length∉S6.length :: T:=nT7 _ (by omega) (by omega)
  have kk8:Kp (S6.length :: T) S7 S11:=(k8.more pg9).trans ((k10.mono λ i hi=>List.mem_cons_of_mem _ hi).trans (k11.mono λ i hi=>List.mem_cons_of_mem _ hi))
  have z12:=k12.get (kk8.get z7 sT) (by simp only [List.mem_cons,List.not_mem_nil,or_false]; omega)
  have kk12:Kp (S6.length :: T) S7 S12:=⟨by have:=kk8.len;omega,λ i hi hn=>by
   rw [k12.keep i (by have:=kk8.len;omega) (by simp only [List.mem_cons,List.not_mem_nil,or_false]; rintro (e | e); omega;exact hn (e ▸ List.mem_cons_self)),kk8.keep i hi hn]⟩
  have hi1:∀ i∈g.o,dst+(i:Int) < M2.W.length:=λ i hi=>by have:=go_in i hi;rw [hf12]; omega
  have ht1:0<=M2.t/\M2.t+g.i.length < 4611686018427387904:=by rw [ht12,f2]; omega
  have hnext:∀ (S14:St) (yb:Nat) (Yl:List Int) (gy:Option Nat),S12 <+: S14->S14[yb]? = some (.cells (Yl.flatMap eU) 24 gy)->yb∉S6.length :: T->S7.length<=yb->yb≠S8.length->b2≠yb->S10.length≠yb->Yl=gyV p inv s.tw Ar' ->
   WP (jtk (some ⟨b,0,none⟩) p dst (S.length+1) (S.length+2) (j:Int) S8.length ⟨some ⟨S10.length,0,none⟩,g.f.length,g.f.length⟩ (0,[.slice (some ⟨yb,0,none⟩) g.i.length g.i.length])) S14 λ q S'=>q=(0,[vI (wI ((j:Int)+1))])/\Kp (S6.length :: T) S7 S'/\MS S' b (z0f p inv s.tw src dst tab pg g).1 T/\S'[S6.length]? = some (.cells ((z0f p inv s.tw src dst tab pg g).2.flatMap eU) 24 none):=by
   intro S14 yb Yl gy q14 hy14 hyT hyl hy8 hyb2 hyf hYl
   have lYl:Yl.length=g.i.length:=by rw [hYl,jr3,lAr]
   have hYu:∀ y∈Yl,inU y:=by
    intro y hy
    rw [hYl] at hy
    unfold gyV at hy
    split at hy
    ·exact jru hk (hArin y hy)
    ·exact jru hk (jd4 hk y hy)
   have hr1:=z6q (p:=p) (dst:=dst) (n2:=(j:Int)) (n:=S.length+1) (n1:=S.length+2) (len:=g.i.length) (h12.pre q14) (by have:=z1w q14 x12;rw [hgol] at this;exact this) (z1w q14 o12) (z1w q14 f12) hy14 ⟨noT _ (big S8.length (by omega)),noT _ hgpj.n.2.2,noT _ (big S10.length (by omega)),noT _ hyT⟩ ⟨Ne.symm hy8,hyb2,hyf⟩ hgol lFl lYl hYu hwF (by omega) hi1 ht1 (by omega)
   rw [hgfl]
   refine hr1.mono ?_
   rintro q S15 ⟨rfl,k15,h15⟩
   have l14:=q14.length_le
   have lkk:=kk12.len
   refine ⟨rfl,⟨by have:=k15.len;omega,λ i hi hn=>?_⟩,?_,?_⟩
   ·rw [k15.keep i (by omega) (by intro hm;rcases List.mem_cons.1 hm with e | e;omega;exact noT _ hn e),z1u q14 (by omega),kk12.keep i hi hn]
   ·rw [hst2,<- hYl]; exact h15
   ·rw [hst3]
    exact k15.get (z1w q14 m12) (by intro hm;rcases List.mem_cons.1 hm with e | e;exact hyT (e ▸ List.mem_cons_self); exact hmT e)
  have hend:∀ (S15:St),Kp (S6.length :: T) S7 S15/\MS S15 b (z0f p inv s.tw src dst tab pg g).1 T/\S15[S6.length]? = some (.cells ((z0f p inv s.tw src dst tab pg g).2.flatMap eU) 24 none)->∃ n' < (jqs l s).length-j,∃ j_1:Nat,[vI (wI ((j:Int)+1))]=[vN j_1]/\n'=(jqs l s).length-j_1/\j_1<=(jqs l s).length/\Kp (S6.length :: T) S7 S15/\MS S15 b (z0a p inv s.tw src dst tab m nn ((jqs l s).take j_1)).1 T/\S15[S6.length]? = some (.cells ((z0a p inv s.tw src dst tab m nn ((jqs l s).take j_1)).2.flatMap eU) 24 none):=by
   rintro S15 ⟨e1,e2,e3⟩
   rw [wI_ (n:=(j:Int)+1) (by omega) (by omega)]
   exact ⟨(jqs l s).length-(j+1),by omega,j+1,rfl,rfl,by omega,e1,by rw [hstep]; exact e2,by rw [hstep]; exact e3⟩
  simp only [wps,j6u z12,gcz,gcs]
  refine ⟨λ hw=>?_,λ hw=>?_⟩
  ·have hroot:=jqr hS hs hgm hw
   have arW:Ar S12 (some ⟨S9.length,0,none⟩) g.i.length 1 eU Ar':=by rw [<- lAr]; exact Ar.blk w12 (λ _ _=>rfl) rfl
   refine (jbw (c:=g.i.length) (inv:=inv) arW ⟨hroot.1,hroot.2.1⟩ hroot.2.2 hArin).mono ?_
   rintro _ S14 ⟨yb,rfl,hN⟩
   obtain ⟨gy,hy14⟩:=hN.at_
   have hlt:=hN.lt
   simp only [wps]
   refine WP.mono (hnext S14 yb _ gy hN.p hy14 (big _ (by omega)) (by omega) (by omega) (by omega) (by omega) (by rw [hw]; simp [gyV])) ?_
   rintro q S15 ⟨rfl,hR⟩
   exact hend S15 hR
  ·refine WP.mono (hnext S12 S9.length _ none List.prefix_rfl w12 (big _ (by omega)) (by omega) (by omega) nb2.1 (by omega) (by rw [hw]; simp [gyV])) ?_
   rintro q S15 ⟨rfl,hR⟩
   exact hend S15 hR
theorem j1q {m:Mm} (h:m.L=[]):m.acc=⟨m.W,[],m.t+1,m.ah⟩:=by
 unfold Mm.acc jaa ju8;rw [h]; rfl
theorem zgu {m:Mm} (h:m.L=[]) (a w:Int):m.wr a w=⟨m.W.set a.toNat w,[],m.t+1,m.ah⟩:=by
 unfold Mm.wr;rw [j1q h]
theorem jvo:gyV P1 false false [3,5]=[8,998244351]:=by
 unfold gyV
 rw [if_neg (by simp),zed (by decide)]
 decide +kernel
theorem jvq:zcd P1 [⟨2,false⟩] false ⟨0,false,⟨2,1,1⟩⟩=[1,1]:=by
 have hk:jt3 P1=true:=by decide
 unfold zcd
 rw [if_neg (by simp)]
 show z6j P1 _ 2 1=_
 simp only [z6j,List.nil_append]
 rw [z1k _ hk]
 simp [z1q,z1h hk,List.range_succ]
theorem jvp:jqs [⟨2,false⟩] ⟨0,false,⟨2,1,1⟩⟩=[⟨[0,1],[0,1],[0,1]⟩]:=by kernel_rfl
theorem z0j {m:Mm} {p:Int} {l:List Ax} {inv:Bool} {s:Stp} {src dst tab:Int} :
 ((z0h m p l inv s src dst tab).1.2≠0/\z0h m p l inv s src dst tab=(((0,0),(z0h m p l inv s src dst tab).1.2),m)) \/
 ((z0h m p l inv s src dst tab).1.2=0/\(z0h m p l inv s src dst tab).2.t=m.t+3*nV l+6/\(z0h m p l inv s src dst tab).2.W.length=m.W.length/\inP p (z0h m p l inv s src dst tab).1.1.1/\inP p (z0h m p l inv s src dst tab).1.1.2/\zam p l s=0):=by
 unfold z0h
 by_cases hs:zam p l s=0
 ·rw [if_pos hs]
  by_cases hc:m.hasN src (nV l+6)=true/\m.hasN dst (nV l+6)=true/\m.hasN tab (zcd p l inv s).length=true
  ·rw [if_pos hc]
   right
   have hk:=zaq hs
   obtain ⟨k,d,inner,nn,mm,hS⟩:=zas hs
   obtain ⟨gf1,gf2,gf3,gf4,gf5⟩:=jqt hS
   obtain ⟨f1,f2,f3,f4,f5⟩:=z0c (inv:=inv) (src:=src) (dst:=dst) (tab:=tab) (m:=m) (n:=nn) hk (jqs l s) (m,List.replicate (nV l).toNat 0) gf1
   obtain ⟨u1,u2⟩:=z29 (inv:=inv) (tw:=s.tw) (tab:=zcd p l inv s) (x:=(z0a p inv s.tw src dst tab m (nV l).toNat (jqs l s)).2) hk (jqs l s) (0,0) ⟨jrv hk,jrv hk⟩
   have hfl:=jqw hS
   have hnn:=hS.nn
   obtain ⟨w1,w2,w3⟩:=Mm.wrs_len ((jyb (dst+nV l) [0,1,2,3,4,5]).zip (z97 (z26 p inv s.tw (jqs l s) (zcd p l inv s) (z0a p inv s.tw src dst tab m (nV l).toNat (jqs l s)).2))) (z0a p inv s.tw src dst tab m (nV l).toNat (jqs l s)).1
   refine ⟨rfl,?_,?_,u1,u2,hs⟩
   ·dsimp only
    rw [w2]
    have e:(z0a p inv s.tw src dst tab m (nV l).toNat (jqs l s)).1.t=m.t+3*((jqs l s).flatMap GrN.i).length:=f2
    rw [e,hfl,hnn]
    simp [z97]
   ·dsimp only;rw [w1]; exact f1
  ·rw [if_neg hc]; left;exact ⟨by simp,rfl⟩
 ·rw [if_neg hs]; left;exact ⟨hs,rfl⟩
def zh9 (W:List Int) (l:List (Int×Int)):List Int:=l.foldl (λ w e=>w.set e.1.toNat e.2) W
theorem zhd:∀ (l:List (Int×Int)) (W:List Int),(zh9 W l).length=W.length
 | [], W => rfl
 | e :: l, W => by rw [zh9, List.foldl_cons]; exact (zhd l _).trans (by simp)
theorem zha (W:List Int) (l k:List (Int×Int)):zh9 W (l++k)=zh9 (zh9 W l) k:=by unfold zh9;rw [List.foldl_append]
theorem zhe:∀ (l:List (Int×Int)) (W:List Int) (i:Nat),(∀ e∈l,e.1.toNat≠i)->(zh9 W l)[i]? = W[i]?
 | [], W, i, h => rfl
 | e :: l, W, i, h => by
   rw [zh9,List.foldl_cons]
   exact (zhe l _ i λ e' he'=>h e' (by simp [he'])).trans (by rw [List.getElem?_set_ne (h e (by simp))])
theorem zhc {P:Int->Prop}:∀ (l:List (Int×Int)) (W:List Int) (i:Nat),i < W.length->(∀ e∈l,P e.2)->((∃ e∈l,e.1.toNat=i)\/∃ v,W[i]? = some v/\P v)->∃ v,(zh9 W l)[i]? = some v/\P v
 | [], W, i, hi, _, h => by
   rcases h with ⟨e,he,_⟩ | h
   ·cases he
   ·exact h
 | e :: l, W, i, hi, hP, h => by
   rw [zh9,List.foldl_cons]
   refine zhc l _ i (by simpa using hi) (λ e' he'=>hP e' (by simp [he'])) ?_
   by_cases hc:e.1.toNat=i
   ·right;exact ⟨e.2,by rw [<- hc,List.getElem?_set_self (by omega)],hP e (by simp)⟩
   ·rcases h with ⟨e',he',hi'⟩ | ⟨v,hv,hp⟩
    ·rcases List.mem_cons.1 he' with rfl | he'
     ·exact absurd hi' hc
     ·exact .inl ⟨e',he',hi'⟩
    ·exact .inr ⟨v,by rw [List.getElem?_set_ne hc]; exact hv,hp⟩
theorem z54:∀ (l:List Int) (m:Mm),m.L=[]->m.rds l=(l.map λ a=>m.W.getD a.toNat 0,⟨m.W,[],m.t+l.length,m.ah⟩)
 | [], m, h => by simp [Mm.rds]; rw [<- h]
 | a :: l, m, h => by
   have e:(m.rd a).2=⟨m.W,[],m.t+1,m.ah⟩:=j1q h
   have e1:(m.rd a).1=m.W.getD a.toNat 0:=by unfold Mm.rd;rw [j1q h]
   rw [Mm.rds,e,e1,z54 l _ rfl]
   simp;omega
theorem zh5:∀ (l:List (Int×Int)) (m:Mm),m.L=[]->m.wrs l=⟨zh9 m.W l,[],m.t+l.length,m.ah⟩
 | [], m, h => by simp [Mm.wrs, zh9]; rw [<- h]
 | e :: l, m, h => by
   rw [Mm.wrs,zgu h,zh5 l _ rfl]
   simp [zh9]; omega
section
variable {p:Int} {inv tw:Bool} {src dst tab:Int}
theorem zar (hk:jt3 p=true) {g:GrN} (hg:g.ok tw) {st:Mm×List Int} (h:st.1.L=[]):∃ L:List (Int×Int),(z0f p inv tw src dst tab st g).1.W=zh9 st.1.W L/\L.map (·.1)=jyb dst g.o/\(∀ e∈L,inP p e.2)/\(z0f p inv tw src dst tab st g).1.L=[]:=by
 have hz:=zhz (p:=p) (inv:=inv) (src:=src) (tab:=tab) hg st.1
 unfold z0f
 have h1:(st.1.rds (jyb src g.i)).2.L=[]:=by rw [z54 _ _ h]
 have h2:((st.1.rds (jyb src g.i)).2.rds (jyb tab g.f)).2.L=[]:=by rw [z54 _ _ h1]
 have h3:((st.1.rds (jyb src g.i)).2.rds (jyb tab g.f)).2.W=st.1.W:=by rw [z54 _ _ h1]; rw [z54 _ _ h]
 refine ⟨(jyb dst g.o).zip (List.zipWith (jxc p) (gyV p inv tw ((st.1.rds (jyb src g.i)).1.map (red p))) ((st.1.rds (jyb src g.i)).2.rds (jyb tab g.f)).1),?_,?_,?_,?_⟩
 ·dsimp only;rw [zh5 _ _ h2,h3]
 ·rw [List.map_fst_zip]; rw [hz,List.length_map,hg.o]; omega
 ·intro e he
  obtain ⟨i,hi,hx⟩:=List.mem_iff_getElem.1 (List.of_mem_zip he).2
  rw [List.getElem_zipWith] at hx
  rw [<- hx]; exact jrq hk _ _
 ·dsimp only;rw [zh5 _ _ h2]
theorem zb0 (hk:jt3 p=true):∀ (gs:List GrN) (st:Mm×List Int),(∀ g∈gs,g.ok tw)->st.1.L=[]->∃ L:List (Int×Int),(gs.foldl (z0f p inv tw src dst tab) st).1.W=zh9 st.1.W L/\L.map (·.1)=jyb dst (gs.flatMap GrN.o)/\(∀ e∈L,inP p e.2)/\(gs.foldl (z0f p inv tw src dst tab) st).1.L=[]
 | [], st, _, h => ⟨[], rfl, rfl, by simp, h⟩
 | g :: gs, st, hg, h => by
   obtain ⟨L1,a1,a2,a3,a4⟩:=zar (inv:=inv) (src:=src) (dst:=dst) (tab:=tab) hk (hg g (by simp)) h
   obtain ⟨L2,b1,b2,b3,b4⟩:=zb0 hk gs (z0f p inv tw src dst tab st g) (λ g' hg'=>hg g' (by simp [hg'])) a4
   refine ⟨L1++L2,by rw [List.foldl_cons,b1,a1,zha],by rw [List.map_append,a2,b2,List.flatMap_cons]; exact (List.map_append ..).symm,λ e he=>?_,b4⟩
   rcases List.mem_append.1 he with he | he
   ·exact a3 e he
   ·exact b3 e he
end
theorem z0k {m:Mm} (hL:m.L=[]) {p:Int} {l:List Ax} {inv:Bool} {s:Stp} {src dst tab:Int} (h0:(z0h m p l inv s src dst tab).1.2=0) :
 ∃ nn d:Nat,nV l=nn/\dst=d/\d+nn+6<=m.W.length/\jt3 p=true/\(z0h m p l inv s src dst tab).2.W.length=m.W.length/\(allV (j9y l)).2=0/\1<=nn/\nn<=4096 /\
  (∀ i,i < d\/d+nn+6<=i->(z0h m p l inv s src dst tab).2.W[i]? = m.W[i]?)/\∀ i,d<=i->i < d+nn+6->∃ v,(z0h m p l inv s src dst tab).2.W[i]? = some v/\inP p v:=by
 have hs:zam p l s=0:=by
  rcases (z0j (m:=m) (p:=p) (l:=l) (inv:=inv) (s:=s) (src:=src) (dst:=dst) (tab:=tab)) with ⟨h,_⟩ | h
  ·exact absurd h0 h
  ·exact h.2.2.2.2.2
 have hc:m.hasN src (nV l+6)=true/\m.hasN dst (nV l+6)=true/\m.hasN tab (zcd p l inv s).length=true:=by
  by_cases hc:m.hasN src (nV l+6)=true/\m.hasN dst (nV l+6)=true/\m.hasN tab (zcd p l inv s).length=true
  ·exact hc
  ·unfold z0h at h0;rw [if_pos hs,if_neg hc] at h0;simp at h0
 have hk:=zaq hs
 obtain ⟨hg,_⟩:=zan hs
 obtain ⟨_,hal,_⟩:=jqn hg
 obtain ⟨k,dd,inner,nn,mm,hS⟩:=zas hs
 obtain ⟨gf1,gf2,gf3,gf4,gf5⟩:=jqt hS
 have hnn:=hS.nn
 have hn1:=hS.n1
 obtain ⟨r4,r5,r6⟩:=jr6 hc.2.1
 obtain ⟨d,rfl⟩:=Int.eq_ofNat_of_zero_le r4
 obtain ⟨L,a1,a2,a3,a4⟩:=zb0 (inv:=inv) (src:=src) (dst:=(d:Int)) (tab:=tab) hk (jqs l s) (m,List.replicate (nV l).toNat 0) gf1 hL
 have hV:z0h m p l inv s src d tab=((z26 p inv s.tw (jqs l s) (zcd p l inv s) (z0a p inv s.tw src d tab m (nV l).toNat (jqs l s)).2,0),(z0a p inv s.tw src d tab m (nV l).toNat (jqs l s)).1.wrs ((jyb (d+nV l) [0,1,2,3,4,5]).zip (z97 (z26 p inv s.tw (jqs l s) (zcd p l inv s) (z0a p inv s.tw src d tab m (nV l).toNat (jqs l s)).2)))):=by unfold z0h;rw [if_pos hs,if_pos hc]
 obtain ⟨u1,u2⟩:=z29 (inv:=inv) (tw:=s.tw) (tab:=zcd p l inv s) (x:=(z0a p inv s.tw src d tab m (nV l).toNat (jqs l s)).2) hk (jqs l s) (0,0) ⟨jrv hk,jrv hk⟩
 have u1:inP p (z26 p inv s.tw (jqs l s) (zcd p l inv s) (z0a p inv s.tw src d tab m (nV l).toNat (jqs l s)).2).1:=u1
 have u2:inP p (z26 p inv s.tw (jqs l s) (zcd p l inv s) (z0a p inv s.tw src d tab m (nV l).toNat (jqs l s)).2).2:=u2
 have a1:(z0a p inv s.tw src d tab m (nV l).toNat (jqs l s)).1.W=zh9 m.W L:=a1
 have a4:(z0a p inv s.tw src d tab m (nV l).toNat (jqs l s)).1.L=[]:=a4
 rw [hV]
 dsimp only
 generalize z26 p inv s.tw (jqs l s) (zcd p l inv s) (z0a p inv s.tw src d tab m (nV l).toNat (jqs l s)).2=Q at u1 u2 ⊢
 generalize z0a p inv s.tw src d tab m (nV l).toNat (jqs l s)=PG at a1 a4 ⊢
 rw [zh5 _ _ a4,a1]
 dsimp only
 rw [<- zha]
 have hmem:∀ e∈L++(jyb ((d:Int)+nV l) [0,1,2,3,4,5]).zip (z97 Q),(d<=e.1.toNat/\e.1.toNat < d+nn+6)/\inP p e.2:=by
  intro e he
  rcases List.mem_append.1 he with he | he
  ·refine ⟨?_,a3 e he⟩
   have : e.1∈L.map (·.1):=List.mem_map_of_mem he
   rw [a2] at this
   obtain ⟨i,hi,hx⟩:=List.mem_map.1 this
   have:=List.mem_range.1 (gf3.mem_iff.1 hi)
   rw [<- hx]; omega
  ·have hm:=List.of_mem_zip he
   obtain ⟨i,hi,hx⟩:=List.mem_map.1 hm.1
   have hi5:i<=5:=by simp only [List.mem_cons,List.not_mem_nil,or_false] at hi;omega
   refine ⟨by rw [<- hx,hnn]; omega,?_⟩
   have : e.2=Q.1\/e.2=Q.2:=by
    have:=hm.2
    simp only [z97,List.mem_cons,List.not_mem_nil,or_false] at this;omega
   rcases this with h | h <;> rw [h] <;> assumption
 refine ⟨nn,d,hnn,rfl,by omega,hk,zhd _ _,hal,by omega,by omega,λ i hi=>?_,λ i hi1 hi2=>?_⟩
 ·exact zhe _ _ i λ e he=>by have:=(hmem e he).1;omega
 ·refine zhc _ _ i (by omega) (λ e he=>(hmem e he).2) (.inl ?_)
  by_cases hc2:i < d+nn
  ·have hin:(i-d)∈(jqs l s).flatMap GrN.o:=gf3.mem_iff.2 (List.mem_range.2 (by omega))
   have : ((d:Int)+((i-d:Nat):Int))∈L.map (·.1):=by rw [a2]; exact List.mem_map_of_mem hin
   obtain ⟨e,he,hx⟩:=List.mem_map.1 this
   exact ⟨e,List.mem_append_left _ he,by rw [hx]; omega⟩
  ·have : ∀ j (hj:j < 6),∃ e∈(jyb ((d:Int)+nV l) [0,1,2,3,4,5]).zip (z97 Q),e.1=(d:Int)+nV l+(j:Nat):=by
    intro j hj
    have hl:j < ((jyb ((d:Int)+nV l) [0,1,2,3,4,5]).zip (z97 Q)).length:=by simp [z97]; omega
    refine ⟨_,List.getElem_mem hl,?_⟩
    rw [List.getElem_zip]
    dsimp only
    rw [List.getElem_map]
    have : ([0,1,2,3,4,5]:List Nat)[j]'(by simpa using hj)=j:=by
     rcases (show j=0\/j=1\/j=2\/j=3\/j=4\/j=5 by omega) with rfl | rfl | rfl | rfl | rfl | rfl <;> rfl
    rw [this]
   obtain ⟨e,he,hx⟩:=this (i-d-nn) (by omega)
   exact ⟨e,List.mem_append_right _ he,by rw [hx,hnn]; omega⟩
theorem zhb {W:List Int} {l:List (Int×Int)} {i:Nat} (h:∀ e∈l,e.1.toNat≠i):(zh9 W l).getD i 0=W.getD i 0:=by
 rw [List.getD_eq_getElem?_getD,zhe l W i h,List.getD_eq_getElem?_getD]
theorem zi0 {α:Type} (f:Nat->α):∀ l:List Nat,l.zip (l.map f)=l.map λ i=>(i,f i)
 | [] => rfl
 | a :: l => by simp [zi0 f l]
section
variable {p:Int} {inv tw:Bool} {src dst tab:Int}
theorem zaz (hk:jt3 p=true) {X:Nat->Int} {n:Nat} (hdis:∀ i o:Nat,i < n->o < n->(dst+(o:Int)).toNat≠(src+(i:Int)).toNat):∀ (gs:List GrN) (st:Mm×List Int),(∀ g∈gs,g.ok tw)->(∀ g∈gs,∀ i∈g.i,i < n)->(∀ g∈gs,∀ i∈g.o,i < n)->st.1.L=[]->(∀ i:Nat,i < n->st.1.W.getD (src+(i:Int)).toNat 0=X i) ->
 (gs.foldl (z0f p inv tw src dst tab) st).2=z7b st.2 ((gs.flatMap GrN.i).map λ i=>(i,red p (X i)))
 | [], st, _, _, _, _, _ => rfl
 | g :: gs, st, hg, hi, ho, hL, hX => by
   obtain ⟨L,a1,a2,a3,a4⟩:=zar (inv:=inv) (src:=src) (dst:=dst) (tab:=tab) hk (hg g (by simp)) hL
   have e2:(z0f p inv tw src dst tab st g).2=z7b st.2 (g.i.map λ i=>(i,red p (X i))):=by
    unfold z0f
    dsimp only
    rw [z54 _ _ hL]
    dsimp only
    rw [List.map_map,List.map_map,zi0]
    congr 1
    apply List.map_congr_left
    intro i hi'
    simp only [Function.comp]
    rw [hX i (hi g (by simp) i hi')]
   have hW:∀ i:Nat,i < n->(z0f p inv tw src dst tab st g).1.W.getD (src+(i:Int)).toNat 0=X i:=λ i hin=>by
    rw [a1,zhb,hX i hin]
    intro e he
    have : e.1∈L.map (·.1):=List.mem_map_of_mem he
    rw [a2] at this
    obtain ⟨o,ho',hx⟩:=List.mem_map.1 this
    rw [<- hx]
    exact hdis i o hin (ho g (by simp) o ho')
   rw [List.foldl_cons,zaz hk hdis gs _ (λ g' h'=>hg g' (by simp [h'])) (λ g' h'=>hi g' (by simp [h'])) (λ g' h'=>ho g' (by simp [h'])) a4 hW,e2,List.flatMap_cons,List.map_append,z7c]
end
theorem z7k (f:Nat->Int) {l:List Nat} {n:Nat} (h:l.Perm (List.range n)):z7b (List.replicate n 0) (l.map λ i=>(i,f i))=(List.range n).map f:=by
 apply List.ext_getElem?
 intro i
 by_cases hi:i < n
 ·have hmem:i∈l:=h.mem_iff.2 (List.mem_range.2 hi)
  have hnd:((l.map λ i=>(i,f i)).map (·.1)).Nodup:=by
   rw [List.map_map]
   have : ((λ x:Nat×Int=>x.1) ∘ λ i=>(i,f i))=id:=rfl
   rw [this,List.map_id]
   exact h.symm.nodup List.nodup_range
  have:=z7d (l.map λ i=>(i,f i)) (List.replicate n 0) hnd (i,f i) (List.mem_map.2 ⟨i,hmem,rfl⟩) (by simpa using hi)
  rw [this,List.getElem?_map,List.getElem?_range hi]; rfl
 ·rw [List.getElem?_eq_none (by rw [z7h]; simpa using hi),List.getElem?_eq_none (by simpa using hi)]
theorem z0e {m:Mm} (hL:m.L=[]) {p:Int} {l:List Ax} {inv:Bool} {s:Stp} {src dst tab:Int} (h0:(z0h m p l inv s src dst tab).1.2=0) (hd:dst+nV l+6<=src\/src+nV l+6<=dst) :
 ∃ nn d sr:Nat,nV l=nn/\dst=d/\src=sr/\d+nn+6<=m.W.length/\sr+nn+6<=m.W.length/\jt3 p=true/\zam p l s=0/\1<=nn/\nn<=4096 /\
  (z0h m p l inv s src dst tab).2.W.length=m.W.length /\
  (z0h m p l inv s src dst tab).1.1=z26 p inv s.tw (jqs l s) (zcd p l inv s) (((m.W.drop sr).take nn).map (red p)) /\
  ((z0h m p l inv s src dst tab).2.W.drop (d+nn)).take 6=z97 (z0h m p l inv s src dst tab).1.1:=by
 have hs:zam p l s=0:=by
  rcases (z0j (m:=m) (p:=p) (l:=l) (inv:=inv) (s:=s) (src:=src) (dst:=dst) (tab:=tab)) with ⟨h,_⟩ | h
  ·exact absurd h0 h
  ·exact h.2.2.2.2.2
 have hc:m.hasN src (nV l+6)=true/\m.hasN dst (nV l+6)=true/\m.hasN tab (zcd p l inv s).length=true:=by
  by_cases hc:m.hasN src (nV l+6)=true/\m.hasN dst (nV l+6)=true/\m.hasN tab (zcd p l inv s).length=true
  ·exact hc
  ·unfold z0h at h0;rw [if_pos hs,if_neg hc] at h0;simp at h0
 have hk:=zaq hs
 obtain ⟨k,dd,inner,nn,mm,hS⟩:=zas hs
 obtain ⟨gf1,gf2,gf3,gf4,gf5⟩:=jqt hS
 have hnn:=hS.nn
 have hn1:=hS.n1
 obtain ⟨r4,r5,r6⟩:=jr6 hc.2.1
 obtain ⟨s4,s5,s6⟩:=jr6 hc.1
 obtain ⟨d,rfl⟩:=Int.eq_ofNat_of_zero_le r4
 obtain ⟨sr,rfl⟩:=Int.eq_ofNat_of_zero_le s4
 obtain ⟨L,a1,a2,a3,a4⟩:=zb0 (inv:=inv) (src:=(sr:Int)) (dst:=(d:Int)) (tab:=tab) hk (jqs l s) (m,List.replicate (nV l).toNat 0) gf1 hL
 have hi:∀ g∈jqs l s,∀ i∈g.i,i < nn:=λ g hg i hi=>List.mem_range.1 (gf2.mem_iff.1 (List.mem_flatMap.2 ⟨g,hg,hi⟩))
 have ho:∀ g∈jqs l s,∀ i∈g.o,i < nn:=λ g hg i hi=>List.mem_range.1 (gf3.mem_iff.1 (List.mem_flatMap.2 ⟨g,hg,hi⟩))
 have met:=zaz (inv:=inv) (tw:=s.tw) (src:=(sr:Int)) (dst:=(d:Int)) (tab:=tab) hk (X:=λ i=>m.W.getD (sr+i) 0) (n:=nn) (λ i o hi ho=>by rw [hnn] at hd;omega) (jqs l s) (m,List.replicate (nV l).toNat 0) gf1 hi ho hL (λ i hin=>by
  dsimp only
  rw [show ((sr:Int)+(i:Int)).toNat=sr+i by omega])
 have en:(nV l).toNat=nn:=by rw [hnn]; rfl
 dsimp only at met
 have whole:=z7k (λ i=>red p (m.W.getD (sr+i) 0)) gf2
 rw [en] at met
 rw [whole] at met
 have hx:(List.range nn).map (λ i=>red p (m.W.getD (sr+i) 0))=((m.W.drop sr).take nn).map (red p):=by
  apply List.ext_getElem
  ·simp;omega
  ·intro i h1 h2
   simp at h1
   rw [List.getElem_map,List.getElem_map,List.getElem_take,List.getElem_drop,List.getElem_range,List.getD_eq_getElem?_getD,List.getElem?_eq_getElem (by omega)]
   rfl
 rw [hx] at met
 have hV:z0h m p l inv s sr d tab=((z26 p inv s.tw (jqs l s) (zcd p l inv s) (z0a p inv s.tw sr d tab m (nV l).toNat (jqs l s)).2,0),(z0a p inv s.tw sr d tab m (nV l).toNat (jqs l s)).1.wrs ((jyb (d+nV l) [0,1,2,3,4,5]).zip (z97 (z26 p inv s.tw (jqs l s) (zcd p l inv s) (z0a p inv s.tw sr d tab m (nV l).toNat (jqs l s)).2)))):=by unfold z0h;rw [if_pos hs,if_pos hc]
 have a1:(z0a p inv s.tw sr d tab m (nV l).toNat (jqs l s)).1.W=zh9 m.W L:=a1
 have a4:(z0a p inv s.tw sr d tab m (nV l).toNat (jqs l s)).1.L=[]:=a4
 have met:(z0a p inv s.tw sr d tab m nn (jqs l s)).2=((m.W.drop sr).take nn).map (red p):=met
 rw [hV]
 dsimp only
 rw [en] at a1 a4 ⊢
 rw [met]
 generalize hQ:z26 p inv s.tw (jqs l s) (zcd p l inv s) (((m.W.drop sr).take nn).map (red p))=Q
 generalize z0a p inv s.tw sr d tab m nn (jqs l s)=PG at a1 a4 ⊢
 rw [zh5 _ _ a4,a1]
 dsimp only
 refine ⟨nn,d,sr,hnn,rfl,rfl,by omega,by omega,hk,hs,by omega,by omega,by rw [zhd,zhd],hQ.symm,?_⟩
 have hl:(zh9 m.W L).length=m.W.length:=zhd _ _
 generalize zh9 m.W L=W1 at hl
 rw [hnn]
 have eo:jyb ((d:Int)+(nn:Int)) [0,1,2,3,4,5]=[((d+nn:Nat):Int),((d+nn+1:Nat):Int),((d+nn+2:Nat):Int),((d+nn+3:Nat):Int),((d+nn+4:Nat):Int),((d+nn+5:Nat):Int)]:=by
  simp [jyb] <;> omega
 rw [eo]
 unfold z97 zh9
 simp only [List.zip_cons_cons,List.zip_nil_right,List.foldl_cons,List.foldl_nil,Int.toNat_natCast]
 apply List.ext_getElem?
 intro i
 by_cases h6:i < 6
 ·rw [List.getElem?_take,if_pos h6,List.getElem?_drop]
  rcases (show i=0\/i=1\/i=2\/i=3\/i=4\/i=5 by omega) with rfl | rfl | rfl | rfl | rfl | rfl <;> simp only [List.getElem?_set,List.length_set] <;> simp <;> omega
 ·rw [List.getElem?_eq_none (by simp;omega),List.getElem?_eq_none (by simp;omega)]
theorem z52:∀ (l:List Int) {m o:Mm},m.acc=o.acc->(m.rds l).1=(o.rds l).1/\(m.rds l).2.acc=(o.rds l).2.acc
 | [], m, o, h => ⟨rfl, h⟩
 | a :: l, m, o, h => by
   have e:m.rd a=o.rd a:=by unfold Mm.rd;rw [h]
   rw [Mm.rds,Mm.rds,e]; exact ⟨rfl,rfl⟩
theorem zh6 {l:List (Int×Int)} (hl:l≠[]) {m o:Mm} (h:m.acc=o.acc):m.wrs l=o.wrs l:=by
 cases l with
 | nil => exact absurd rfl hl
 | cons x l =>
   have e:m.wr x.1 x.2=o.wr x.1 x.2:=by unfold Mm.wr;rw [h]
   rw [Mm.wrs,Mm.wrs,e]
theorem zh3 (l:List (Int×Int)) {m o:Mm} (h:m.acc=o.acc):(m.wrs l).acc=(o.wrs l).acc:=by
 cases l with
 | nil => exact h
 | cons x l => rw [zh6 (by simp) h]
section
variable {p:Int} {inv tw:Bool} {src dst tab:Int}
theorem zap {g:GrN} {st su:Mm×List Int} (h1:st.1.acc=su.1.acc) (h2:st.2=su.2) :
 (z0f p inv tw src dst tab st g).1.acc=(z0f p inv tw src dst tab su g).1.acc/\(z0f p inv tw src dst tab st g).2=(z0f p inv tw src dst tab su g).2:=by
 unfold z0f
 obtain ⟨a1,a2⟩:=z52 (jyb src g.i) h1
 obtain ⟨b1,b2⟩:=z52 (jyb tab g.f) a2
 dsimp only
 rw [a1,b1,h2]
 exact ⟨zh3 _ b2,rfl⟩
theorem zaw:∀ (gs:List GrN) {st su:Mm×List Int},st.1.acc=su.1.acc->st.2=su.2 ->
 (gs.foldl (z0f p inv tw src dst tab) st).1.acc=(gs.foldl (z0f p inv tw src dst tab) su).1.acc/\(gs.foldl (z0f p inv tw src dst tab) st).2=(gs.foldl (z0f p inv tw src dst tab) su).2
 | [], st, su, h1, h2 => ⟨h1, h2⟩
 | g :: gs, st, su, h1, h2 => by
   obtain ⟨a1,a2⟩:=zap (p:=p) (inv:=inv) (tw:=tw) (src:=src) (dst:=dst) (tab:=tab) (g:=g) h1 h2
   rw [List.foldl_cons,List.foldl_cons]
   exact zaw gs a1 a2
theorem zb1:∀ (gs:List GrN) {st:Mm×List Int},st.1.L=[]->(gs.foldl (z0f p inv tw src dst tab) st).1.L=[]
 | [], st, h => h
 | g :: gs, st, h => by
   rw [List.foldl_cons]
   refine zb1 gs ?_
   unfold z0f
   dsimp only
   have h1:(st.1.rds (jyb src g.i)).2.L=[]:=by rw [z54 _ _ h]
   have h2:((st.1.rds (jyb src g.i)).2.rds (jyb tab g.f)).2.L=[]:=by rw [z54 _ _ h1]
   rw [zh5 _ _ h2]
end
theorem z0i {m o:Mm} (h:m.acc=o.acc) (ho:o.L=[]) {p:Int} {l:List Ax} {inv:Bool} {s:Stp} {src dst tab:Int} :
 (z0h m p l inv s src dst tab).1=(z0h o p l inv s src dst tab).1 /\
   (((z0h m p l inv s src dst tab).2=(z0h o p l inv s src dst tab).2/\(z0h o p l inv s src dst tab).2.L=[])\/((z0h m p l inv s src dst tab).2=m/\(z0h o p l inv s src dst tab).2=o)):=by
 have hl:m.W.length=o.W.length:=by rw [<- m.acc_len,<- o.acc_len,h]
 have hN:∀ a n,m.hasN a n=o.hasN a n:=λ a n=>by unfold Mm.hasN;rw [hl]
 unfold z0h
 by_cases hs:zam p l s=0
 ·rw [if_pos hs,if_pos hs,hN,hN,hN]
  by_cases hc:o.hasN src (nV l+6)=true/\o.hasN dst (nV l+6)=true/\o.hasN tab (zcd p l inv s).length=true
  ·rw [if_pos hc,if_pos hc]
   obtain ⟨a1,a2⟩:=zaw (p:=p) (inv:=inv) (tw:=s.tw) (src:=src) (dst:=dst) (tab:=tab) (jqs l s) (st:=(m,List.replicate (nV l).toNat 0)) (su:=(o,List.replicate (nV l).toNat 0)) h rfl
   have a3:=zb1 (p:=p) (inv:=inv) (tw:=s.tw) (src:=src) (dst:=dst) (tab:=tab) (jqs l s) (st:=(o,List.replicate (nV l).toNat 0)) ho
   have a1:(z0a p inv s.tw src dst tab m (nV l).toNat (jqs l s)).1.acc=(z0a p inv s.tw src dst tab o (nV l).toNat (jqs l s)).1.acc:=a1
   have a2:(z0a p inv s.tw src dst tab m (nV l).toNat (jqs l s)).2=(z0a p inv s.tw src dst tab o (nV l).toNat (jqs l s)).2:=a2
   have a3:(z0a p inv s.tw src dst tab o (nV l).toNat (jqs l s)).1.L=[]:=a3
   dsimp only
   rw [a2]
   refine ⟨rfl,.inl ⟨zh6 ?_ a1,by rw [zh5 _ _ a3]⟩⟩
   simp [z97]
  ·rw [if_neg hc,if_neg hc]; exact ⟨rfl,.inr ⟨rfl,rfl⟩⟩
 ·rw [if_neg hs,if_neg hs]; exact ⟨rfl,.inr ⟨rfl,rfl⟩⟩
theorem j2d {ws:List Int} {E:List Ev} {ah:Int} (h:∀ x∈E,x.ti<=0):Mm.acc ⟨ws,E,0,ah⟩=Mm.acc ⟨zb8 E ws,[],0,ah⟩:=by
 have h1:jaa 0 E=E:=by unfold jaa;rw [List.filter_eq_self]; intro x hx;simpa using h x hx
 have h2:ju8 0 E=[]:=by unfold ju8;rw [List.filter_eq_nil_iff]; intro x hx;simpa using h x hx
 unfold Mm.acc
 dsimp only
 rw [h1,h2]
 rfl
theorem ahead {ws:List Int} {E:List Ev} {ah:Int} (h:∀ x∈E,x.ti<=0) {p:Int} {l:List Ax} {inv:Bool} {s:Stp} {src dst tab:Int} :
 (z0h ⟨ws,E,0,ah⟩ p l inv s src dst tab).1=(z0h ⟨zb8 E ws,[],0,ah⟩ p l inv s src dst tab).1/\((z0h ⟨ws,E,0,ah⟩ p l inv s src dst tab).2.nxt []).W=(z0h ⟨zb8 E ws,[],0,ah⟩ p l inv s src dst tab).2.W:=by
 obtain ⟨h1,h2⟩:=z0i (j2d (ws:=ws) (ah:=ah) h) rfl (p:=p) (l:=l) (inv:=inv) (s:=s) (src:=src) (dst:=dst) (tab:=tab)
 refine ⟨h1,?_⟩
 rcases h2 with ⟨e1,e2⟩ | ⟨e1,e2⟩
 ·rw [e1]; unfold Mm.nxt;dsimp only;rw [e2]; rfl
 ·rw [e1,e2]; rfl
theorem z7e (a:List Int) (e:Nat×Int) (l:List (Nat×Int)):z7b a (e :: l)=z7b (a.set e.1 e.2) l:=rfl
def z6r (p:Int):List Int->Int
 | [] => 0
 | x :: l => j1t p (z6r p l) x
def z6u (p:Int):List Int->Int×Int
 | [] => (0, 0)
 | x :: l => (j1t p (z6u p l).1 (j1t p (z6u p l).2 x), j1t p (z6u p l).2 x)
theorem z6s {p:Int} (hk:jt3 p=true):∀ l,z6r p l=l.sum % p
 | [] => by simp [z6r]
 | x :: l => by rw [z6r, j1u hk, z6s hk l, List.sum_cons, Int.emod_add_emod, Int.add_comm]
theorem j88:∀ (l:List Int) (k:Nat),j84 (λ i=>(i:Int)+1) (k+1) l=j84 (λ i=>(i:Int)+1) k l+l.sum
 | [], k => by simp [j84]
 | x :: l, k => by
   simp only [j84,List.sum_cons]
   rw [j88 l (k+1),show ((k+1:Nat):Int)=(k:Int)+1 by omega,Int.mul_add,Int.mul_add,Int.mul_one]
   omega
theorem z6v {p:Int} (hk:jt3 p=true):∀ l,(z6u p l).2=l.sum % p/\(z6u p l).1=j84 (λ i=>(i:Int)+1) 0 l % p
 | [] => by simp [z6u, j84]
 | x :: l => by
   obtain ⟨h1,h2⟩:=z6v hk l
   have e1:j1t p (z6u p l).2 x=(x+l.sum) % p:=by rw [j1u hk,h1,Int.emod_add_emod,Int.add_comm]
   refine ⟨by rw [z6u,e1,List.sum_cons],?_⟩
   rw [z6u,e1]
   dsimp only
   rw [j1u hk,h2,Int.emod_add_emod,Int.add_emod_emod]
   congr 1
   simp only [j84]
   rw [j88 l 0]
   simp;omega
theorem z78 {p:Int} (hk:jt3 p=true) (l:List Int):(z6r p l,(z6u p l).1)=zbu p l:=by
 unfold zbu;rw [z6s hk,(z6v hk l).2]
theorem ja8 {α:Type} {l:List α} {j:Nat} (h:j < l.length):l.drop j=l[j] :: l.drop (j+1):=List.drop_eq_getElem_cons h
theorem zbt {C:FuncId->List Value->M Value} {S:St} {lb n c:Nat} {a:Option Addr} {l:List Int} {f:Value} (hn:n=l.length) (hb:n<=100000) {J:List Int->Int->St->Prop} (h0:J [] 0 S)
 (hk:∀ suf acc S',J suf acc S'->S'[lb]? = some (.cells [.slice a n c] 22 none)/\Ar S' a n 1 eU l)
 (hs:∀ suf acc x S',J suf acc S'->x∈l->WP (j6k C f [vU acc,vU x]) S' λ v S''=>∃ acc',v=vU acc'/\J (x :: suf) acc' S'') :
 WP (jgf C [f,.pointer (some ⟨lb,0,none⟩)]) S λ v S'=>∃ acc,v=vU acc/\J l acc S':=by
 rw [jgg]
 obtain ⟨k1,k2⟩:=hk _ _ _ h0
 simp only [wps,j6u k1,List.getElem?_cons_zero]
 refine zgd (λ st S' t=>∃ (j:Nat) (acc:Int),st=[vU acc,vI ((j:Int)-1)]/\j=t/\j<=n/\J (l.drop j) acc S') ?_ n _ _ ⟨n,0,?_,rfl,by omega,?_⟩
 rotate_left
 ·rw [wI_ (n:=(n:Int)-1) (by omega) (by omega)]
 ·rw [List.drop_eq_nil_of_le (by omega)]; exact h0
 rintro st S' _ ⟨j,acc,rfl,rfl,hj,hJ⟩
 obtain ⟨g1,g2⟩:=hk _ _ _ hJ
 simp only [wps]
 refine ⟨λ h3=>?_,λ h3=>?_⟩
 ·obtain ⟨i,rfl⟩:∃ i,j=i+1:=⟨j-1,by omega⟩
  have e1:((i+1:Nat):Int)-1=(i:Int):=by omega
  have hi:i < l.length:=by omega
  obtain ⟨x,rfl,c0⟩:=g2.getU (i:=i) hi
  rw [e1]
  simp only [wps,j6u g1,List.getElem?_cons_zero,Int.toNat_natCast,c0]
  refine ⟨by omega,(hs _ _ _ _ hJ (List.getElem_mem hi)).mono ?_⟩
  rintro _ S2 ⟨acc',rfl,hJ2⟩
  simp only [wps]
  rw [wI_ (n:=(i:Int)-1) (by omega) (by omega)]
  refine ⟨i,by omega,i,acc',rfl,rfl,by omega,?_⟩
  rw [ja8 hi]; exact hJ2
 ·obtain rfl:j=0:=by omega
  exact ⟨acc,rfl,by simpa using hJ⟩
theorem z6t {p:Int}:∀ l,inU (z6r p l)
 | [] => ⟨by show (0 : Int) <= 0; omega, by show (0 : Int) < 18446744073709551616; omega⟩
 | x :: l => j1v _ _ _
theorem z6w {p:Int}:∀ l,inU (z6u p l).1/\inU (z6u p l).2
 | [] => ⟨⟨by show (0 : Int) <= 0; omega, by show (0 : Int) < 18446744073709551616; omega⟩, ⟨by show (0 : Int) <= 0; omega, by show (0 : Int) < 18446744073709551616; omega⟩⟩
 | x :: l => ⟨j1v _ _ _, j1v _ _ _⟩
set_option maxHeartbeats 1000000 in
theorem j7q {C:FuncId->List Value->M Value} {S:St} {p:Int} {a:Option Addr} {n c:Nat} {l:List Int} (hx:Ar S a n 1 eU l) (hb:n<=100000) (hi:∀ y∈l,inU y) :
 WP (jgc C [vU p,.slice a n c]) S λ v S'=>v=vA [vU (z6r p l),vU (z6u p l).1]/\S <+: S':=by
 have hl:=hx.1
 rw [jgd]
 simp only [wps,List.append_assoc,List.cons_append,List.nil_append,List.length_append,List.length_cons,List.length_nil,Nat.zero_add,Nat.reduceAdd,Nat.add_assoc]
 generalize hY:S++[j00.cells [vU p] 24 none,j00.cells [.slice a n c] 22 none,j00.cells [vU 0,vU 0] 218 none,j00.cells [vU 0,vU 0] 218 none]=Y
 have hp:S <+: Y:=⟨_,hY⟩
 have y0:Y[S.length]? = some (j00.cells [vU p] 24 none):=by rw [<- hY]; exact gA0
 have y1:Y[S.length+1]? = some (j00.cells [.slice a n c] 22 none):=by rw [<- hY]; exact gA
 have y2:Y[S.length+2]? = some (j00.cells [vU 0,vU 0] 218 none):=by rw [<- hY]; exact gA
 have y3:Y[S.length+3]? = some (j00.cells [vU 0,vU 0] 218 none):=by rw [<- hY]; exact gA
 have hYl:Y.length=S.length+4:=by rw [<- hY]; simp
 have hx1:=hx.mono hp
 refine (zbt (n:=n) (c:=c) (a:=a) (l:=l) hl hb (J:=λ suf acc S'=>acc=z6r p suf/\S'=Y) ⟨rfl,rfl⟩ ?_ ?_).mono ?_
 ·rintro suf acc S' ⟨_,rfl⟩; exact ⟨y1,hx1⟩
 ·rintro suf acc x S' ⟨rfl,rfl⟩ hxl
  have hx':∀ v w,j6k (jvv [((221:Nat),jgl)] (jvv [((220:Nat),jgi)] C)) (.func (.func 220) (ar []) (ar [.pointer (some (ad S.length 0))])) [v,w]=jgi [v,w,.pointer (some (ad S.length 0))]:=λ _ _=>rfl
  rw [hx',jgj]
  simp only [wps,j6u y0,List.getElem?_cons_zero,j1w (z6t _) (hi x hxl)]
  exact ⟨_,rfl,rfl⟩
 rintro _ S1 ⟨acc,rfl,rfl,rfl⟩
 simp only [wps,y3,List.drop_succ_cons,List.drop_zero]
 try refine ⟨by simp,?_⟩
 generalize hA:S1.set (S.length+3) (j00.cells [vU (z6r p l),vU 0] 218 none)=A
 have aL:A.length=S.length+4:=by rw [<- hA,List.length_set,hYl]
 have pA:S <+: A:=by rw [<- hA]; exact z24 hp (by omega)
 have a0:A[S.length]? = some (j00.cells [vU p] 24 none):=by rw [<- hA,List.getElem?_set_ne (by omega)]; exact y0
 have a1:A[S.length+1]? = some (j00.cells [.slice a n c] 22 none):=by rw [<- hA,List.getElem?_set_ne (by omega)]; exact y1
 have a2:A[S.length+2]? = some (j00.cells [vU 0,vU 0] 218 none):=by rw [<- hA,List.getElem?_set_ne (by omega)]; exact y2
 have a3:A[S.length+3]? = some (j00.cells [vU (z6r p l),vU 0] 218 none):=by rw [<- hA,List.getElem?_set_self (by omega)]
 have pB:=List.prefix_append A [j00.cells [vU 0] 24 none]
 have b5:=jek (S:=A) (o:=j00.cells [vU 0] 24 none)
 generalize hB:A++[j00.cells [vU 0] 24 none]=B at pB b5 ⊢
 have b0:=z1w pB a0
 have b1:=z1w pB a1
 have b2:=z1w pB a2
 have b3:=z1w pB a3
 have hxB:=hx.mono (pA.trans pB)
 rw [aL] at b5
 rw [aL]
 have bL:S.length+4 < B.length:=z1y b5
 refine (zbt (n:=n) (c:=c) (a:=a) (l:=l) hl hb (J:=λ suf acc S'=>acc=(z6u p suf).1/\B.length<=S'.length/\(∀ i,i < B.length->i≠S.length+4->S'[i]? = B[i]?)/\S'[S.length+4]? = some (j00.cells [vU (z6u p suf).2] 24 none)) ⟨rfl,Nat.le_refl _,λ _ _ _=>rfl,b5⟩ ?_ ?_).mono ?_
 ·rintro suf acc S' ⟨_,j1,j2,j3⟩
  refine ⟨by rw [j2 _ (by omega) (by omega)]; exact b1,?_⟩
  refine (Kp.ar (M:=[S.length+4]) ⟨j1,λ i h1 h2=>j2 i h1 (by simpa using h2)⟩ hxB λ hne y hy=>?_)
  have:=hx.low (λ x=>⟨_,rfl⟩) hne y hy
  simp;omega
 ·rintro suf acc x S' ⟨rfl,j1,j2,j3⟩ hxl
  have hx':∀ v w,j6k (jvv [((221:Nat),jgl)] (jvv [((220:Nat),jgi)] C)) (.func (.func 221) (ar []) (ar [.pointer (some (ad S.length 0)),.pointer (some (ad (S.length+4) 0))])) [v,w]=jgl [v,w,.pointer (some (ad S.length 0)),.pointer (some (ad (S.length+4) 0))]:=λ _ _=>rfl
  rw [hx',jgm]
  have c0:S'[S.length]? = some (j00.cells [vU p] 24 none):=by rw [j2 _ (by omega) (by omega)]; exact b0
  have lt4:=z1y j3
  have c1:(List.set S' (S.length+4) (j00.cells [vU (j1t p (z6u p suf).2 x)] 24 none))[S.length]? = some (j00.cells [vU p] 24 none):=by rw [List.getElem?_set_ne (by omega)]; exact c0
  have c4:(List.set S' (S.length+4) (j00.cells [vU (j1t p (z6u p suf).2 x)] 24 none))[S.length+4]? = some (j00.cells [vU (j1t p (z6u p suf).2 x)] 24 none):=List.getElem?_set_self lt4
  simp only [wps,j6u c0,j6u j3,List.getElem?_cons_zero,j1w (z6w suf).2 (hi x hxl),j3,List.drop_succ_cons,List.drop_zero,List.drop_nil,j6u c1,j6u c4,j1w (z6w suf).1 (j1v p (z6u p suf).2 x)]
  exact ⟨_,rfl,rfl,by rw [List.length_set]; exact j1,λ i h1 h2=>by rw [List.getElem?_set_ne (Ne.symm h2)]; exact j2 i h1 h2,c4⟩
 rintro _ S2 ⟨acc,rfl,rfl,j1,j2,j3⟩
 have d3:S2[S.length+3]? = some (j00.cells [vU (z6r p l),vU 0] 218 none):=by rw [j2 _ (by omega) (by omega)]; exact b3
 have d2:S2[S.length+2]? = some (j00.cells [vU 0,vU 0] 218 none):=by rw [j2 _ (by omega) (by omega)]; exact b2
 have pS:S <+: S2:=by
  rw [List.prefix_iff_getElem?]
  intro i hi
  have h1:=(pA.trans pB)
  rw [j2 _ (by omega) (by omega),z1u h1 hi,List.getElem?_eq_getElem hi]
 have e1:splice [vU (z6r p l),vU 0] 1 [vU (z6u p l).1]=[vU (z6r p l),vU (z6u p l).1]:=rfl
 have l3:=z1y d3
 simp only [wps,d3,e1]
 try refine ⟨by simp,?_⟩
 generalize hD:S2.set (S.length+3) (j00.cells [vU (z6r p l),vU (z6u p l).1] 218 none)=D
 have f3:D[S.length+3]? = some (j00.cells [vU (z6r p l),vU (z6u p l).1] 218 none):=by rw [<- hD,List.getElem?_set_self l3]
 have f2:D[S.length+2]? = some (j00.cells [vU 0,vU 0] 218 none):=by rw [<- hD,List.getElem?_set_ne (by omega)]; exact d2
 have pD:S <+: D:=by rw [<- hD]; exact z24 pS (by omega)
 have l2:=z1y f2
 have f4:(List.set D (S.length+2) (j00.cells [vU (z6r p l),vU (z6u p l).1] 218 none))[S.length+2]? = some (j00.cells [vU (z6r p l),vU (z6u p l).1] 218 none):=List.getElem?_set_self l2
 simp only [wps,j6u f3,f2,gcz,gcs,List.drop_succ_cons,List.drop_zero,List.drop_nil,j6u f4]
 exact z24 pD (by omega)
theorem j7p {S:St} {p:Int} {a:Option Addr} {n c:Nat} {l:List Int} (hk:jt3 p=true) (hx:Ar S a n 1 eU l) (hb:n<=4096) (hi:∀ y∈l,inU y) :
 WP (jg6 [vU p,.slice a n c]) S λ v S'=>v=vT [vA [vU (zbu p l).1,vU (zbu p l).2],vI 0]/\S <+: S':=by
 rw [jg7,<- z78 hk]
 have hp:=List.prefix_append S [j00.cells [vU 0,vU 0] 40 none]
 have z:=jek (S:=S) (o:=j00.cells [vU 0,vU 0] 40 none)
 simp only [wps,jt8,hk]
 generalize hY:S++[j00.cells [vU 0,vU 0] 40 none]=Y at hp z ⊢
 refine ⟨λ e=>by omega,λ _=>?_⟩
 refine (j7q (C:=noC) (c:=c) (hx.mono hp) (by omega) hi).mono ?_
 rintro _ S1 ⟨rfl,k1⟩
 have z1:=z1w k1 z
 have l1:=z1y z1
 have f4:(List.set S1 S.length (j00.cells [vU (z6r p l),vU (z6u p l).1] 40 none))[S.length]? = some (j00.cells [vU (z6r p l),vU (z6u p l).1] 40 none):=List.getElem?_set_self l1
 simp only [wps,z1,List.drop_succ_cons,List.drop_zero,List.drop_nil,j6u f4,gcz,gcs,Nat.reduceAdd]
 exact z24 (hp.trans k1) (Nat.le_refl _)
def tri (l:List Int):List Int:=l.flatMap λ x=>[x,x,x]
theorem zdm:∀ l,(tri l).length=3*l.length
 | [] => rfl
 | x :: l => by unfold tri; rw [List.flatMap_cons, List.length_append]; have := zdm l; unfold tri at this; rw [this]; simp; omega
theorem zdl:∀ (l:List Int) (i:Nat),(tri l)[i]? = l[i / 3]?
 | [], i => by simp [tri]
 | x :: l, i => by
   have ih:=zdl l (i-3)
   unfold tri at ih ⊢
   rw [List.flatMap_cons]
   rcases (show i=0\/i=1\/i=2\/3<=i by omega) with rfl | rfl | rfl | h
   ·rfl
   ·rfl
   ·rfl
   ·rw [List.getElem?_append_right (by simpa using h),show i / 3=(i-3) / 3+1 by omega,List.getElem?_cons_succ]
    exact ih
theorem zdn (q:Int×Int):tri [q.1,q.2]=z97 q:=rfl
set_option maxHeartbeats 1000000 in
theorem zev {S:St} {a:Option Addr} {n c:Nat} {l:List Int} (hx:Ar S a n 1 eU l) (hn:n<=1024) :
 WP (zit [.slice a n c]) S λ v S'=>∃ b,v=vT [.slice (some ⟨b,0,none⟩) (3*n) (3*n),vI 0]/\Nw S S' b (tri l):=by
 have hl:=hx.1
 rw [ziu]
 have e3:wI (3*(n:Int))=((3*n:Nat):Int):=by rw [wI_ (by omega) (by omega)]; omega
 simp only [wps,e3,zhy,Int.toNat_natCast]
 refine ⟨λ h=>by omega,λ _=>⟨⟨by omega,by omega,by omega,rfl⟩,?_⟩⟩
 have tl:=zdm l
 have pw:=List.prefix_append S [j00.cells (List.replicate (3*n) (vU 0)) 24 none]
 have zw:=jek (S:=S) (o:=j00.cells (List.replicate (3*n) (vU 0)) 24 none)
 refine zgd (λ st S' m=>∃ j:Nat,st=[vN j]/\3*n-j=m/\j<=3*n/\S <+: S'/\S'[S.length]? = some (.cells (((tri l).take j).map (.int .u64)++List.replicate (3*n-j) (vU 0)) 24 none)) ?_ (3*n) _ _ ⟨0,rfl,rfl,by omega,pw,by rw [zw]; simp⟩
 rintro st S1 _ ⟨j,rfl,rfl,hj,k1,hb⟩
 simp only [wps]
 refine ⟨λ h3=>?_,λ h3=>?_⟩
 ·have hj':j < 3*n:=by omega
  have ed:wI ((j:Int).tdiv 3)=((j / 3:Nat):Int):=by
   rw [Int.tdiv_eq_ediv_of_nonneg (by omega),wI_ (by omega) (by omega)]; omega
  have hx1:=hx.mono k1
  obtain ⟨x,rfl,c0⟩:=hx1.getU (i:=j / 3) (by omega)
  have eg:(tri l)[j]'(by omega)=l[j / 3]'(by omega):=by
   have:=zdl l j
   rw [List.getElem?_eq_getElem (by omega),List.getElem?_eq_getElem (by omega)] at this
   exact Option.some.inj this
  have hb0:=z1y hb
  rw [ed]
  simp only [wps,c0,Int.toNat_natCast,hb]
  rw [wI_ (n:=(j:Int)+1) (by omega) (by omega)]
  have hl1:((tri l).take j).length=j:=by simp;omega
  refine ⟨by omega,by rw [e3,Int.toNat_natCast]; omega,by simp;omega,3*n-(j+1),by omega,j+1,rfl,rfl,by omega,z24 k1 (Nat.le_refl _),?_⟩
  rw [List.getElem?_set_self hb0,z9v (by simp;omega),List.set_append_right _ _ (by simp;omega),zcr (show j < (tri l).length by omega),eg]
  simp only [List.length_map,hl1,Nat.sub_self]
  rw [show 3*n-j=(3*n-(j+1))+1 by omega,List.replicate_succ,List.set_cons_zero,List.map_append]
  simp
 ·obtain rfl:j=3*n:=by omega
  rw [List.take_of_length_le (by omega),Nat.sub_self] at hb
  refine ⟨_,rfl,k1,Nat.le_refl _,none,?_⟩
  rw [hb]
  simp only [List.replicate_zero,List.append_nil]
  rw [List.map_eq_flatMap]; rfl
theorem j60 {b:Bool} {x:Addr}:(bif b then x else x)=x:=by cases b <;> rfl
set_option maxHeartbeats 1000000 in
theorem zfe {S:St} {a:Option Addr} {n c:Nat} {l:List Int} {q:Int×Int} (hx:Ar S a n 1 eU l) (hn:n<=4096) :
 WP (jgo [.slice a n c,vA [vU q.1,vU q.2]]) S λ v S'=>∃ b,v=vT [.slice (some ⟨b,0,none⟩) (n+6) (n+6),vI 0]/\Nw S S' b (l++z97 q):=by
 have hl:=hx.1
 rw [jgp]
 have e6:wI ((n:Int)+6)=((n+6:Nat):Int):=by rw [wI_ (by omega) (by omega)]; omega
 simp only [wps,e6,zhy,Int.toNat_natCast,List.append_assoc,List.cons_append,List.nil_append,List.length_append,List.length_cons,List.length_nil,Nat.zero_add,Nat.reduceAdd,Nat.min_self]
 generalize hY:S++[j00.cells [vU q.1,vU q.2] 218 none,j00.cells (List.replicate (n+6) (vU 0)) 24 none]=Y
 have hp:S <+: Y:=⟨_,hY⟩
 have y0:Y[S.length]? = some (j00.cells [vU q.1,vU q.2] 218 none):=by rw [<- hY]; exact gA0
 have y1:Y[S.length+1]? = some (j00.cells (List.replicate (n+6) (vU 0)) 24 none):=by rw [<- hY]; exact gA
 refine ⟨⟨by omega,by omega,by omega,rfl⟩,?_⟩
 have hr:=zgl (hx.mono hp) (λ _=>rfl) (Q:=λ xs S'=>xs=l.flatMap eU/\Y=S') ⟨rfl,rfl⟩
 rw [Nat.mul_one] at hr
 refine hr.mono ?_
 rintro _ _ ⟨rfl,rfl⟩
 have hfl:=jcv (e:=eU) (w:=1) (λ _=>rfl) l
 refine ⟨_,_,_,y1,⟨by rw [List.length_replicate]; omega,jak l⟩,?_⟩
 generalize hA:Y.set (S.length+1) (j00.cells (l.flatMap eU++List.drop (l.flatMap eU).length (List.replicate (n+6) (vU 0))) 24 none)=A
 have a0:A[S.length]? = some (j00.cells [vU q.1,vU q.2] 218 none):=by rw [<- hA,List.getElem?_set_ne (by omega)]; exact y0
 have a1:A[S.length+1]? = some (j00.cells (l.flatMap eU++List.replicate 6 (vU 0)) 24 none):=by
  rw [<- hA,List.getElem?_set_self (z1y y1),List.drop_replicate,hfl]; congr 4;omega
 have pA:S <+: A:=by rw [<- hA]; exact z24 hp (by omega)
 have ex:jbm (ad S.length 0) A=some ((),A):=by unfold jbm;simp only [ad]; rw [a0]
 refine ⟨_,_,ex,?_⟩
 simp only [j60]
 have arq:Ar A (some (ad S.length 0)) 2 1 eU [q.1,q.2]:=Ar.blk (e:=eU) (l:=[q.1,q.2]) (w:=1) a0 (λ _ _=>rfl) rfl
 refine (zev (c:=2) arq (by omega)).mono ?_
 rintro _ S1 ⟨b,rfl,hN⟩
 rw [zdn] at hN
 have a11:=z1w hN.p a1
 simp only [wps]
 have hr2:=zgl hN.ar (λ _=>rfl) (Q:=λ xs S'=>xs=(z97 q).flatMap eU/\S1=S') ⟨rfl,rfl⟩
 rw [Nat.mul_one] at hr2
 refine hr2.mono ?_
 rintro _ _ ⟨rfl,rfl⟩
 have hf6:((z97 q).flatMap eU).length=6:=rfl
 refine zfu (w:=1) a11 (by simp) (by rw [hf6,List.length_append,List.length_replicate]; omega) (jak _) ?_
 simp only [wps]
 refine ⟨S.length+1,rfl,z24 (pA.trans hN.p) (by omega),by omega,none,?_⟩
 rw [List.getElem?_set_self (z1y a11)]
 have hn1:n=(l.flatMap eU).length:=by omega
 have : splice (l.flatMap eU++List.replicate 6 (vU 0)) n ((z97 q).flatMap eU)=(l++z97 q).flatMap eU:=by
  unfold splice
  rw [hf6,hn1,List.take_left,List.drop_append,List.flatMap_append]
  simp
 rw [this]
theorem j7o {S:St} {p:Int} {a:Option Addr} {n c:Nat} {l:List Int} (hk:jt3 p=true) (hx:Ar S a n 1 eU l) (h1:1<=n) (hn:n<=4096) (hi:∀ y∈l,inP p y) :
 WP (jg3 [vU p,.slice a n c]) S λ v S'=>∃ b,v=vT [.slice (some ⟨b,0,none⟩) (n+6) (n+6),vI 0]/\Nw S S' b (l++z97 (zbu p l)):=by
 have hl:=hx.1
 have hin:=jry (p:=p) (c:=c) hx (by omega)
 rw [jrw hk hi] at hin
 rw [jg4]
 unfold jtf
 simp only [wps,jt8,hk,hin.wp]
 refine ⟨λ e=>by omega,λ _=>⟨λ e=>by omega,λ _=>?_⟩⟩
 refine (j7q (C:=noC) (c:=c) hx (by omega) (λ y hy=>jru hk (hi y hy))).mono ?_
 rintro _ S1 ⟨rfl,k1⟩
 simp only [wps]
 have hw:=zfe (c:=c) (q:=zbu p l) (hx.mono k1) hn
 rw [<- z78 hk] at hw ⊢
 refine hw.mono ?_
 rintro _ S2 ⟨b,rfl,hN⟩
 simp only [wps]
 exact ⟨b,rfl,hN.base k1⟩
def shf (dst:Int) (e:Nat×Int):Int×Int:=(dst+(e.1:Int),e.2)
theorem zi1 (dst:Int):∀ (o:List Nat) (v:List Int),(jyb dst o).zip v=(o.zip v).map (shf dst)
 | [], v => rfl
 | a :: o, [] => by simp [jyb]
 | a :: o, b :: v => by
   have:=zi1 dst o v
   unfold jyb at this ⊢
   rw [List.map_cons,List.zip_cons_cons,List.zip_cons_cons,List.map_cons,this]; rfl
section
variable {p:Int} {inv tw:Bool} {src dst tab:Int}
theorem zay (hk:jt3 p=true) {x T:List Int} {n:Nat} (hr:∀ i < n,red p (x.getD i 0)=x.getD i 0) (hds:∀ i o:Nat,i < n->o < n->(dst+(o:Int)).toNat≠(src+(i:Int)).toNat) (hdt:∀ i o:Nat,i < T.length->o < n->(dst+(o:Int)).toNat≠(tab+(i:Int)).toNat) :
 ∀ (gs:List GrN) (st:Mm×List Int),(∀ g∈gs,g.ok tw)->(∀ g∈gs,∀ i∈g.i,i < n)->(∀ g∈gs,∀ i∈g.o,i < n)->(∀ g∈gs,∀ i∈g.f,i < T.length)->st.1.L=[]->(∀ i:Nat,i < n->st.1.W.getD (src+(i:Int)).toNat 0=x.getD i 0)->(∀ i:Nat,i < T.length->st.1.W.getD (tab+(i:Int)).toNat 0=T.getD i 0) ->
 (gs.foldl (z0f p inv tw src dst tab) st).1.W=zh9 st.1.W ((gs.flatMap (jep p inv tw T x)).map (shf dst))/\(gs.foldl (z0f p inv tw src dst tab) st).1.L=[]
 | [], st, _, _, _, _, hL, _, _ => ⟨rfl, hL⟩
 | g :: gs, st, hg, hi, ho, hf, hL, hX, hT => by
   have e:(z0f p inv tw src dst tab st g).1.W=zh9 st.1.W ((jep p inv tw T x g).map (shf dst))/\(z0f p inv tw src dst tab st g).1.L=[]:=by
    unfold z0f jep
    dsimp only
    have h1:(st.1.rds (jyb src g.i)).2.L=[]:=by rw [z54 _ _ hL]
    have h2:((st.1.rds (jyb src g.i)).2.rds (jyb tab g.f)).2.L=[]:=by rw [z54 _ _ h1]
    rw [zh5 _ _ h2]
    dsimp only
    rw [z54 _ _ h1]
    dsimp only
    rw [z54 _ _ hL]
    dsimp only
    refine ⟨?_,rfl⟩
    rw [zi1]
    have q1:((jyb src g.i).map (λ a=>st.1.W.getD a.toNat 0)).map (red p)=g.i.map λ i=>x.getD i 0:=by
     unfold jyb
     rw [List.map_map,List.map_map]
     apply List.map_congr_left
     intro i hi'
     simp only [Function.comp]
     rw [hX i (hi g (by simp) i hi'),hr i (hi g (by simp) i hi')]
    have q2:(jyb tab g.f).map (λ a=>st.1.W.getD a.toNat 0)=g.f.map λ i=>T.getD i 0:=by
     unfold jyb
     rw [List.map_map]
     apply List.map_congr_left
     intro i hi'
     simp only [Function.comp]
     rw [hT i (hf g (by simp) i hi')]
    rw [q1,q2]
   have key:∀ a:Nat,(∀ o:Nat,o < n->(dst+(o:Int)).toNat≠a)->(z0f p inv tw src dst tab st g).1.W.getD a 0=st.1.W.getD a 0:=λ a ha=>by
    rw [e.1,zhb]
    intro y hy
    obtain ⟨z,hz,rfl⟩:=List.mem_map.1 hy
    have : z.1∈(jep p inv tw T x g).map (·.1):=List.mem_map_of_mem hz
    rw [jer (hg g (by simp))] at this
    exact ha z.1 (ho g (by simp) _ this)
   obtain ⟨b1,b2⟩:=zay hk hr hds hdt gs (z0f p inv tw src dst tab st g) (λ g' h'=>hg g' (by simp [h'])) (λ g' h'=>hi g' (by simp [h'])) (λ g' h'=>ho g' (by simp [h'])) (λ g' h'=>hf g' (by simp [h'])) e.2
    (λ i hi'=>by rw [key _ (λ o ho'=>hds i o hi' ho')]; exact hX i hi') (λ i hi'=>by rw [key _ (λ o ho'=>hdt i o hi' ho')]; exact hT i hi')
   rw [List.foldl_cons]
   refine ⟨?_,b2⟩
   rw [b1,e.1,List.flatMap_cons,List.map_append,zha]
end
theorem zhg {d n:Nat}:∀ (l:List (Nat×Int)) (W:List Int),d+n<=W.length->(∀ e∈l,e.1 < n)->((zh9 W (l.map (shf (d:Int)))).drop d).take n=z7b ((W.drop d).take n) l
 | [], W, _, _ => rfl
 | e :: l, W, hW, h => by
   have he:=h e (by simp)
   have e1:(shf (d:Int) e).1.toNat=d+e.1:=by show ((d:Int)+(e.1:Int)).toNat=_;omega
   have e2:zh9 W ((e :: l).map (shf (d:Int)))=zh9 (W.set (d+e.1) e.2) (l.map (shf (d:Int))):=by
    rw [List.map_cons,zh9,List.foldl_cons,e1]; rfl
   rw [e2,zhg l (W.set (d+e.1) e.2) (by simpa using hW) (λ e' h'=>h e' (by simp [h'])),z7e]
   congr 1
   apply List.ext_getElem?
   intro i
   by_cases hi:i < n
   ·rw [List.getElem?_take,if_pos hi,List.getElem?_drop,List.getElem?_set,List.getElem?_set]
    by_cases hc:e.1=i
    ·rw [if_pos (by omega),if_pos hc,if_pos (by omega),if_pos (by simp;omega)]
    ·rw [if_neg (by omega),if_neg hc,List.getElem?_take,if_pos hi,List.getElem?_drop]
   ·rw [List.getElem?_eq_none (by simp;omega),List.getElem?_eq_none (by simp;omega)]
theorem z7f {n:Nat} {l:List (Nat×Int)} (h:(l.map (·.1)).Perm (List.range n)) {a b:List Int} (ha:a.length=n) (hb:b.length=n):z7b a l=z7b b l:=by
 apply List.ext_getElem?
 intro i
 by_cases hi:i < n
 ·have hm:i∈l.map (·.1):=h.mem_iff.2 (List.mem_range.2 hi)
  obtain ⟨e,he,rfl⟩:=List.mem_map.1 hm
  have hnd:(l.map (·.1)).Nodup:=h.nodup_iff.2 List.nodup_range
  rw [z7d l a hnd e he (by omega),z7d l b hnd e he (by omega)]
 ·rw [List.getElem?_eq_none (by rw [z7h]; omega),List.getElem?_eq_none (by rw [z7h]; omega)]
theorem zcq {α:Type} (l:List α) (a b:Nat):l.take (a+b)=l.take a++(l.drop a).take b:=by
 induction a generalizing l with
 | zero => simp
 | succ a ih =>
   cases l with
   | nil=>simp
   | cons x l=>rw [show a+1+b=(a+b)+1 by omega]; simp [ih]
theorem z5g {p y:Int} (hk:jt3 p=true) (h:inP p y):red p y=y:=by
 unfold red;rw [if_pos hk]; exact Int.emod_eq_of_lt h.1 h.2
theorem z0d {m:Mm} (hL:m.L=[]) {p:Int} {l:List Ax} {inv:Bool} {s:Stp} {sr d tb n:Nat} {x:List Int} (hst:zam p l s=0) (hn:nV l=(n:Int))
 (h1:sr+n+6<=m.W.length) (h2:d+n+6<=m.W.length) (h3:tb+(zcd p l inv s).length<=m.W.length)
 (hx:(m.W.drop sr).take n=x) (hi:∀ y∈x,inP p y) (hT:(m.W.drop tb).take (zcd p l inv s).length=zcd p l inv s)
 (hd:d+n+6<=sr\/sr+n+6<=d) (ht:d+n+6<=tb\/tb+(zcd p l inv s).length<=d) :
 (z0h m p l inv s sr d tb).1=(zbu p (doG p inv s.tw n (jqs l s) (zcd p l inv s) x),0) /\
 ((z0h m p l inv s sr d tb).2.W.drop d).take (n+6)=doG p inv s.tw n (jqs l s) (zcd p l inv s) x++z97 (zbu p (doG p inv s.tw n (jqs l s) (zcd p l inv s) x)):=by
 have hk:=zaq hst
 obtain ⟨k,dd,inner,nn,mm,hS⟩:=zas hst
 have hnn:=hS.nn
 obtain rfl:nn=n:=by omega
 obtain ⟨gf1,gf2,gf3,gf4,gf5⟩:=jqt hS
 have hTl:=zch (p:=p) (inv:=inv) hS
 have hc:m.hasN sr (nV l+6)=true/\m.hasN d (nV l+6)=true/\m.hasN tb (zcd p l inv s).length=true:=by
  rw [hn]
  refine ⟨?_,?_,?_⟩ <;> unfold Mm.hasN <;> apply decide_eq_true <;> omega
 have hV:z0h m p l inv s sr d tb=((z26 p inv s.tw (jqs l s) (zcd p l inv s) (z0a p inv s.tw sr d tb m (nV l).toNat (jqs l s)).2,0),(z0a p inv s.tw sr d tb m (nV l).toNat (jqs l s)).1.wrs ((jyb (d+nV l) [0,1,2,3,4,5]).zip (z97 (z26 p inv s.tw (jqs l s) (zcd p l inv s) (z0a p inv s.tw sr d tb m (nV l).toNat (jqs l s)).2)))):=by unfold z0h;rw [if_pos hst,if_pos hc]
 have h0:(z0h m p l inv s sr d tb).1.2=0:=by rw [hV]
 obtain ⟨w,d',sr',e1,e2,e3,_,_,_,_,_,_,hWl,hq,hsix⟩:=z0e hL h0 (by rw [hn]; omega)
 obtain rfl:w=nn:=by omega
 obtain rfl:d'=d:=by omega
 obtain rfl:sr'=sr:=by omega
 have hxl:x.length=w:=by rw [<- hx]; simp;omega
 have hmr:x.map (red p)=x:=by
  conv=>rhs;rw [<- List.map_id x]
  exact List.map_congr_left λ y hy=>z5g hk (hi y hy)
 rw [hx,hmr,z2c hk (n:=w) gf1 gf3] at hq
 have hx1:(z0h m p l inv s sr' d' tb).1=(zbu p (doG p inv s.tw w (jqs l s) (zcd p l inv s) x),0):=Prod.ext hq h0
 refine ⟨hx1,?_⟩
 rw [hq] at hsix
 rw [zcq,List.drop_drop,hsix]
 congr 1
 rw [hV]
 obtain ⟨b1,b2⟩:=zay (inv:=inv) (tw:=s.tw) (src:=(sr':Int)) (dst:=(d':Int)) (tab:=(tb:Int)) hk (x:=x) (T:=zcd p l inv s) (n:=w)
  (λ i hi'=>by rw [List.getD_eq_getElem?_getD,List.getElem?_eq_getElem (by omega)]; exact z5g hk (hi _ (List.getElem_mem _)))
  (λ i o hi' ho=>by omega) (λ i o hi' ho=>by omega) (jqs l s) (m,List.replicate (nV l).toNat 0) gf1
  (λ g hg i hi=>List.mem_range.1 (gf2.mem_iff.1 (List.mem_flatMap.2 ⟨g,hg,hi⟩)))
  (λ g hg i hi=>List.mem_range.1 (gf3.mem_iff.1 (List.mem_flatMap.2 ⟨g,hg,hi⟩)))
  (λ g hg i hi=>by rw [hTl]; exact gf4 g hg i hi) hL
  (λ i hi'=>by
    dsimp only
    rw [<- hx,List.getD_eq_getElem?_getD,List.getD_eq_getElem?_getD,List.getElem?_take,if_pos hi',List.getElem?_drop,show ((sr':Int)+(i:Int)).toNat=sr'+i by omega])
  (λ i hi'=>by
    dsimp only
    conv=>rhs;rw [<- hT]
    rw [List.getD_eq_getElem?_getD,List.getD_eq_getElem?_getD,List.getElem?_take,if_pos hi',List.getElem?_drop,show ((tb:Int)+(i:Int)).toNat=tb+i by omega])
 have b1:(z0a p inv s.tw sr' d' tb m (nV l).toNat (jqs l s)).1.W=zh9 m.W (((jqs l s).flatMap (jep p inv s.tw (zcd p l inv s) x)).map (shf d')):=b1
 have b2:(z0a p inv s.tw sr' d' tb m (nV l).toNat (jqs l s)).1.L=[]:=b2
 dsimp only
 generalize z26 p inv s.tw (jqs l s) (zcd p l inv s) (z0a p inv s.tw sr' d' tb m (nV l).toNat (jqs l s)).2=Q
 generalize z0a p inv s.tw sr' d' tb m (nV l).toNat (jqs l s)=PG at b1 b2 ⊢
 rw [zh5 _ _ b2,b1]
 dsimp only
 have hall:=jeq (p:=p) (inv:=inv) (tab:=zcd p l inv s) (x:=x) gf1
 have hwin:=zhg (d:=d') (n:=w) ((jqs l s).flatMap (jep p inv s.tw (zcd p l inv s) x)) m.W (by omega) (λ e he=>by
  have : e.1∈((jqs l s).flatMap (jep p inv s.tw (zcd p l inv s) x)).map (·.1):=List.mem_map_of_mem he
  rw [hall] at this
  exact List.mem_range.1 (gf3.mem_iff.1 this))
 have hdo:((zh9 m.W (((jqs l s).flatMap (jep p inv s.tw (zcd p l inv s) x)).map (shf d'))).drop d').take w=doG p inv s.tw w (jqs l s) (zcd p l inv s) x:=by
  rw [hwin]
  exact z7f (n:=w) (by rw [hall]; exact gf3) (by simp;omega) (by simp)
 rw [<- hdo]
 apply List.ext_getElem?
 intro i
 by_cases hi':i < w
 ·rw [List.getElem?_take,if_pos hi',List.getElem?_drop,List.getElem?_take,if_pos hi',List.getElem?_drop]
  apply zhe
  intro e he
  obtain ⟨j,hj,hx⟩:=List.mem_map.1 (List.of_mem_zip he).1
  rw [<- hx,hn]; omega
 ·rw [List.getElem?_eq_none (by simp;omega),List.getElem?_eq_none (by simp;omega)]
abbrev z6b (at_:Int) (n:Nat):List Int:=jyb at_ (List.range n)
def Fx.st (f:Fx):Int×Int:=(f.ad,f.good)
def z7o (m:Mm) (p n at_:Int):((List Fx×(Int×Int))×Int)×Mm:=
 if jt3 p=false then ((([],(0,0)),2),m)
 else if n < 1\/4096 < n\/m.hasN at_ (n+6)=false then ((([],(0,0)),1),m)
 else
  let r:=m.rds (z6b at_ (n.toNat+6))
  let f:=jcg p r.1
  if f.2≠0 then ((([],(0,0)),10),r.2)
  else (((f.1.2.map (Fx.up at_),(f.1.1.getD n.toNat 0,f.1.1.getD (n.toNat+3) 0)),0),r.2.wrs ((f.1.2.map (Fx.up at_)).map Fx.st))
def juh (m:Mm) (l:List Int) (at_:Int):Int×Mm:=if m.hasN at_ l.length=true then (0,m.wrs ((z6b at_ l.length).zip l)) else (1,m)
def jrg (m:Mm) (l:List Int) (at_:Int):(Bool×Int)×Mm:=if m.hasN at_ l.length=true then ((decide ((m.rds (z6b at_ l.length)).1=l),0),(m.rds (z6b at_ l.length)).2) else ((false,1),m)
def j2a (p:Int) (s:Int×Int) (l:List Int):Bool:=jt3 p && decide (l.length<=4096) && decide (zbu p l=s) && decide (∀ y∈l,y < p)
def z9m (m:Mm) (p n at_:Int) (s:Int×Int):(Bool×Int)×Mm:=
 if jt3 p=false then ((false,2),m)
 else if n < 1\/4096 < n\/m.hasN at_ n=false then ((false,1),m)
 else ((j2a p s (m.rds (z6b at_ n.toNat)).1,0),(m.rds (z6b at_ n.toNat)).2)
def ze2 (m:Mm) (p:Int) (l:List Ax) (inv:Bool) (s:Stp) (src dst tab:Int):((Bool×List Fx)×Int)×Mm:=
 if zam p l s≠0 then (((false,[]),zam p l s),m)
 else if m.hasN src (nV l+6)=true/\m.hasN dst (nV l+6)=true/\m.hasN tab (zcd p l inv s).length=true then
  let a:=z7o m p (nV l) src
  if a.1.2≠0 then (((false,[]),0),a.2)
  else
   let r:=z0h (juh a.2 (zcd p l inv s) tab).2 p l inv s src dst tab
   let b:=z9m r.2 p (nV l) src a.1.1.2
   let c:=jrg b.2 (zcd p l inv s) tab
   let d:=z9m c.2 p (nV l) dst r.1.1
   (((b.1.1 && c.1.1 && d.1.1,a.1.1.1),0),d.2)
 else (((false,[]),1),m)
def jzo (m:Mm) (p n at_:Int):((List Int×(Bool×List Fx))×Int)×Mm:=
 let a:=z7o m p n at_
 if a.1.2=10 then ((([],(false,[])),0),a.2)
 else if a.1.2≠0 then ((([],(false,[])),a.1.2),a.2)
 else
  let r:=a.2.rds (z6b at_ n.toNat)
  if j2a p a.1.1.2 r.1=true then (((r.1,(true,a.1.1.1)),0),r.2)
  else ((([],(false,a.1.1.1)),0),r.2)
inductive One (e:Ev) (I:List Int) (m:Mm):Prop
 | pend (hL : m.L = [e]) (hW : m.W = I)
 | done (hL : m.L = []) (hW : m.W = hit I e)
 | gone (hL : m.L = []) (hW : m.W = I)
abbrev gI (I:List Int) (A:List Int):List Int:=A.map λ a=>I.getD a.toNat 0
theorem jre (I:List Int) (e:Ev):(hit I e).length=I.length:=zbb [e] I
theorem z6d (a:Int) (n:Nat):(z6b a n).length=n:=by simp [z6b,jyb]
theorem jdr {I:List Int} {d n:Nat} (h:d+n<=I.length):gI I (z6b (d:Int) n)=(I.drop d).take n:=by
 apply List.ext_getElem
 ·simp [gI,z6b,jyb]; omega
 ·intro i h1 h2
  simp [gI,z6b,jyb] at h1
  unfold gI z6b jyb
  rw [List.getElem_map,List.getElem_map,List.getElem_range,List.getElem_take,List.getElem_drop,List.getD_eq_getElem?_getD,show ((d:Int)+(i:Int)).toNat=d+i by omega,List.getElem?_eq_getElem (by omega)]
  rfl
theorem zfi {I:List Int} {d n a:Nat} (v:Int):((I.set a v).drop d).take n=if d<=a/\a < d+n then ((I.drop d).take n).set (a-d) v else (I.drop d).take n:=by
 by_cases hc:d<=a/\a < d+n
 ·rw [if_pos hc]
  apply List.ext_getElem?
  intro i
  by_cases hi:i < n
  ·rw [List.getElem?_take,if_pos hi,List.getElem?_drop,List.getElem?_set,List.getElem?_set,List.length_take,List.length_drop]
   by_cases ha:a=d+i
   ·rw [if_pos ha,if_pos (show a-d=i by omega)]
    by_cases hl:a < I.length
    ·rw [if_pos hl,if_pos (by omega)]
    ·rw [if_neg hl,if_neg (by omega)]
   ·rw [if_neg ha,if_neg (show ¬ a-d=i by omega),List.getElem?_take,if_pos hi,List.getElem?_drop]
  ·rw [List.getElem?_eq_none (by simp;omega),List.getElem?_eq_none (by simp;omega)]
 ·rw [if_neg hc]
  apply List.ext_getElem?
  intro i
  by_cases hi:i < n
  ·rw [List.getElem?_take,if_pos hi,List.getElem?_drop,List.getElem?_set,if_neg (by omega),List.getElem?_take,if_pos hi,List.getElem?_drop]
  ·rw [List.getElem?_eq_none (by simp;omega),List.getElem?_eq_none (by simp;omega)]
theorem zc8 (q:Int×Int) (x:List Int):(x++sx q).getD x.length 0=q.1/\(x++sx q).getD (x.length+3) 0=q.2:=by
 constructor
 ·rw [List.getD_eq_getElem?_getD,List.getElem?_append_right (Nat.le_refl _),Nat.sub_self]; rfl
 ·rw [List.getD_eq_getElem?_getD,List.getElem?_append_right (by omega),show x.length+3-x.length=3 by omega]; rfl
section
variable {p:Int} {inv tw:Bool} {src dst tab:Int}
end
theorem zei {p y:Int} (hk:jt3 p=true) (h:inP p y):Go.Proofs.YtpecnaacgkgjmaaGreatDoor.u64r y:=by
 have:=jt7 hk
 exact ⟨h.1,by have:=h.2;omega⟩
theorem zbw {p:Int} (hk:jt3 p=true) (y:List Int):inP p (zbu p y).1/\inP p (zbu p y).2:=⟨jrp hk _,jrp hk _⟩
theorem zcz (a b c:Int):(zcv a b c).2=0\/zcv a b c=((0,[]),10):=by
 unfold zcv
 split
 ·split <;> exact .inl rfl
 ·split
  ·exact .inl rfl
  ·split
   ·exact .inl rfl
   ·exact .inr rfl
theorem zcw (a b c:Int):(zcv a b c).1.2=[]\/∃ k:Nat,k < 3/\(zcv a b c).1.2=[k]:=by
 unfold zcv
 split
 ·split
  ·exact .inl rfl
  ·exact .inr ⟨0,by omega,rfl⟩
 ·split
  ·exact .inr ⟨1,by omega,rfl⟩
  ·split
   ·exact .inr ⟨2,by omega,rfl⟩
   ·exact .inl rfl
theorem zdi {S:St} {c0 c1 c2:Int}:WP (ziz [vA [vU c0,vU c1,vU c2]]) S λ v S'=>S <+: S'/\∃ a n c,v=vT [vU (zcv c0 c1 c2).1.1,.slice a n c,vB (decide ((zcv c0 c1 c2).2=0))]/\Ar S' a n 1 eI ((zcv c0 c1 c2).1.2.map λ k:Nat=>(k:Int))/\∀ y,a=some y->S.length<=y.block:=by
 rw [zj0]
 have hp:=List.prefix_append S [j00.cells [vU c0,vU c1,vU c2] 311 none]
 have z:=jek (S:=S) (o:=j00.cells [vU c0,vU c1,vU c2] 311 none)
 simp only [wps]
 generalize hY:S++[j00.cells [vU c0,vU c1,vU c2] 311 none]=Y at hp z ⊢
 have w1:wI (0+1)=1:=rfl
 have w2:wI (0+2)=2:=rfl
 have w3:wI (1+1)=2:=rfl
 have w4:wI (1+2)=3:=rfl
 have w5:wI (2+1)=3:=rfl
 have w6:wI (2+2)=4:=rfl
 have t1:(1:Int).tmod 3=1:=rfl
 have t2:(2:Int).tmod 3=2:=rfl
 have t3:(3:Int).tmod 3=0:=rfl
 have t4:(4:Int).tmod 3=1:=rfl
 have d1:(λ k:Nat=>(k:Int)) 0=0:=rfl
 have fin:∀ {S':St} {x:Int} {a:Option Addr} {n:Nat} {l:List Nat},Y <+: S'->zcv c0 c1 c2=((x,l),0)->Ar S' a n 1 eI (l.map λ k:Nat=>(k:Int))->(∀ y,a=some y->S.length<=y.block)->S <+: S'/\∃ a' n' c',vT [vU x,.slice a n n,vB true]=vT [vU (zcv c0 c1 c2).1.1,.slice a' n' c',vB (decide ((zcv c0 c1 c2).2=0))]/\Ar S' a' n' 1 eI ((zcv c0 c1 c2).1.2.map λ k:Nat=>(k:Int))/\∀ y,a'=some y->S.length<=y.block:=by
  intro S' x a n l k e h hy
  rw [e]
  exact ⟨hp.trans k,a,n,n,rfl,h,hy⟩
 have hlen:=hp.length_le
 have nw:∀ y,some (ad Y.length 0)=some y->S.length<=y.block:=λ y e=>by cases e;exact hlen
 have one:∀ k:Nat,Ar (Y++[j00.cells [vI (k:Int)] 3 none]) (some (ad Y.length 0)) 1 1 eI (([k]:List Nat).map λ k:Nat=>(k:Int)):=λ k=>Ar.blk (l:=([(k:Int)]:List Int)) jek (λ _ _=>rfl) rfl
 refine zgp ?_
 simp only [wps,w1,w2,t1,t2,j6u z]
 refine ⟨λ _=>⟨by decide,by decide,λ h1=>?_,λ h1=>⟨by decide,λ h2=>?_,λ h2=>?_⟩⟩,λ e=>absurd e (by decide)⟩
 ·refine zgp ?_
  simp only [wps,w3,w4,t2,t3,j6u z]
  refine ⟨λ _=>⟨by decide,by decide,λ h2=>?_,λ h2=>⟨by decide,λ h3=>?_,λ h3=>?_⟩⟩,λ e=>absurd e (by decide)⟩
  ·refine zgp ?_
   simp only [wps,w5,w6,t3,t4,j6u z]
   refine ⟨λ _=>⟨by decide,by decide,λ h3=>?_,λ h3=>⟨by decide,λ h4=>?_,λ h4=>?_⟩⟩,λ e=>absurd e (by decide)⟩
   ·refine zgp ?_
    simp only [wps]
    refine ⟨λ e=>absurd e (by decide),λ _=>?_⟩
    have e:zcv c0 c1 c2=((0,[]),10):=by unfold zcv;rw [if_neg h1,if_neg h2,if_neg h3]
    rw [e]
    exact ⟨hp,none,0,0,rfl,.nil,λ y e=>by cases e⟩
   ·exact absurd h3 (by omega)
   ·exact fin (List.prefix_append _ _) (by unfold zcv;rw [if_neg h1,if_neg h2,if_pos h3]) (one 2) nw
  ·exact absurd h3 (by omega)
  ·exact fin (List.prefix_append _ _) (by unfold zcv;rw [if_neg h1,if_pos h2]) (one 1) nw
 ·exact fin (List.prefix_refl _) (by unfold zcv;rw [if_pos h1,if_pos (by omega)]) .nil (λ y e=>by cases e)
 ·exact fin (List.prefix_append _ _) (by unfold zcv;rw [if_pos h1,if_neg (by omega)]) (one 0) nw
theorem zew {S:St} {a:Option Addr} {c:Nat} {c0 c1 c2:Int} (h:Ar S a 3 1 eU [c0,c1,c2]):WP (ziw [.slice a 3 c]) S λ v S'=>S <+: S'/\∃ a n c,v=vT [vU (zcv c0 c1 c2).1.1,.slice a n c,vI (zcv c0 c1 c2).2]/\Ar S' a n 1 eI ((zcv c0 c1 c2).1.2.map λ k:Nat=>(k:Int))/\∀ y,a=some y->S.length<=y.block:=by
 rw [zix]
 obtain ⟨x,rfl,x0⟩:=h.getU (i:=0) (by simp)
 have x1:=j6t h 1 (v:=c1) rfl
 have x2:=j6t h 2 (v:=c2) rfl
 have x0:S.cell (x.add 0)=some (vU c0):=x0
 rw [j25] at x0
 simp only [wps,x0,x1,x2]
 refine ⟨λ e=>absurd rfl e,λ _=>?_⟩
 refine zdi.mono ?_
 rintro _ S1 ⟨k1,a,n,c',rfl,ha,hn⟩
 simp only [wps]
 refine ⟨λ e=>?_,λ e=>?_⟩
 ·have:=zcz c0 c1 c2
  rcases this with h | h
  ·rw [h] at e;simp at e
  ·rw [h]; exact ⟨k1,none,0,0,rfl,.nil,λ y e=>by cases e⟩
 ·rw [e]
  exact ⟨k1,a,n,c',rfl,ha,hn⟩
abbrev eFx (f:Fx):List Value:=[vI f.ad,vU f.bad,vU f.good]
def j0v (L:Nat) (S':St) (a:Option Addr) (out:List Fx):Prop:=(a=none/\out=[])\/∃ b,a=some ⟨b,0,none⟩/\L<=b/\S'[b]? = some (.cells (out.flatMap eFx) 78 (some 3))
theorem j0v.ar {L:Nat} {S':St} {a:Option Addr} {out:List Fx} (h:j0v L S' a out):Ar S' a out.length 3 eFx out:=by
 rcases h with ⟨rfl,rfl⟩ | ⟨b,rfl,_,hb⟩
 ·exact .nil
 ·exact Ar.blk hb (λ _ _=>rfl) rfl
theorem j0v.pre {L:Nat} {S S':St} {a:Option Addr} {out:List Fx} (h:j0v L S a out) (k:S <+: S'):j0v L S' a out:=h.imp id λ ⟨b,h1,h2,h3⟩=>⟨b,h1,h2,z1w k h3⟩
theorem j0v.lt {L:Nat} {S:St} {a:Option Addr} {out:List Fx} (h:j0v L S a out):∀ i,a=some ⟨i,0,none⟩->L<=i/\i < S.length:=by
 intro i hi
 rcases h with ⟨e,_⟩ | ⟨b,e,e2,hb⟩
 ·rw [hi] at e;cases e
 ·rw [hi] at e;injection e with e;injection e with e;subst e;exact ⟨e2,z1y hb⟩
theorem j0v.keep {L:Nat} {S S':St} {a:Option Addr} {out:List Fx} (h:j0v L S a out) (k:∀ i,a=some ⟨i,0,none⟩->S'[i]? = S[i]?):j0v L S' a out:=by
 rcases h with h | ⟨b,e1,e2,e3⟩
 ·exact .inl h
 ·exact .inr ⟨b,e1,e2,by rw [k b e1]; exact e3⟩
theorem zgi {L:Nat} {S:St} {a:Option Addr} {n:Nat} {out:List Fx} {y:Fx} {Q:Sl->St->Prop} (h:j0v L S a out) (hn:n=out.length) (hsz:n<=1000000) (hL:L<=S.length)
 (q:∀ b S',S.length<=b->b < S'.length->S.length<=S'.length->(∀ i,i < S.length->a≠some ⟨i,0,none⟩->S'[i]? = S[i]?)->j0v L S' (some ⟨b,0,none⟩) (out++[y])->Q ⟨some ⟨b,0,none⟩,n+1,n+1⟩ S') :
 WP (rdN (some (ad S.length 0)) 3) (S++[j00.cells [vI y.ad,vU y.bad,vU y.good] 78 none]) λ xs S1=>WP (j33 78 3 24 a n n 1 xs) S1 Q:=by
 refine z4y (jek (S:=S) (o:=j00.cells [vI y.ad,vU y.bad,vU y.good] 78 none)) rfl ?_
 have own':(a=none/\n=0/\out.flatMap eFx=[])\/∃ b,a=some ⟨b,0,none⟩/\(S++[j00.cells [vI y.ad,vU y.bad,vU y.good] 78 none])[b]? = some (.cells (out.flatMap eFx) 78 (some 3)):=by
  rcases h with ⟨e1,e2⟩ | ⟨b,e1,_,e3⟩
  ·exact .inl ⟨e1,by rw [hn,e2]; rfl,by rw [e2]; rfl⟩
  ·exact .inr ⟨b,e1,jeh e3⟩
 refine zft own' (by rw [jcv (e:=eFx) (w:=3) (λ _=>rfl)]; omega) (by omega) (by omega) (by omega) rfl ?_
 intro S' h1 h2 h3
 simp only [List.length_append,List.length_singleton] at h1 h2 h3 ⊢
 refine q _ S' (by omega) (by omega) (by omega) (λ i hi hne=>by rw [h2 i (by omega) hne,List.getElem?_append_left hi]) (.inr ⟨_,rfl,by omega,?_⟩)
 rw [h3,List.flatMap_append]; rfl
theorem z21 {S S1 S2:St} (h:S <+: S1) (hl:S1.length<=S2.length) (k:∀ i,i < S.length->S2[i]? = S1[i]?):S <+: S2:=by
 have hs:=h.length_le
 refine ⟨S2.drop S.length,?_⟩
 have : S2.take S.length=S:=by
  apply List.ext_getElem?
  intro i
  rw [List.getElem?_take]
  split
  ·rename_i hi;rw [k i hi,z1u h hi]
  ·rw [List.getElem?_eq_none (by omega)]
 conv=>rhs;rw [<- List.take_append_drop S.length S2,this]
abbrev uN (t:List Int) (j:Nat):(Int×List Nat)×Int:=zcv (t.getD (3*j) 0) (t.getD (3*j+1) 0) (t.getD (3*j+2) 0)
def fxU (t:List Int) (j:Nat):List Fx:=(List.range j).flatMap λ i=>jdl t (3*i) (uN t i).1.1 (uN t i).1.2
def jzl (t:List Int) (j:Nat):List Int:=(List.range j).map (λ i=>(uN t i).1.1)++List.replicate (2-j) 0
theorem jdm (t:List Int) (j:Nat):fxU t (j+1)=fxU t j++jdl t (3*j) (uN t j).1.1 (uN t j).1.2:=by
 unfold fxU;rw [List.range_succ,List.flatMap_append]; simp
theorem jzn (t:List Int) {j:Nat} (h:j < 2):(jzl t j).set j (uN t j).1.1=jzl t (j+1):=by
 rcases (show j=0\/j=1 by omega) with rfl | rfl <;> rfl
theorem jzm (t:List Int) {j:Nat} (h:j<=2):(jzl t j).length=2:=by
 unfold jzl;simp;omega
theorem j6z {t:List Int} {j:Nat} (h:j < 2) (e:(uN t j).2≠0):(j6y t).2≠0:=by
 unfold j6y
 rcases (show j=0\/j=1 by omega) with rfl | rfl
 ·rw [if_pos (show (zcv (t.getD 0 0) (t.getD 1 0) (t.getD 2 0)).2≠0 from e)]; decide
 ·by_cases h0:(zcv (t.getD 0 0) (t.getD 1 0) (t.getD 2 0)).2≠0
  ·rw [if_pos h0]; decide
  ·rw [if_neg h0,if_pos (show (zcv (t.getD 3 0) (t.getD 4 0) (t.getD 5 0)).2≠0 from e)]; decide
theorem j70 {t:List Int} (h:∀ i < 2,(uN t i).2=0):j6y t=((((uN t 0).1.1,(uN t 1).1.1),fxU t 2),0):=by
 have h0:(zcv (t.getD 0 0) (t.getD 1 0) (t.getD 2 0)).2=0:=h 0 (by omega)
 have h1:(zcv (t.getD 3 0) (t.getD 4 0) (t.getD 5 0)).2=0:=h 1 (by omega)
 unfold j6y
 rw [if_neg (λ h=>h h0),if_neg (λ h=>h h1)]
 have e:fxU t 2=jdl t 0 (uN t 0).1.1 (uN t 0).1.2++jdl t 3 (uN t 1).1.1 (uN t 1).1.2:=by rw [jdm,jdm]; rfl
 rw [e]
set_option maxHeartbeats 1000000 in
theorem j6w {S:St} {a:Option Addr} {c:Nat} {t:List Int} (h:Ar S a 6 1 eU t) (hc:6<=c) :
 WP (ziq [.slice a 6 c]) S λ v S'=>S <+: S'/\(((j6y t).2=0/\∃ ob fa,v=vT [.slice (some ⟨ob,0,none⟩) 2 2,.slice fa (j6y t).1.2.length (j6y t).1.2.length,vI 0]/\Ar S' (some ⟨ob,0,none⟩) 2 1 eU [(j6y t).1.1.1,(j6y t).1.1.2]/\j0v S.length S' fa (j6y t).1.2) \/
  ((j6y t).2≠0/\v=vT [.slice none 0 0,.slice none 0 0,vI 10])):=by
 rw [zir]
 have tl:t.length=6:=h.1.symm
 have e1:((6:Nat):Int).tmod 3=0:=rfl
 have e2:wI (((6:Nat):Int).tdiv 3)=2:=rfl
 simp only [wps,e1,e2,zhy]
 refine ⟨λ e=>absurd e (by decide),λ _=>⟨by decide,?_⟩⟩
 have pw:=List.prefix_append S [j00.cells (List.replicate 2 (vU 0)) 24 none]
 have zw:=jek (S:=S) (o:=j00.cells (List.replicate 2 (vU 0)) 24 none)
 refine zgd (λ st S' m=>∃ (j:Nat) (fa:Option Addr),st=[.slice fa (fxU t j).length (fxU t j).length,vN j]/\2-j=m/\j<=2/\S <+: S'/\j0v (S.length+1) S' fa (fxU t j)/\S'[S.length]? = some (.cells ((jzl t j).flatMap eU) 24 none)/\∀ i < j,(uN t i).2=0) ?_ 2 _ _ ⟨0,none,rfl,rfl,by omega,pw,.inl ⟨rfl,rfl⟩,by rw [zw]; rfl,λ i hi=>by omega⟩
 rintro st S1 _ ⟨j,fa,rfl,rfl,hj,k1,hf,hb,hok⟩
 simp only [wps]
 refine ⟨λ h3=>?_,λ h3=>?_⟩
 ·have hj':j=0\/j=1:=by omega
  have ht:(t.drop (3*j)).take 3=[t.getD (3*j) 0,t.getD (3*j+1) 0,t.getD (3*j+2) 0]:=by
   obtain ⟨a,b,c,d,e,f,rfl⟩:=z98 tl
   rcases hj' with rfl | rfl <;> rfl
  have x1:wI ((j:Int)*3)=((3*j:Nat):Int):=by rw [wI_ (by omega) (by omega)]; omega
  have x2:wI (wI ((j:Int)+1)*3)=((3*j+3:Nat):Int):=by rw [wI_ (n:=(j:Int)+1) (by omega) (by omega),wI_ (by omega) (by omega)]; omega
  rw [x1,x2]
  refine j8e (h.mono k1) (λ _=>rfl) (by decide) (by omega) (by omega) (by omega) hc ?_
  intro u k hk hu
  rw [show (((3*j+3:Nat):Int)).toNat-(((3*j:Nat):Int)).toNat=3 by omega,Int.toNat_natCast] at hu
  rw [show (((3*j+3:Nat):Int)).toNat-(((3*j:Nat):Int)).toNat=3 by omega]
  rw [ht] at hu
  dsimp only
  refine (zew (c:=k) hu).mono ?_
  rintro _ S2 ⟨k2,at',an,ac,rfl,hat,hnew⟩
  simp only [wps]
  refine ⟨λ e=>?_,λ e=>?_⟩
  ·rcases zcz (t.getD (3*j) 0) (t.getD (3*j+1) 0) (t.getD (3*j+2) 0) with q | q
   ·exact absurd q e
   ·refine ⟨k1.trans k2,.inr ⟨j6z (j:=j) (by omega) e,by rw [q]⟩⟩
  ·have hb2:=z1w k2 hb
   have hol:=jzm t hj
   have hfl:=jcv (e:=eU) (w:=1) (λ _=>rfl) (jzl t j)
   have hput:=(Ob.refl (e:=eU) hb2).put (w:=1) (λ _=>rfl) (i:=j) (by omega) (uN t j).1.1
   rw [Nat.mul_one] at hput
   have l1:=k1.length_le
   have lb:=z1y hb
   simp only [wps,hb2,Int.toNat_natCast]
   refine ⟨by rw [e2]; omega,by omega,?_⟩
   have p3:S <+: S2.set S.length (j00.cells (splice ((jzl t j).flatMap eU) j [vU (uN t j).1.1]) 24 none):=z24 (k1.trans k2) (Nat.le_refl _)
   have f3:j0v (S.length+1) (S2.set S.length (j00.cells (splice ((jzl t j).flatMap eU) j [vU (uN t j).1.1]) 24 none)) fa (fxU t j):=(hf.pre k2).keep λ i hi=>by
    have:=hf.lt i hi
    rw [List.getElem?_set_ne (by omega)]
   have a3:Ar (S2.set S.length (j00.cells (splice ((jzl t j).flatMap eU) j [vU (uN t j).1.1]) 24 none)) at' an 1 eI ((uN t j).1.2.map λ k:Nat=>(k:Int)):=hat.keepL λ y hy=>by
    have:=hnew y hy
    rw [List.getElem?_set_ne (by omega)]
   have b3:=hput.at_
   rw [jzn t (by omega)] at b3
   have b3:(S2.set S.length (j00.cells (splice ((jzl t j).flatMap eU) j [vU (uN t j).1.1]) 24 none))[S.length]? = some (.cells ((jzl t (j+1)).flatMap eU) 24 none):=b3
   generalize S2.set S.length (j00.cells (splice ((jzl t j).flatMap eU) j [vU (uN t j).1.1]) 24 none)=S3 at p3 f3 a3 b3 ⊢
   have fs:=jdm t j
   have ok':∀ i < j+1,(uN t i).2=0:=λ i hi=>by
    rcases (show i < j\/i=j by omega) with h | rfl
    ·exact hok i h
    ·exact e
   rcases zcw (t.getD (3*j) 0) (t.getD (3*j+1) 0) (t.getD (3*j+2) 0) with q | ⟨k,hk3,q⟩
   ·have q:(uN t j).1.2=[]:=q
    rw [q] at a3 fs
    have fs:fxU t (j+1)=fxU t j:=by rw [fs]; simp [jdl]
    have an0:an=0:=a3.1
    subst an0
    refine zgp ?_
    simp only [wps]
    refine ⟨λ e=>by omega,λ _=>?_⟩
    rw [wI_ (n:=(j:Int)+1) (by omega) (by omega)]
    exact ⟨2-(j+1),by omega,j+1,fa,by rw [fs]; rfl,rfl,by omega,p3,by rw [fs]; exact f3,b3,ok'⟩
   ·have q:(uN t j).1.2=[k]:=q
    rw [q] at a3 fs
    have an0:an=1:=a3.1
    subst an0
    refine zgp ?_
    obtain ⟨x,rfl,c0⟩:=(h.mono p3).getU (i:=3*j+k) (by omega)
    obtain ⟨y,rfl,c1⟩:=a3.getI (i:=0) (by simp)
    have c1:St.cell S3 y=some (vI (k:Int)):=by have c1:St.cell S3 (y.add 0)=some (vI (k:Int)):=c1;rwa [j25] at c1
    have y1:wI (((3*j:Nat):Int)+(k:Int))=((3*j+k:Nat):Int):=by rw [wI_ (by omega) (by omega)]; omega
    have c0:St.cell S3 (x.add (3*j+k))=some (vU (t.getD (3*j+k) 0)):=by
     rw [List.getD_eq_getElem?_getD,List.getElem?_eq_getElem (by omega)]; exact c0
    simp only [wps,c1,y1,c0,Int.toNat_natCast]
    have fl:(fxU t j).length<=100:=by
     unfold fxU
     rcases hj' with rfl | rfl
     ·simp
     ·simp [jdl]
      rcases zcw (t.getD 0 0) (t.getD 1 0) (t.getD 2 0) with q | ⟨k,_,q⟩
      ·have q:(uN t 0).1.2=[]:=q
       rw [q]; simp
      ·have q:(uN t 0).1.2=[k]:=q
       rw [q]; simp
    have l3:=p3.length_le
    have lb3:=z1y b3
    refine ⟨λ _=>⟨by omega,by omega,?_⟩,λ e=>by omega⟩
    refine zgi (y:=⟨((3*j+k:Nat):Int),t.getD (3*j+k) 0,(uN t j).1.1⟩) f3 rfl (by omega) (by omega) ?_
    intro b S4 h1 h2 h3 h4 h5
    have w1:wI (0+1)=1:=rfl
    simp only [wps,w1]
    refine zgp ?_
    simp only [wps]
    refine ⟨λ e=>by omega,λ _=>?_⟩
    rw [wI_ (n:=(j:Int)+1) (by omega) (by omega)]
    have fs:fxU t (j+1)=fxU t j++[⟨((3*j+k:Nat):Int),t.getD (3*j+k) 0,(uN t j).1.1⟩]:=by rw [fs]; rfl
    have hfa:∀ i,fa=some ⟨i,0,none⟩->S.length+1<=i:=λ i hi=>(f3.lt i hi).1
    refine ⟨2-(j+1),by omega,j+1,some ⟨b,0,none⟩,by rw [fs]; simp,rfl,by omega,?_,by rw [fs]; exact h5,?_,ok'⟩
    ·refine z21 p3 h3 λ i hi=>h4 i (by omega) λ e=>by have:=hfa i e;omega
    ·rw [h4 _ lb3 λ e=>by have:=hfa _ e;omega]; exact b3
 ·obtain rfl:j=2:=by omega
  rw [j70 hok]
  dsimp only
  refine ⟨k1,.inl ⟨rfl,_,_,rfl,?_,hf.imp id λ ⟨b,h1,h2,h3⟩=>⟨b,h1,by omega,h3⟩⟩⟩
  exact Ar.blk (l:=[(uN t 0).1.1,(uN t 1).1.1]) hb (λ _ _=>rfl) rfl
theorem z09 {S:St} {p:Int} {a:Option Addr} {n cc:Nat} {c:List Int} (h:Ar S a n 1 eU c) (hcc:n<=cc) (hb:n<=1000000) :
 WP (jg9 [vU p,.slice a n cc]) S λ v S'=>S'=S/\((jt3 p=false/\v=vT [.slice none 0 0,.slice none 0 0,vI 2])\/(jt3 p=true/\(n < 7\/4102 < n)/\v=vT [.slice none 0 0,.slice none 0 0,vI 6]) \/
  (jt3 p=true/\7<=n/\n<=4102/\∃ x xc t tc,v=vT [.slice x (n-6) xc,.slice t 6 tc,vI 0]/\Ar S x (n-6) 1 eU (c.take (n-6))/\Ar S t 6 1 eU (c.drop (n-6))/\n-6<=xc/\6<=tc)):=by
 rw [jga]
 have hn:=h.1
 have e1:wI ((n:Int)-6)=(n:Int)-6:=wI_ (by omega) (by omega)
 simp only [wps,jt8,e1]
 refine ⟨λ hk=>.inl hk,λ hk=>⟨λ h1=>.inr (.inl ⟨hk,.inl (by omega)⟩),λ h1=>⟨λ h2=>.inr (.inl ⟨hk,.inr (by omega)⟩),λ h2=>?_⟩⟩⟩
 have e2:(n:Int)-6=((n-6:Nat):Int):=by omega
 rw [e2]
 refine j8e h (λ _=>rfl) (by decide) (by omega) (by omega) (by omega) hcc ?_
 intro u1 k1 hk1 hu1
 simp only [Int.toNat_natCast,Int.toNat_zero,List.drop_zero,Nat.sub_zero,Int.natCast_zero] at hu1 hk1 ⊢
 refine j8e h (λ _=>rfl) (by decide) (by omega) (by omega) (by omega) hcc ?_
 intro u2 k2 hk2 hu2
 simp only [Int.toNat_natCast] at hu2 hk2 ⊢
 have e6:n-(n-6)=6:=by omega
 rw [e6] at hu2 hk2 ⊢
 rw [List.take_of_length_le (by rw [List.length_drop]; omega)] at hu2
 simp only [wps]
 exact .inr (.inr ⟨hk,by omega,by omega,u1,k1,u2,k2,rfl,hu1,hu2,hk1,hk2⟩)
def j5s (p:Int) (x:List Int) (j:Nat):List Nat:=(List.range j).filter λ i=>!decide (x.getD i 0 < p)
theorem j5u (p:Int) (x:List Int) (j:Nat):j5s p x (j+1)=if x.getD j 0 < p then j5s p x j else j5s p x j++[j]:=by
 unfold j5s
 rw [List.range_succ,List.filter_append]
 by_cases h:x.getD j 0 < p
 ·rw [if_pos h]; simp [List.filter_cons,h]
  have : ¬ p<=x.getD j 0:=by omega
  rw [List.getD_eq_getElem?_getD] at this
  omega
 ·rw [if_neg h]; simp [List.filter_cons]
  rw [List.getD_eq_getElem?_getD] at h
  omega
theorem j5t (p:Int) (x:List Int):∀ j,(j5s p x j).length<=j:=λ j=>by
 unfold j5s
 exact Nat.le_trans (List.length_filter_le _ _) (by simp)
def ju4 (l:List Nat):Nat:=l.getLast?.getD 0
theorem ju5 (l:List Nat) (j:Nat):ju4 (l++[j])=j:=by simp [ju4]
theorem jrx {p y:Int} (hk:jt3 p=true):inV p [y]=decide (y < p):=by
 unfold inV;rw [hk]; simp
def zgw (p:Int) (x:List Int) (w:Int×Int) (o:Option Nat):(Int×Int)×Int:=match o with
 | none => ((0, 0), 2)
 | some i => if jxc p (zbg p w.1 (zbu p x).1) ((i : Int) + 1) ≠ zbg p w.2 (zbu p x).2 then ((0, 0), 2) else (((i : Int), j1t p (x.getD i 0) (zbg p w.1 (zbu p x).1)), 1)
theorem zgy {p:Int} {x:List Int} {w:Int×Int} (c1:¬ 1 < (j5q p x).length) (c2:¬ ((j5q p x).length=0/\zbu p x=w)):zgx p x w=zgw p x w (zfd p x (zbg p w.1 (zbu p x).1) (zbg p w.2 (zbu p x).2)):=by
 unfold zgx zgw;rw [if_neg c1,if_neg c2]; rfl
set_option maxHeartbeats 1000000 in
theorem zhj {S:St} {p:Int} {a:Option Addr} {n nb hb:Nat} {x:List Int} {w:Int×Int} (hk:jt3 p=true) (h:Ar S a n 1 eU x) (hbn:n<=4096) (hi:∀ y∈x,inU y) (hw:inU w.1/\inU w.2)
 (zn:S[nb]? = some (j00.cells [vU w.1,vU w.2] 218 none)) (zh:S[hb]? = some (j00.cells [vU (zbu p x).1,vU (zbu p x).2] 218 none))
 (c1:¬ 1 < (j5q p x).length) (c2:¬ ((j5q p x).length=0/\zbu p x=w)) :
 WP (jtg p a n nb hb (0,[vN (ju4 (j5q p x)),vN (j5q p x).length])) S λ q S'=>S <+: S'/\q=(0,[vT [vI (zgx p x w).1.1,vU (zgx p x w).1.2,vI (zgx p x w).2]]):=by
 have hn:=h.1
 unfold jtg
 have hs:=zbw hk x
 have u1:=jru hk hs.1
 have u2:=jru hk hs.2
 have s0:inU (zbg p w.1 (zbu p x).1):=jru hk (jrt hk _ _)
 simp only [wps,j6u zn,j6u zh,gcz,gcs,zbj hw.1 u1,zbj hw.2 u2]
 have wV:=zgy c1 c2
 have hpos:∀ i:Nat,wU (wU (i:Int)+1)=(i:Int)+1\/4096 < i:=λ i=>by
  by_cases hi:4096 < i
  ·exact .inr hi
  ·left;rw [wU_ (n:=(i:Int)) (by omega) (by omega),wU_ (by omega) (by omega)]
 generalize hd0:zbg p w.1 (zbu p x).1=d0 at *
 generalize hd1:zbg p w.2 (zbu p x).2=d1 at *
 have hT0:zfd p x d0 d1=none->zgx p x w=((0,0),2):=λ e=>by rw [wV,e]; rfl
 have hT1:∀ i:Nat,zfd p x d0 d1=some i->zgx p x w=if jxc p d0 ((i:Int)+1)≠d1 then ((0,0),2) else (((i:Int),j1t p (x.getD i 0) d0),1):=λ i e=>by rw [wV,e]; unfold zgw;rw [hd0,hd1]
 have hlen:(j5q p x).length=0\/(j5q p x).length=1:=by omega
 have two:∀ i:Nat,i < n->inU ((i:Int)+1):=λ i hi=>⟨by omega,by omega⟩
 have last:∀ (i:Nat) (S':St),S <+: S'->i < n->zfd p x d0 d1=some i ->
  ((jxc p d0 ((i:Int)+1)≠d1->S <+: S'/\(0,[vT [vI 0,vU 0,vI 2]])=(0,[vT [vI (zgx p x w).1.1,vU (zgx p x w).1.2,vI (zgx p x w).2]])) /\
   (jxc p d0 ((i:Int)+1)=d1->S <+: S'/\(0,[vT [vI (i:Int),vU (j1t p (x.getD i 0) d0),vI 1]])=(0,[vT [vI (zgx p x w).1.1,vU (zgx p x w).1.2,vI (zgx p x w).2]]))):=λ i S' k hi e=>by
  rw [hT1 i e]
  exact ⟨λ e=>⟨k,by rw [if_pos e]⟩,λ e=>⟨k,by rw [if_neg (λ h=>h e)]⟩⟩
 refine ⟨λ m0=>?_,λ m0=>?_⟩
 ·have m0:(j5q p x).length=0:=by omega
  have hwh:zfd p x d0 d1=if d0=0 then none else jc7 p d0 d1 n d0 0:=by unfold zfd;rw [if_pos m0,hn]
  refine zgd (λ st S' m=>∃ (at_:Int) (j:Nat) (s:Int),st=[vI at_,vN j,vU s]/\n-j=m/\j<=n/\inU s/\S'=S/\((at_ = -1/\(d0≠0->jc7 p d0 d1 n d0 0=jc7 p d0 d1 (n-j) s j))\/(∃ i:Nat,at_=i/\i < n/\d0≠0/\jc7 p d0 d1 n d0 0=some i))) ?_ n _ _ ⟨-1,0,d0,rfl,rfl,by omega,s0,rfl,.inl ⟨rfl,λ _=>rfl⟩⟩
  rintro st S1 _ ⟨at_,j,s,rfl,rfl,hj,hsu,rfl,hat⟩
  simp only [wps,j1w hsu s0]
  rcases hat with ⟨rfl,hf⟩ | ⟨i,rfl,hi',hd,hf⟩
  ·have nf:zfd p x d0 d1=none->S1 <+: S1/\(0,[vT [vI 0,vU 0,vI 2]])=(0,[vT [vI (zgx p x w).1.1,vU (zgx p x w).1.2,vI (zgx p x w).2]]):=λ e=>by
    rw [hT0 e]; exact ⟨List.prefix_refl _,rfl⟩
   have hsn:inU (j1t p s d0):=jru hk (jrn hk _ _)
   refine ⟨λ e1=>⟨λ e2=>⟨λ e3=>⟨λ e4=>?_,λ e4=>?_⟩,λ e3=>absurd (by decide) e3⟩,λ e2=>⟨λ _=>nf ?_,λ e=>absurd (by decide) e⟩⟩,λ e1=>⟨λ _=>nf ?_,λ e=>absurd (by decide) e⟩⟩
   ·rw [wI_ (n:=(j:Int)+1) (by omega) (by omega)]
    refine ⟨n-(j+1),by omega,j,j+1,j1t p s d0,rfl,rfl,by omega,hsn,.inr ⟨j,rfl,by omega,e2,?_⟩⟩
    rw [hf e2,show n-j=(n-(j+1))+1 by omega]; unfold jc7;rw [if_pos e4]
   ·rw [wI_ (n:=(j:Int)+1) (by omega) (by omega)]
    refine ⟨n-(j+1),by omega,-1,j+1,j1t p s d0,rfl,rfl,by omega,hsn,.inl ⟨rfl,λ _=>?_⟩⟩
    rw [hf e2,show n-j=(n-(j+1))+1 by omega]; conv=>lhs;unfold jc7
    rw [if_neg e4]
   ·rw [hwh,if_pos e2]
   ·rw [hwh]
    by_cases e0:d0=0
    ·rw [if_pos e0]
    ·rw [if_neg e0,hf e0,show n-j=0 by omega]; rfl
  ·have hw2:zfd p x d0 d1=some i:=by rw [hwh,if_neg hd,hf]
   have hq:wU (wU (i:Int)+1)=(i:Int)+1:=(hpos i).resolve_right (by omega)
   obtain ⟨y,rfl,c0⟩:=h.getU (i:=i) (by omega)
   have hxi:inU x[i]:=hi _ (List.getElem_mem _)
   have hxd:x.getD i 0=x[i]:=by rw [List.getD_eq_getElem?_getD,List.getElem?_eq_getElem (by omega)]; rfl
   have fin:=last i S1 (List.prefix_refl _) hi' hw2
   rw [hxd] at fin
   refine ⟨λ e1=>⟨λ e2=>⟨λ e3=>absurd e3 (by omega),λ e3=>⟨λ e=>absurd e (by omega),λ _=>?_⟩⟩,λ e2=>⟨λ e=>absurd e (by omega),λ _=>?_⟩⟩,λ e1=>⟨λ e=>absurd e (by omega),λ _=>?_⟩⟩
   all_goals
    simp only [hq,wps,jxn s0 (two i hi'),c0,Int.toNat_natCast,j1w hxi s0]
    exact ⟨fin.1,λ e=>⟨by omega,fin.2 e⟩⟩
 ·obtain ⟨i,hb1⟩:=List.length_eq_one_iff.1 (show (j5q p x).length=1 by omega)
  have hl:ju4 (j5q p x)=i:=by rw [hb1]; rfl
  have hi':i < n:=by have:=(jwo (p:=p) (x:=x) (j:=i)).1 (by rw [hb1]; simp); omega
  have hw2:zfd p x d0 d1=some i:=by unfold zfd;rw [if_neg (by omega),hb1]; rfl
  have hq:wU (wU (i:Int)+1)=(i:Int)+1:=(hpos i).resolve_right (by omega)
  obtain ⟨y,rfl,c0⟩:=h.getU (i:=i) (by omega)
  have hxi:inU x[i]:=hi _ (List.getElem_mem _)
  have hxd:x.getD i 0=x[i]:=by rw [List.getD_eq_getElem?_getD,List.getElem?_eq_getElem (by omega)]; rfl
  have fin:=last i S (List.prefix_refl _) hi' hw2
  rw [hxd] at fin
  rw [hl]
  simp only [hq,wps,jxn s0 (two i hi'),c0,Int.toNat_natCast,j1w hxi s0]
  exact ⟨fin.1,λ e=>⟨by omega,fin.2 e⟩⟩
theorem zf1 {S:St} {p:Int} {a:Option Addr} {n nb hb:Nat} {u v z:Int} {Q:Nat×List Value->St->Prop} (h:Q (0,[vT [vI u,vU v,vI z]]) S):WP (jtg p a n nb hb (1,[vI u,vU v,vI z])) S Q:=by
 unfold jtg
 simp only [wps]
 exact h
set_option maxHeartbeats 1000000 in
theorem zh2 {S:St} {p:Int} {a:Option Addr} {n c:Nat} {x:List Int} {w0 w1:Int} (hk:jt3 p=true) (h:Ar S a n 1 eU x) (hb:n<=4096) (hi:∀ y∈x,inU y) (hw0:inU w0) (hw1:inU w1) :
 WP (jgr [vU p,.slice a n c,vA [vU w0,vU w1]]) S λ v S'=>S <+: S'/\v=vT [vI (zgx p x (w0,w1)).1.1,vU (zgx p x (w0,w1)).1.2,vI (zgx p x (w0,w1)).2]:=by
 rw [jgs]
 have hn:=h.1
 have pw:=List.prefix_append S [j00.cells [vU w0,vU w1] 218 none]
 have zw:=jek (S:=S) (o:=j00.cells [vU w0,vU w1] 218 none)
 simp only [wps]
 generalize hY:S++[j00.cells [vU w0,vU w1] 218 none]=Y at pw zw ⊢
 refine zgd (λ st S' m=>∃ j:Nat,st=[vN (ju4 (j5s p x j)),vN (j5s p x j).length,vN j]/\n-j=m/\j<=n/\Y <+: S') ?_ n _ _ ⟨0,rfl,rfl,by omega,List.prefix_refl _⟩
 rintro st S1 _ ⟨j,rfl,rfl,hj,k1⟩
 simp only [wps]
 refine ⟨λ h3=>?_,λ h3=>?_⟩
 ·obtain ⟨y,rfl,c0⟩:=(h.mono (pw.trans k1)).getU (i:=j) (by omega)
  have har:Ar (S1++[j00.cells [vU x[j]] 24 none]) (some (ad S1.length 0)) 1 1 eU [x[j]]:=Ar.blk (l:=[x[j]]) jek (λ _ _=>rfl) rfl
  have hin:=jry (p:=p) (c:=1) har (by omega)
  rw [jrx hk] at hin
  have hgx:x.getD j 0=x[j]:=by rw [List.getD_eq_getElem?_getD,List.getElem?_eq_getElem (by omega)]; rfl
  have hs:=j5u p x j
  rw [hgx] at hs
  have hbl:=j5t p x j
  simp only [wps,c0,Int.toNat_natCast,hin.wp]
  rw [wI_ (n:=(j:Int)+1) (by omega) (by omega),wI_ (n:=((j5s p x j).length:Int)+1) (by omega) (by omega)]
  refine ⟨by omega,λ e=>?_,λ e=>?_⟩
  ·rw [if_neg e] at hs
   exact ⟨n-(j+1),by omega,j+1,by rw [hs,ju5,List.length_append]; rfl,rfl,by omega,k1.trans (List.prefix_append _ _)⟩
  ·rw [if_pos e] at hs
   exact ⟨n-(j+1),by omega,j+1,by rw [hs]; rfl,rfl,by omega,k1.trans (List.prefix_append _ _)⟩
 ·obtain rfl:j=n:=by omega
  have hbL:j5s p x j=j5q p x:=by rw [hn]; rfl
  rw [hbL]
  have r1:z6r p x=(zbu p x).1:=by rw [<- z78 hk]
  have r2:(z6u p x).1=(zbu p x).2:=by rw [<- z78 hk]
  refine (j7q (C:=noC) (c:=c) (h.mono (pw.trans k1)) (by omega) hi).mono ?_
  rintro _ S2 ⟨rfl,k2⟩
  rw [r1,r2]
  have k12:=k1.trans k2
  have z2:=z1w k12 zw
  have pz:=List.prefix_append S2 [j00.cells [vU (zbu p x).1,vU (zbu p x).2] 218 none]
  have zz:=jek (S:=S2) (o:=j00.cells [vU (zbu p x).1,vU (zbu p x).2] 218 none)
  have z22:=z1w pz z2
  have pS:=pw.trans (k12.trans pz)
  generalize hZ:S2++[j00.cells [vU (zbu p x).1,vU (zbu p x).2] 218 none]=Z at pz zz z22 pS
  have tail:¬ 1 < (j5q p x).length->¬ ((j5q p x).length=0/\zbu p x=(w0,w1))->WP (jtg p a j S.length S2.length (0,[vN (ju4 (j5q p x)),vN (j5q p x).length])) Z λ q S'=>WP (jzc q) S' λ v S'=>S <+: S'/\v=vT [vI (zgx p x (w0,w1)).1.1,vU (zgx p x (w0,w1)).1.2,vI (zgx p x (w0,w1)).2]:=λ c1 c2=>by
   refine (zhj (w:=(w0,w1)) hk (h.mono pS) hb hi ⟨hw0,hw1⟩ z22 zz c1 c2).mono ?_
   rintro _ S3 ⟨k3,rfl⟩
   simp only [wps]
   exact pS.trans k3
  have e0:∀ q:Int×Int,eqL [vU q.1,vU q.2] [vU w0,vU w1]=decide (q=(w0,w1)):=by
   rintro ⟨a,b⟩
   rw [Bool.eq_iff_iff]
   simp [eqL]
  have e0:=e0 (zbu p x)
  simp only [wps,hZ,j6u z22,gcz,gcs,e0]
  refine ⟨λ c1=>zf1 ?_,λ c1=>⟨λ c2=>⟨λ e=>zf1 ?_,λ e=>?_⟩,λ c2=>tail (by omega) λ h=>c2 (by omega)⟩⟩
  ·have : zgx p x (w0,w1)=((0,0),2):=by unfold zgx;rw [if_pos (by omega)]
   rw [this]
   simp only [wps]
   refine ⟨pS,?_⟩
   have : (if (2:Int) < ((j5q p x).length:Int) then (2:Int) else ((j5q p x).length:Int))=2:=by split <;> omega
   rw [this]
  ·have : zgx p x (w0,w1)=((0,0),0):=by unfold zgx;rw [if_neg (by omega),if_pos ⟨by omega,e⟩]
   rw [this,if_neg (by omega),c2]
   simp only [wps]
   exact pS
  ·exact tail (by omega) λ h=>e h.2
theorem jec {S:St} {p:Option Addr} {n:Nat} {l:List Fx} (h:Ar S p n 3 eFx l) {i:Nat} (hi:i < l.length) :
 ∃ a,p=some a/\S.cell (a.add (i*3))=some (vI l[i].ad)/\S.cell ((a.add (i*3)).add 1)=some (vU l[i].bad)/\S.cell ((a.add (i*3)).add 2)=some (vU l[i].good):=by
 obtain ⟨a,h1,h2⟩:=h.2 i hi
 exact ⟨a,h1,by have:=h2 0 _ rfl;rwa [j25] at this,h2 1 _ rfl,h2 2 _ rfl⟩
set_option maxHeartbeats 1000000 in
theorem jcn {S:St} {L n xc on oc:Nat} {xa ca a oa:Option Addr} {cc:Nat} {cl f0:List Fx} (hc:Ar S ca cl.length 3 eFx cl) (hf:j0v L S a f0) (hL:L<=S.length) (hcl:cl.length<=100) (hf0:f0.length<=100) (hn:n<=1000000)
 (had:∀ f∈cl,0<=f.ad/\f.ad<=1000) (hne:∀ y,ca=some y->y.block < S.length/\a≠some ⟨y.block,0,none⟩) :
 WP (jte ⟨xa,n,xc⟩ ⟨ca,cl.length,cc⟩ ⟨oa,on,oc⟩ (0,[.slice a f0.length f0.length])) S λ q S'=>∃ fa,q=(0,[vT [.slice oa on oc,.slice fa (f0++cl.map (Fx.up n)).length (f0++cl.map (Fx.up n)).length,vI 0]])/\j0v L S' fa (f0++cl.map (Fx.up n))/\(fa=a\/∃ b,fa=some ⟨b,0,none⟩/\S.length<=b)/\S.length<=S'.length/\∀ i,i < S.length->a≠some ⟨i,0,none⟩->S'[i]? = S[i]?:=by
 unfold jte
 simp only [wps]
 refine zgd (λ st S' m=>∃ (j:Nat) (fa:Option Addr),st=[.slice fa (f0++(cl.take j).map (Fx.up n)).length (f0++(cl.take j).map (Fx.up n)).length,vN j]/\cl.length-j=m/\j<=cl.length/\j0v L S' fa (f0++(cl.take j).map (Fx.up n))/\(fa=a\/∃ b,fa=some ⟨b,0,none⟩/\S.length<=b)/\S.length<=S'.length/\∀ i,i < S.length->a≠some ⟨i,0,none⟩->S'[i]? = S[i]?) ?_ cl.length _ _ ⟨0,a,by simp,rfl,by omega,by simpa using hf,.inl rfl,Nat.le_refl _,λ _ _ _=>rfl⟩
 rintro st S1 _ ⟨j,fa,rfl,rfl,hj,h1,h2,h3,h4⟩
 simp only [wps]
 refine ⟨λ h5=>?_,λ h5=>?_⟩
 ·have hc1:Ar S1 ca cl.length 3 eFx cl:=hc.keepL λ y hy=>h4 _ (hne y hy).1 (hne y hy).2
  obtain ⟨y,rfl,b0,b1,b2⟩:=jec hc1 (i:=j) (by omega)
  have hm:=had cl[j] (List.getElem_mem _)
  simp only [wps,Int.toNat_natCast,b0,b1,b2]
  rw [wI_ (n:=cl[j].ad+(n:Int)) (by omega) (by omega),wI_ (n:=(j:Int)+1) (by omega) (by omega)]
  have hp:=List.prefix_append S1 [j00.cells [vI (cl[j].ad+(n:Int)),vU cl[j].bad,vU cl[j].good] 78 none]
  have hln:=hp.length_le
  generalize S1++[j00.cells [vI (cl[j].ad+(n:Int)),vU cl[j].bad,vU cl[j].good] 78 none]=S2 at hp hln ⊢
  refine ⟨by omega,by omega,?_⟩
  refine zgi (y:=⟨cl[j].ad+(n:Int),cl[j].bad,cl[j].good⟩) (h1.pre hp) rfl (by simp;omega) (by omega) ?_
  intro b S3 g1 g2 g3 g4 g5
  have hsn:f0++(cl.take (j+1)).map (Fx.up n)=(f0++(cl.take j).map (Fx.up n))++[⟨cl[j].ad+(n:Int),cl[j].bad,cl[j].good⟩]:=by
   rw [zcr (show j < cl.length by omega),List.map_append,<- List.append_assoc]; rfl
  refine ⟨cl.length-(j+1),by omega,j+1,some ⟨b,0,none⟩,by rw [hsn]; simp [Nat.add_assoc],rfl,by omega,by rw [hsn]; exact g5,.inr ⟨b,rfl,by omega⟩,by omega,λ i hi hne'=>?_⟩
  rw [g4 i (by omega),z1u hp (by omega),h4 i hi hne']
  rcases h2 with h2 | ⟨b',h2,h2'⟩
  ·rw [h2]; exact hne'
  ·rw [h2]; intro e;injection e with e;injection e with e;omega
 ·obtain rfl:j=cl.length:=by omega
  rw [List.take_of_length_le (Nat.le_refl _)] at h1 ⊢
  exact ⟨fa,rfl,h1,h2,h3,h4⟩
theorem j0v.blk {L:Nat} {S:St} {a:Option Addr} {out:List Fx} (h:j0v L S a out) {y:Addr} (hy:a=some y):L<=y.block/\y.block < S.length/\y=⟨y.block,0,none⟩:=by
 rcases h with ⟨e,_⟩ | ⟨b,e,e2,hb⟩
 ·rw [hy] at e;cases e
 ·rw [hy] at e;injection e with e;subst e;exact ⟨e2,z1y hb,rfl⟩
theorem jch {p:Int} {c:List Int} (hk:jt3 p=true) (h1:7<=c.length) (h2:c.length<=4102):jcg p c=(if (j6y (c.drop (c.length-6))).2≠0 then (([],[]),10)
 else if ¬ ((j6y (c.drop (c.length-6))).1.1.1 < p/\(j6y (c.drop (c.length-6))).1.1.2 < p) then (([],[]),10)
 else if 1 < (zgx p (c.take (c.length-6)) (j6y (c.drop (c.length-6))).1.1).2 then (([],[]),10)
 else if (zgx p (c.take (c.length-6)) (j6y (c.drop (c.length-6))).1.1).2=1 then (((c.take (c.length-6)).set (zgx p (c.take (c.length-6)) (j6y (c.drop (c.length-6))).1.1).1.1.toNat (zgx p (c.take (c.length-6)) (j6y (c.drop (c.length-6))).1.1).1.2++sx (j6y (c.drop (c.length-6))).1.1,⟨(zgx p (c.take (c.length-6)) (j6y (c.drop (c.length-6))).1.1).1.1,(c.take (c.length-6)).getD (zgx p (c.take (c.length-6)) (j6y (c.drop (c.length-6))).1.1).1.1.toNat 0,(zgx p (c.take (c.length-6)) (j6y (c.drop (c.length-6))).1.1).1.2⟩ :: (j6y (c.drop (c.length-6))).1.2.map (Fx.up (c.take (c.length-6)).length)),0)
 else ((c.take (c.length-6)++sx (j6y (c.drop (c.length-6))).1.1,(j6y (c.drop (c.length-6))).1.2.map (Fx.up (c.take (c.length-6)).length)),0)):=by
 unfold jcg
 rw [if_neg (by rw [hk]; simp),if_neg (by omega)]
def j0g (S S':St) (n:Nat) (F:(List Int×List Fx)×Int) (v:Value):Prop:=S <+: S'/\((F.2≠0/\v=vT [.slice none 0 0,.slice none 0 0,vI F.2]) \/
 (F.2=0/\∃ gb fa,v=vT [.slice (some ⟨gb,0,none⟩) n n,.slice fa F.1.2.length F.1.2.length,vI 0]/\Ar S' (some ⟨gb,0,none⟩) n 1 eU F.1.1/\j0v S.length S' fa F.1.2/\(∀ i,fa=some ⟨i,0,none⟩->i≠gb)/\S.length<=gb/\gb < S'.length))
theorem j0g.err {S S':St} {n:Nat} {F:(List Int×List Fx)×Int} {e:Int} (h:S <+: S') (he:e≠0) (hF:F=(([],[]),e)):j0g S S' n F (vT [.slice none 0 0,.slice none 0 0,vI e]):=by
 subst hF;exact ⟨h,.inl ⟨he,rfl⟩⟩
set_option maxHeartbeats 2000000 in
theorem jcm {S:St} {p:Int} {a:Option Addr} {n cc:Nat} {c:List Int} (h:Ar S a n 1 eU c) (hcc:n<=cc) (hb:n<=1000000) (hu:∀ y∈c,inU y) :
 WP (jg0 [vU p,.slice a n cc]) S λ v S'=>j0g S S' n (jcg p c) v:=by
 rw [jg1]
 simp only [wps]
 have hn:=h.1
 refine (z09 (p:=p) h hcc hb).mono ?_
 rintro v S' ⟨e,hcs⟩
 obtain rfl:S=S':=e.symm
 rcases hcs with ⟨hk,rfl⟩ | ⟨hk,hn',rfl⟩ | ⟨hk,h7,h4,xa,xc,ta,tc,rfl,hx,ht,hxc,htc⟩
 ·simp only [wps]
  exact ⟨λ _=>j0g.err (List.prefix_refl _) (by decide) (by unfold jcg;rw [if_pos hk]),λ e=>absurd e (by decide)⟩
 ·simp only [wps]
  exact ⟨λ _=>j0g.err (List.prefix_refl _) (by decide) (by unfold jcg;rw [if_neg (by rw [hk]; simp),if_pos (by omega)]),λ e=>absurd e (by decide)⟩
 have hF:=jch hk (show 7<=c.length by omega) (by omega)
 rw [<- hn] at hF
 generalize jcg p c=F at hF ⊢
 have hx1:∀ y∈c.take (n-6),inU y:=λ y hy=>hu y (List.mem_of_mem_take hy)
 have ht1:∀ y∈c.drop (n-6),inU y:=λ y hy=>hu y (List.mem_of_mem_drop hy)
 have hxl:(c.take (n-6)).length=n-6:=hx.1.symm
 have htl:(c.drop (n-6)).length=6:=ht.1.symm
 generalize c.take (n-6)=x at hx hx1 hxl hF ⊢
 generalize c.drop (n-6)=t at ht ht1 htl hF ⊢
 simp only [wps]
 have hcell:=j6w ht htc
 have hsound:=λ q l=>j74 htl (q:=q) (l:=l)
 generalize j6y t=Q at hF hcell hsound
 obtain ⟨⟨q,cl⟩,zz⟩:=Q
 dsimp only at hF hcell
 refine hcell.mono ?_
 rintro _ S1 ⟨k1,⟨hc0,ob,fa,rfl,har,hown⟩ | ⟨hc0,rfl⟩⟩
 ·subst hc0
  obtain ⟨b1,b2,b3,b4,b5⟩:=hsound q cl rfl
  have hin:=jry (p:=p) (c:=2) har (by omega)
  have hq1:=ht1 _ b4
  have hq2:=ht1 _ b5
  rw [if_neg (by simp)] at hF
  have hinv:inV p [q.1,q.2]=decide (q.1 < p/\q.2 < p):=by unfold inV;rw [hk]; simp [Bool.decide_and]
  rw [hinv] at hin
  have c0:=j6t har 0 (v:=q.1) rfl
  have c1:=j6t har 1 (v:=q.2) rfl
  rw [j25] at c0
  simp only [j23,Nat.zero_add] at c1
  simp only [wps,hin.wp,c0,c1]
  refine ⟨λ hi2=>j0g.err k1 (by decide) (by rw [hF,if_pos hi2]),λ hi2=>?_⟩
  rw [if_neg (λ h=>h hi2)] at hF
  refine (zh2 (c:=xc) (w0:=q.1) (w1:=q.2) hk (hx.mono k1) (by omega) hx1 hq1 hq2).mono ?_
  rintro _ S2 ⟨k2,rfl⟩
  have c02:=z1v k2 c0
  have c12:=z1v k2 c1
  have har2:=har.mono k2
  have hsl:(x++z97 q).length=n:=by rw [List.length_append]; show x.length+6=n;omega
  have had:∀ f∈cl,0<=f.ad/\f.ad<=1000:=λ f hf=>by have:=b2 f hf;omega
  have en:n-6+6=n:=by omega
  have exl:((n-6:Nat):Int)=(x.length:Int):=by rw [hxl]
  have hsw:=zh1 hk (x:=x) (w:=q) (λ y hy=>(hx1 y hy).1) ⟨⟨hq1.1,hi2.1⟩,⟨hq2.1,hi2.2⟩⟩
  rw [show ((q.1,q.2):Int×Int)=q from rfl]
  generalize zgx p x q=r at hF hsw ⊢
  simp only [wps,c02,c12]
  refine ⟨λ e1=>j0g.err (k1.trans k2) (by decide) (by rw [hF,if_pos e1]),λ e1=>?_⟩
  rw [if_neg e1] at hF
  refine (zfe (c:=xc) (q:=q) ((hx.mono k1).mono k2) (by omega)).mono ?_
  rintro _ S3 ⟨gb,rfl,hN⟩
  have k3:=hN.p
  have k03:=k1.trans (k2.trans k3)
  have hsw:r.2=1->∃ i:Nat,i < x.length/\r.1.1=i/\inP p r.1.2:=λ e=>by
   rcases hsw (by rw [e]; decide) with ⟨h0,_⟩ | ⟨_,i,hi,hi1,hi2',_⟩
   ·rw [e] at h0;cases h0
   ·exact ⟨i,hi,hi1,hi2'⟩
  have hown3:=hown.pre (k2.trans k3)
  have hgb:=hN.lt
  obtain ⟨gg,hat⟩:=hN.at_
  have lgb:=z1y hat
  have l03:=k03.length_le
  have l12:=(k1.trans k2).length_le
  have hne3:∀ y,fa=some y->S.length<=y.block/\y.block < S3.length/\y.block≠gb:=λ y hy=>by
   have h1:=(hown.pre k2).blk hy
   exact ⟨h1.1,by have:=k3.length_le;omega,by omega⟩
  simp only [wps]
  refine ⟨λ e2=>?_,λ e2=>?_⟩
  ·rw [if_pos e2] at hF
   obtain ⟨i,hi,hi1,hi2'⟩:=hsw e2
   clear hsw
   have hgood:=jru hk hi2'
   rw [hi1] at hF ⊢
   rw [Int.toNat_natCast] at hF
   obtain ⟨y,rfl,cx⟩:=(hx.mono k03).getU (i:=i) hi
   have hgx:x.getD i 0=x[i]:=by rw [List.getD_eq_getElem?_getD,List.getElem?_eq_getElem hi]; rfl
   simp only [wps,Int.toNat_natCast,cx]
   refine ⟨by omega,?_⟩
   refine zgi (L:=S.length) (a:=none) (n:=0) (out:=[]) (y:=⟨(i:Int),x[i],r.1.2⟩) (.inl ⟨rfl,rfl⟩) rfl (by omega) l03 ?_
   intro b4 S4 g1 g2 g3 g4 g5
   have hat4:S4[gb]? = some (.cells ((x++z97 q).flatMap eU) 24 gg):=by rw [g4 gb lgb (by intro e;cases e)]; exact hat
   have hput:=(Ob.refl (e:=eU) hat4).put (w:=1) (λ _=>rfl) (i:=i) (by omega) r.1.2
   have hfl:=jcv (e:=eU) (w:=1) (λ _=>rfl) (x++z97 q)
   rw [Nat.mul_one] at hput
   simp only [wps,hat4]
   refine ⟨by omega,by omega,?_⟩
   have hl5:(S4.set gb (j00.cells (splice ((x++z97 q).flatMap eU) i [vU r.1.2]) 24 gg)).length=S4.length:=List.length_set ..
   have k5:∀ j,j≠gb->(S4.set gb (j00.cells (splice ((x++z97 q).flatMap eU) i [vU r.1.2]) 24 gg))[j]? = S4[j]?:=λ j hj=>List.getElem?_set_ne (Ne.symm hj)
   have a5:(S4.set gb (j00.cells (splice ((x++z97 q).flatMap eU) i [vU r.1.2]) 24 gg))[gb]? = some (.cells (((x++z97 q).set i r.1.2).flatMap eU) 24 gg):=hput.at_
   generalize S4.set gb (j00.cells (splice ((x++z97 q).flatMap eU) i [vU r.1.2]) 24 gg)=S5 at hl5 k5 a5 ⊢
   have hown5:j0v S.length S5 fa cl:=hown3.keep λ j hj=>by
    have h3:=hne3 _ hj
    dsimp only at h3
    rw [k5 j h3.2.2,g4 j h3.2.1 (by intro e;cases e)]
   have g55:j0v S.length S5 (some ⟨b4,0,none⟩) [⟨(i:Int),x[i],r.1.2⟩]:=j0v.keep g5 λ j hj=>by
    injection hj with hj;injection hj with hj
    rw [k5 j (by omega)]
   refine (jcn (L:=S.length) (xa:=some y) (xc:=xc) (on:=n-6+6) (oc:=n-6+6) (oa:=some ⟨gb,0,none⟩) (cc:=cl.length) (n:=n-6) (cl:=cl) hown5.ar g55 (by omega) (by omega) (by simp) (by omega) had λ z hz=>⟨by have:=hne3 z hz;omega,by
    intro e;injection e with e;injection e with e
    have:=hne3 z hz;omega⟩).mono ?_
   rintro _ S6 ⟨fa',rfl,ho,hfa,hl6,k6⟩
   simp only [wps]
   have a6:S6[gb]? = some (.cells (((x++z97 q).set i r.1.2).flatMap eU) 24 gg):=by
    rw [k6 gb (by omega) (by intro e;injection e with e;injection e with e;omega)]; exact a5
   have hgoodeq:(x++z97 q).set i r.1.2=x.set i r.1.2++sx q:=by rw [List.set_append,if_pos hi]; rfl
   have hF2:F=((x.set i r.1.2++sx q,[⟨(i:Int),x[i],r.1.2⟩]++cl.map (Fx.up ((n-6:Nat):Int))),0):=by rw [hF,hgx,exl]; rfl
   rw [hF2,en]
   refine ⟨z21 k03 (by omega) λ j hj=>by rw [k6 j (by omega) (by intro e;injection e with e;injection e with e;omega),k5 j (by omega),g4 j (by omega) (by intro e;cases e)],.inr ⟨rfl,gb,fa',rfl,?_,ho,?_,by omega,by omega⟩⟩
   ·have:=Ar.blk (w:=1) a6 (λ _ _=>rfl) rfl
    rw [List.length_set,hsl,hgoodeq] at this
    exact this
   ·intro j hj
    rcases hfa with hfa | ⟨b,hfa,hb⟩
    ·rw [hfa] at hj;injection hj with hj;injection hj with hj;omega
    ·rw [hfa] at hj;injection hj with hj;injection hj with hj;omega
  ·clear hsw
   rw [if_neg e2] at hF
   refine (jcn (L:=S.length) (xa:=xa) (xc:=xc) (on:=n-6+6) (oc:=n-6+6) (oa:=some ⟨gb,0,none⟩) (cc:=cl.length) (a:=none) (f0:=[]) (n:=n-6) (cl:=cl) hown3.ar (.inl ⟨rfl,rfl⟩) l03 (by omega) (by simp) (by omega) had λ z hz=>⟨(hne3 z hz).2.1,by intro e;cases e⟩).mono ?_
   rintro _ S6 ⟨fa',rfl,ho,hfa,hl6,k6⟩
   simp only [wps]
   have a6:S6[gb]? = some (.cells ((x++z97 q).flatMap eU) 24 gg):=by
    rw [k6 gb lgb (by intro e;cases e)]; exact hat
   have hF2:F=((x++sx q,[]++cl.map (Fx.up ((n-6:Nat):Int))),0):=by rw [hF,exl]; rfl
   rw [hF2,en]
   refine ⟨z21 k03 hl6 λ j hj=>k6 j (by omega) (by intro e;cases e),.inr ⟨rfl,gb,fa',rfl,?_,ho,?_,by omega,by omega⟩⟩
   ·have:=Ar.blk (w:=1) a6 (λ _ _=>rfl) rfl
    rw [hsl] at this
    exact this
   ·intro j hj
    rcases hfa with hfa | ⟨b,hfa,hb⟩
    ·rw [hfa] at hj;cases hj
    ·rw [hfa] at hj;injection hj with hj;injection hj with hj;omega
 ·simp only [wps]
  exact ⟨λ _=>j0g.err k1 (by decide) (by rw [hF,if_pos hc0]),λ e=>absurd e (by decide)⟩
theorem z6c {a:Int} {k j:Nat} (h:j < (z6b a k).length):(z6b a k)[j]=a+(j:Int):=by simp [z6b,jyb]
set_option maxHeartbeats 1000000 in
theorem z6i {S:St} {b:Nat} {m:Mm} {T:List Nat} (h:MS S b m T) {a:Int} {k:Nat} (hin:0<=a/\a+k<=m.W.length) (ht:0<=m.t/\m.t+k < 4611686018427387904) :
 WP (jqd [vA [.pointer (some ⟨b,0,none⟩),vI a,vN k]]) S λ v S'=>v=vT [.slice (some ⟨S.length+1,0,none⟩) k k,vI 0]/\Kp T S S'/\MS S' b (m.rds (z6b a k)).2 T /\
  S'[S.length+1]? = some (.cells ((m.rds (z6b a k)).1.flatMap eU) 24 none):=by
 rw [jqe]
 have hw:=h.w
 have hTlt:=h.lt
 have p0:=List.prefix_append S [j00.cells [.pointer (some ⟨b,0,none⟩),vI a,vN k] 145 none]
 have z0:=jek (S:=S) (o:=j00.cells [.pointer (some ⟨b,0,none⟩),vI a,vN k] 145 none)
 simp only [wps,zhy,Int.toNat_natCast]
 refine ⟨⟨by omega,by omega,by omega,rfl⟩,?_⟩
 have hYl:(S++[j00.cells [.pointer (some ⟨b,0,none⟩),vI a,vN k] 145 none]).length=S.length+1:=by simp
 generalize S++[j00.cells [.pointer (some ⟨b,0,none⟩),vI a,vN k] 145 none]=Y at p0 z0 hYl ⊢
 have pw:=List.prefix_append Y [j00.cells (List.replicate k (vU 0)) 24 none]
 have zw:=jek (S:=Y) (o:=j00.cells (List.replicate k (vU 0)) 24 none)
 rw [<- hYl]
 have lA:(z6b a k).length=k:=z6d a k
 have h0:=(h.pre p0).pre pw
 have k0:Kp T S (Y++[j00.cells (List.replicate k (vU 0)) 24 none]):=Kp.of (p0.trans pw)
 have z00:=z1w pw z0
 generalize Y++[j00.cells (List.replicate k (vU 0)) 24 none]=Z at pw zw h0 k0 z00 ⊢
 have nT:S.length∉T:=λ hx=>by have:=hTlt _ hx;omega
 have nT1:Y.length∉T:=λ hx=>by have:=hTlt _ hx;omega
 refine zgd (λ st S' n=>∃ j:Nat,st=[vN j]/\n=k-j/\j<=k/\Kp T S S'/\MS S' b (m.rds ((z6b a k).take j)).2 T/\S'[S.length]? = some (j00.cells [.pointer (some ⟨b,0,none⟩),vI a,vN k] 145 none)/\S'[Y.length]? = some (.cells ((m.rds ((z6b a k).take j)).1.map (.int .u64)++List.replicate (k-j) (vU 0)) 24 none)) ?_ k _ _ ⟨0,rfl,rfl,by omega,k0,h0,z00,by rw [zw]; simp [Mm.rds]⟩
 rintro st S1 n ⟨j,rfl,rfl,hj,k1,hM,hz,hb⟩
 simp only [wps]
 obtain ⟨g1,g2,g3,g4⟩:=Mm.rds_len ((z6b a k).take j) m
 refine ⟨λ h3=>?_,λ h3=>?_⟩
 ·have hj':j < k:=by omega
  have hjA:j < (z6b a k).length:=by omega
  have eA:=z6c hjA
  have hb0:=z1y hb
  have hl1:(m.rds ((z6b a k).take j)).1.length=j:=by rw [g2]; simp;omega
  simp only [wps,j6u hz,gcz,gcs]
  rw [wI_ (n:=a+(j:Int)) (by omega) (by omega),wI_ (n:=(j:Int)+1) (by omega) (by omega),<- eA]
  refine (jvs hM (by rw [g1,eA]; omega) (by rw [g3]; simp;omega)).mono ?_
  rintro _ S2 ⟨rfl,k2,hM2⟩
  have hb2:=k2.get hb nT1
  have hb2l:=z1y hb2
  have e:=z55 (m:=m) hjA
  simp only [wps,hb2,Int.toNat_natCast]
  refine ⟨by omega,by simp;omega,k-(j+1),by omega,j+1,rfl,rfl,by omega,?_,?_,?_,?_⟩
  ·have k12:=k1.trans k2
   exact ⟨by rw [List.length_set]; exact k12.len,λ i hi hn=>by rw [List.getElem?_set_ne (by omega),k12.keep i hi hn]⟩
  ·rw [e]; exact hM2.kp (M:=[Y.length]) ⟨by simp,λ i hi hn=>by rw [List.getElem?_set_ne]; rintro rfl;simp at hn⟩ (λ i hi=>by have:=hTlt i hi;simp;omega)
  ·rw [List.getElem?_set_ne (by omega)]; exact k2.get hz nT
  ·rw [List.getElem?_set_self hb2l,e,z9v (by simp;omega),List.set_append_right _ _ (by simp;omega)]
   simp only [List.length_map,hl1,Nat.sub_self]
   rw [show k-j=(k-(j+1))+1 by omega,List.replicate_succ,List.set_cons_zero,List.map_append]
   simp
 ·obtain rfl:j=k:=by omega
  rw [List.take_of_length_le (by omega)] at hM hb
  refine ⟨k1,hM,?_⟩
  rw [hb,Nat.sub_self]
  simp only [List.replicate_zero,List.append_nil]
  rw [List.map_eq_flatMap]; rfl
theorem z6n {S:St} {b:Nat} {m:Mm} {T:List Nat} (h:MS S b m T) {a n:Int}:Sp (jqg [vA [.pointer (some ⟨b,0,none⟩),vI a,vI n]]) S λ v _=>v=vB (m.hasN a n):=by
 unfold Sp
 rw [jqh]
 have p0:=List.prefix_append S [j00.cells [.pointer (some ⟨b,0,none⟩),vI a,vI n] 145 none]
 have z0:=jek (S:=S) (o:=j00.cells [.pointer (some ⟨b,0,none⟩),vI a,vI n] 145 none)
 simp only [wps,j6u z0,gcz,gcs]
 refine (zcu (h.pre p0)).use ?_
 rintro _ S1 k1 rfl
 simp only [wps]
 exact p0.trans k1
def j5d (m:Mm) (p n a more:Int):Int:=if jt3 p=false then 2 else if n < 1\/4096 < n\/m.hasN a (n+more)=false then 1 else 0
theorem j5e {S:St} {b:Nat} {m:Mm} {T:List Nat} (h:MS S b m T) {p n a more:Int} (hm:0<=more/\more<=100):Sp (jq7 [.pointer (some ⟨b,0,none⟩),vU p,vI n,vI a,vI more]) S λ v _=>v=vI (j5d m p n a more):=by
 unfold Sp
 rw [jq8]
 simp only [wps,jt8]
 unfold j5d
 refine ⟨λ hk=>⟨List.prefix_refl _,by rw [if_pos hk]⟩,λ hk=>?_⟩
 rw [if_neg (by rw [hk]; simp)]
 refine ⟨λ h1=>⟨List.prefix_refl _,by rw [if_pos (.inl h1)]⟩,λ h1=>⟨λ h2=>⟨List.prefix_refl _,by rw [if_pos (.inr (.inl h2))]⟩,λ h2=>?_⟩⟩
 rw [wI_ (n:=n+more) (by omega) (by omega)]
 refine (zcu h).use ?_
 rintro _ S1 k1 rfl
 simp only [wps]
 cases hc:m.hasN a (n+more)
 ·simp [k1]
 ·simp [k1,h1,h2]
set_option maxHeartbeats 1000000 in
theorem juq {S:St} {b:Nat} {m:Mm} {T:List Nat} (h:MS S b m T) {la:Option Addr} {ln lc:Nat} {l:List Int} (hl:Ar S la ln 1 eU l) (hlT:∀ y,la=some y->l≠[]->y.block∉T) {a:Int} (hu:∀ y∈l,Go.Proofs.YtpecnaacgkgjmaaGreatDoor.u64r y) (ht:0<=m.t/\m.t < 2305843009213693952) (hln:ln<=100000) :
 WP (jpv [.pointer (some ⟨b,0,none⟩),.slice la ln lc,vI a]) S λ v S'=>v=vI (juh m l a).1/\Kp T S S'/\MS S' b (juh m l a).2 T:=by
 rw [jpw]
 have hw:=h.w
 have hln':=hl.1
 simp only [wps]
 refine (z6n h).use ?_
 rintro _ S1 k1 rfl
 have h1:=h.pre k1
 have hl1:=hl.mono k1
 simp only [wps]
 unfold juh
 rw [<- hln']
 refine ⟨λ e=>⟨by rw [if_neg (by rw [e]; simp)],Kp.of k1,by rw [if_neg (by rw [e]; simp)]; exact h1⟩,λ e=>?_⟩
 obtain ⟨e1,e2,e3⟩:=jr6 e
 rw [if_pos e]
 dsimp only
 generalize hP:(z6b a ln).zip l=P
 have lP:P.length=ln:=by rw [<- hP,List.length_zip,z6d]; omega
 refine zgd (λ st S' n=>∃ j:Nat,st=[vN j]/\n=ln-j/\j<=ln/\Kp T S S'/\MS S' b (m.wrs (P.take j)) T) ?_ ln _ _ ⟨0,rfl,rfl,by omega,Kp.of k1,h1⟩
 rintro st S2 n ⟨j,rfl,rfl,hj,k2,hM⟩
 simp only [wps]
 obtain ⟨g1,g2,g3⟩:=Mm.wrs_len (P.take j) m
 refine ⟨λ h3=>?_,λ h3=>?_⟩
 ·have hj':j < ln:=by omega
  have hjP:j < P.length:=by omega
  have hl2:Ar S2 la ln 1 eU l:=k2.ar hl λ hne y hy=>hlT y hy hne
  obtain ⟨y,rfl,c0⟩:=hl2.getU (i:=j) (by omega)
  have eP1:P[j].1=a+(j:Int):=by
   have : P[j]=((z6b a ln)[j]'(by rw [z6d]; omega),l[j]):=by simp [<- hP]
   rw [this,z6c]
  have eP2:P[j].2=l[j]:=by simp [<- hP]
  simp only [wps,c0,Int.toNat_natCast]
  rw [wI_ (n:=a+(j:Int)) (by omega) (by omega),wI_ (n:=(j:Int)+1) (by omega) (by omega),<- eP1,<- eP2]
  refine ⟨by omega,?_⟩
  refine (zb6 hM (by rw [g1,eP1]; omega) (by rw [g2]; simp;omega) (by rw [eP2]; exact hu _ (List.getElem_mem _))).mono ?_
  rintro _ S3 ⟨rfl,k3,hM3⟩
  simp only [wps]
  exact ⟨ln-(j+1),by omega,j+1,rfl,rfl,by omega,k2.trans k3,by rw [zh7 hjP]; exact hM3⟩
 ·obtain rfl:j=ln:=by omega
  rw [List.take_of_length_le (by omega)] at hM
  exact ⟨k2,hM⟩
theorem j2c {S:St} {p:Int} {s:Int×Int} {a:Option Addr} {n c:Nat} {l:List Int} (hk:jt3 p=true) (hl:Ar S a n 1 eU l) (hn:n<=4096) (hu:∀ y∈l,inU y) :
 Sp (jqj [vA [vU p,vU s.1,vU s.2],.slice a n c]) S λ v _=>v=vB (j2a p s l):=by
 unfold Sp
 rw [jqk]
 have hln:=hl.1
 have p0:=List.prefix_append S [j00.cells [vU p,vU s.1,vU s.2] 159 none]
 have z0:=jek (S:=S) (o:=j00.cells [vU p,vU s.1,vU s.2] 159 none)
 simp only [wps,j6u z0,gcz,gcs]
 generalize S++[j00.cells [vU p,vU s.1,vU s.2] 159 none]=Y at p0 z0 ⊢
 refine (j7p (c:=c) hk (hl.mono p0) hn hu).mono ?_
 rintro _ S1 ⟨rfl,k1⟩
 have p1:=p0.trans k1
 have pz:=List.prefix_append S1 [j00.cells [vU (zbu p l).1,vU (zbu p l).2] 40 none]
 have zz:=jek (S:=S1) (o:=j00.cells [vU (zbu p l).1,vU (zbu p l).2] 40 none)
 have z1:=z1w pz (z1w k1 z0)
 have hin:=jry (p:=p) (c:=c) (hl.mono (p1.trans pz)) (by omega)
 generalize hZ:S1++[j00.cells [vU (zbu p l).1,vU (zbu p l).2] 40 none]=Z at pz zz z1 hin
 have e0:∀ q s:Int×Int,eqL [vU q.1,vU q.2] [vU s.1,vU s.2]=decide (q=s):=by
  rintro ⟨a,b⟩ ⟨c,d⟩
  rw [Bool.eq_iff_iff]
  simp [eqL]
 simp only [wps,hZ,j6u z1,j6u zz,gcz,gcs,e0,hin.wp]
 have pf:=p1.trans pz
 unfold j2a inV
 rw [hk,<- hln]
 refine ⟨λ e=>⟨pf,?_⟩,λ e=>⟨pf,?_⟩⟩
 ·rw [decide_eq_true e,decide_eq_true hn]
  simp only [Bool.and_true,Bool.true_and]
  have : (l.all λ a=>decide (a < p))=decide (∀ y∈l,y < p):=by rw [Bool.eq_iff_iff]; simp
  rw [this]
 ·rw [decide_eq_false e]; simp
end Go.AM
