/-
  Part of the proof of a law: what the functions compute. Conditions: none.
-/
import Derived.Test.YtpecnaacgkgjmaaGreatDoorVW3
set_option linter.unusedVariables false
set_option linter.unusedSectionVars false
set_option linter.unusedSimpArgs false
set_option linter.deprecated false
namespace Go.AM
open Go Go.Proofs.YtpecnaacgkgjmaaGreatDoor
theorem j2n {S:St} {b:Nat} {m:Mm} {T:List Nat} (h:MS S b m T) (ht:0<=m.t/\m.t < 4611686018427387904) (hah:0<=m.ah/\m.ah < 4611686018427387904):Gv (jj5 [.pointer (some ⟨b,0,none⟩)]) S (vI (m.ah+m.t)):=by
 obtain ⟨bw,ba,aq,q,g,e1,e2,_⟩:=h.ex
 refine .of ?_
 rw [jj6]
 simp only [wps,j6u e1,gcz,gcs,Option.isNone_some]
 rw [wI_ (by omega) (by omega)]
abbrev trC (t:Tr) (ya fa sa:Option Addr):List Value:=[vB t.ok,.slice ya t.Y.length t.Y.length,.slice fa t.fx.length t.fx.length,.slice sa t.sl.length t.sl.length,vI t.ticks]
structure TrA (S:St) (it tr:Int) (t:Tr) (ya fa sa:Option Addr):Prop where
 y:Ar S ya t.Y.length 1 eU t.Y
 fx:Ar S fa t.fx.length 6 (jah it tr) t.fx
 sl:Ar S sa t.sl.length 4 (jai it tr) t.sl
 ne:∀ x∈t.fx,x.2.bad≠x.2.good
theorem TrA.mono {S S':St} {it tr:Int} {t:Tr} {ya fa sa:Option Addr} (h:TrA S it tr t ya fa sa) (k:S <+: S'):TrA S' it tr t ya fa sa:=⟨h.y.mono k,h.fx.mono k,h.sl.mono k,h.ne⟩
structure TrS (t:Tr):Prop where
 y:t.Y.length<=4096
 fx:t.fx.length<=1000000
 sl:t.sl.length<=1000000
 tk:0<=t.ticks/\t.ticks<=100000000000
theorem TrA.nil {S:St} {it tr:Int}:TrA S it tr ⟨false,[],[],[],0⟩ none none none:=⟨.nil,.nil,.nil,λ x hx=>by cases hx⟩
set_option maxHeartbeats 4000000 in
set_option maxRecDepth 20000 in
theorem zdp {S:St} {q:Req} {a1 a4 a5 la:Option Addr} {c1 c4 c5 ln lc:Nat} {it tr:Int} {l:List Ev} (h:QA S q a1 a4 a5) (hc4:q.X.length<=c4) (hX:∀ x∈q.X,0<=x)
 (hl:Ar S la ln 6 Ev.cells l) (hln:ln<=900\/1024 < ln) (hlk:∀ x∈l,Go.Proofs.YtpecnaacgkgjmaaGreatDoor.u64r x.ma) (hlt:∀ x∈l,x.ti<=9223372036854775807) :
 WP (joj [qv q a1 c1 a4 c4 a5 c5,vI it,vI tr,.slice la ln lc]) S λ v S'=>S <+: S'/\∃ ya fa sa,v=vT [vA (trC (zdr q it tr l) ya fa sa),vI (zdq q it tr ln)]/\TrA S' it tr (zdr q it tr l) ya fa sa/\TrS (zdr q it tr l):=by
 have hln0:=hl.1
 rw [jok]
 have hp:S <+: S++[j00.cells (qc q a1 c1 a4 c4 a5 c5) 62 none,j00.cells [vB false,.slice none 0 0,.slice none 0 0,.slice none 0 0,vI 0] 70 none]:=List.prefix_append _ _
 have z:(S++[j00.cells (qc q a1 c1 a4 c4 a5 c5) 62 none,j00.cells [vB false,.slice none 0 0,.slice none 0 0,.slice none 0 0,vI 0] 70 none])[S.length]? = some (j00.cells (qc q a1 c1 a4 c4 a5 c5) 62 none):=gA0
 have y:(S++[j00.cells (qc q a1 c1 a4 c4 a5 c5) 62 none,j00.cells [vB false,.slice none 0 0,.slice none 0 0,.slice none 0 0,vI 0] 70 none])[S.length+1]? = some (j00.cells [vB false,.slice none 0 0,.slice none 0 0,.slice none 0 0,vI 0] 70 none):=gA1
 simp only [wps,List.append_assoc,List.cons_append,List.nil_append,List.length_append,List.length_cons,List.length_nil,Nat.zero_add,Nat.reduceAdd,j6u z,j6u y,gcz,gcs]
 generalize S++[j00.cells (qc q a1 c1 a4 c4 a5 c5) 62 none,j00.cells [vB false,.slice none 0 0,.slice none 0 0,.slice none 0 0,vI 0] 70 none]=Y at hp z y ⊢
 refine (j7f (c1:=c1) (c4:=c4) (c5:=c5) (h.mono hp)).use ?_
 rintro _ S1 k1 rfl
 have z1:=z1w k1 z
 have y1:=z1w k1 y
 have p1:=hp.trans k1
 have y1l:=z1y y1
 have bad:∀ e:Int,zdq q it tr ln=e->e≠0->∀ S',S <+: S'->(S <+: S'/\∃ ya fa sa,vT [vA [vB false,.slice none 0 0,.slice none 0 0,.slice none 0 0,vI 0],vI e]=vT [vA (trC (zdr q it tr l) ya fa sa),vI (zdq q it tr ln)]/\TrA S' it tr (zdr q it tr l) ya fa sa/\TrS (zdr q it tr l)):=by
  intro e he hne S' hS
  have : zdr q it tr l=⟨false,[],[],[],0⟩:=by unfold zdr;rw [<- hln0,if_neg (by rw [he]; exact hne)]
  rw [this,he]
  exact ⟨hS,none,none,none,rfl,TrA.nil,⟨by simp,by simp,by simp,by simp⟩⟩
 have setp:∀ (S':St) (o:j00),S <+: S'->S.length+1 < S'.length->S <+: S'.set (S.length+1) o:=λ S' o k hl=>z24 k (by omega)
 simp only [wps,y1,j6u z1,gcz,gcs,List.drop_succ_cons,List.drop_zero,List.drop_nil]
 have kbad:∀ (a:Sl) (S':St),S'[S.length+1]? = some (j00.cells [vB false,.slice none 0 0,.slice none 0 0,.slice none 0 0,vI 0] 70 none)->S <+: S'->zdq q it tr ln=1 ->
  WP (jtt it tr la ln lc S.length (S.length+1) a (1,[vI 1])) (S'.set (S.length+1) (j00.cells [vB false,.slice none 0 0,.slice none 0 0,.slice none 0 0,vI 0] 70 none)) λ a S'=>WP (jzc a) S' λ v S'=>S <+: S'/\∃ ya fa sa,v=vT [vA (trC (zdr q it tr l) ya fa sa),vI (zdq q it tr ln)]/\TrA S' it tr (zdr q it tr l) ya fa sa/\TrS (zdr q it tr l):=by
  intro a S' hy hS he
  have hl':=z1y hy
  unfold jtt
  simp only [wps,j6u (List.getElem?_set_self hl'),gcz,gcs]
  exact bad 1 he (by decide) _ (setp S' _ hS hl')
 refine ⟨λ e=>?_,λ e=>?_⟩
 ·simp only [wps,j6u (List.getElem?_set_self y1l),gcz,gcs]
  exact bad _ (by unfold zdq;rw [if_pos e]) e _ (setp S1 _ p1 y1l)
 refine (jsn (c1:=c1) (c4:=c4) (c5:=c5) (h.mono p1) hc4 it).use ?_
 rintro _ S2 k2 ⟨xa,xc,rfl,hx⟩
 have p2:=p1.trans k2
 have z2:=z1w k2 z1
 have y2:=z1w k2 y1
 have hE:zdq q it tr ln=if 0<=it/\it < q.batch/\0<=tr/\tr<=q.again/\ln<=1024 then 0 else 1:=by unfold zdq;rw [if_neg (λ n=>n e)]
 have hI:jsk q it=if 0<=it/\it<=q.batch-1 then (jsl q it,0) else ([],1):=by unfold jsk;rw [if_neg (λ n=>n e)]
 simp only [wps,y2,j6u z2,gcz,gcs,List.drop_succ_cons,List.drop_zero,List.drop_nil,z7m.wp]
 obtain ⟨q1,q2,q3,q4,q5⟩:=j7d e
 by_cases hit:0<=it/\it<=q.batch-1
 rotate_left
 ·rw [if_neg hit] at hI
  rw [hI] at hx ⊢
  have he:zdq q it tr ln=1:=by rw [hE,if_neg (by omega)]
  exact ⟨λ _=>kbad _ S2 y2 p2 he,λ e=>absurd e (by decide)⟩
 rw [if_pos hit] at hI
 rw [hI] at hx ⊢
 refine ⟨λ e=>absurd rfl e,λ _=>⟨λ e3=>kbad _ S2 y2 p2 (by rw [hE,if_neg (by omega)]),λ e3=>⟨λ e4=>kbad _ S2 y2 p2 (by rw [hE,if_neg (by omega)]),λ e4=>⟨λ e5=>kbad _ S2 y2 p2 (by rw [hE,if_neg (λ h=>e5 (by rw [if_neg (by omega)]))]),λ e5=>?_⟩⟩⟩⟩
 have hl1024:ln<=1024:=by
  refine Decidable.byContradiction λ hn=>?_
  rw [if_pos (by omega)] at e5;exact absurd e5 (by decide)
 have hln9:ln<=900:=by omega
 have he0:zdq q it tr ln=0:=by rw [hE,if_pos ⟨hit.1,by omega,by omega,by omega,hl1024⟩]
 have hTR:zdr q it tr l=⟨(zds q it tr l).1,(zds q it tr l).2.Y,(zds q it tr l).2.fx,(zds q it tr l).2.sl,(zds q it tr l).2.m.ah+(zds q it tr l).2.m.t⟩:=by unfold zdr;rw [<- hln0,if_pos he0]
 obtain ⟨f1,f2,f3,f4⟩:=j83 q2
 obtain ⟨hk,hal,hall⟩:=jqn q2
 obtain ⟨hst,hsl⟩:=zb4 (λ a ha=>(hall a ha).1) q.inv
 have hn:=jxs q2
 have hmk:=jx8 (p:=q.P) (l:=q.axes) q.inv q2 (zau q.inv 0 q.axes) 0 hst (by omega) (by omega)
 have hmg:=jx9 (p:=q.P) (l:=q.axes) (inv:=q.inv) (zau q.inv 0 q.axes) 0
 have hM:jwd q.P q.axes q.inv=(⟨nV q.axes,jx7 q.P q.axes q.inv 0 (zau q.inv 0 q.axes),2*(nV q.axes+6)+jx7 q.P q.axes q.inv 0 (zau q.inv 0 q.axes),zau q.inv 0 q.axes⟩,0):=by unfold jwd;rw [if_pos q2]
 have hT0:zds q it tr l=j2g (zdk q) (ofS l it tr) (zau q.inv 0 q.axes) 0 0 (nV q.axes+6) ⟨m0T q.P (2*(nV q.axes+6)+jx7 q.P q.axes q.inv 0 (zau q.inv 0 q.axes)) (jsl q it) (ofS l it tr 0),0,[],[],[]⟩:=by unfold zds;rw [hM]
 obtain ⟨il,il2⟩:=jsm e (i:=it) ⟨hit.1,by omega⟩
 have hinP:∀ y∈jsl q it,inP q.P y:=λ y hy=>by
  have hm:y∈q.X:=List.mem_of_mem_drop (List.mem_of_mem_take hy)
  refine ⟨hX y hm,?_⟩
  unfold inV at q4
  rw [Bool.and_eq_true] at q4
  simpa using List.all_eq_true.1 q4.1 y hm
 have hkp:=jt7 hk
 unfold jtt
 simp only [wps,j6u z2,gcz,gcs]
 refine (jwf (c:=c1) (h.ax.mono p2) h.b1 q.inv).use ?_
 rintro _ S3 k3 ⟨ta,rfl,hG⟩
 have p3:=p2.trans k3
 have z3:=z1w k3 z2
 have y3:=z1w k3 y2
 rw [hM] at hG ⊢
 generalize hmm:jx7 q.P q.axes q.inv 0 (zau q.inv 0 q.axes)=mm at hmk hmg hT0 hG ⊢
 generalize hGG:zau q.inv 0 q.axes=G at hst hsl hmg hT0 hG f3 ⊢
 dsimp only at hG ⊢
 have hp4:=List.prefix_append S3 [j00.cells [vI (nV q.axes),vI mm,vI (2*(nV q.axes+6)+mm),.slice ta G.length G.length] 90 none]
 have w4:=jek (S:=S3) (o:=j00.cells [vI (nV q.axes),vI mm,vI (2*(nV q.axes+6)+mm),.slice ta G.length G.length] 90 none)
 simp only [wps]
 generalize S3++[j00.cells [vI (nV q.axes),vI mm,vI (2*(nV q.axes+6)+mm),.slice ta G.length G.length] 90 none]=S4 at hp4 w4 ⊢
 have p4:=p3.trans hp4
 have z4:=z1w hp4 z3
 have y4:=z1w hp4 y3
 simp only [wps,j6u z4,List.getElem?_cons_zero]
 refine (j7o (c:=xc) hk (hx.mono (k3.trans hp4)) (by dsimp only;omega) (by dsimp only;omega) hinP).mono ?_
 rintro _ S5 ⟨cb,rfl,nw⟩
 have p5:=p4.trans nw.p
 have z5:=z1w nw.p z4
 have y5:=z1w nw.p y4
 have w5:=z1w nw.p w4
 have hcl:(jsl q it++z97 (zbu q.P (jsl q it))).length=(jsl q it).length+6:=by rw [List.length_append]; rfl
 have hca:=nw.ar
 have hs6:=zbw hk (jsl q it)
 simp only [wps,j6u w5,gcz,gcs]
 rw [<- hcl]
 refine (zct (cc:=(jsl q it++z97 (zbu q.P (jsl q it))).length) (it:=it) (tr:=tr) (words:=2*(nV q.axes+6)+mm) (hl.mono p5) hln9 hlk hlt hca (λ y hy=>?_) ⟨by omega,by omega⟩ (by rw [hcl]; omega)).mono ?_
 ·rcases List.mem_append.1 hy with hy | hy
  ·have:=hinP y hy;exact ⟨this.1,by have:=this.2;omega⟩
  ·have h1:=hs6.1;have h2:=hs6.2
   unfold z97 at hy
   simp only [List.mem_cons,List.not_mem_nil,or_false] at hy
   rcases hy with rfl | rfl | rfl | rfl | rfl | rfl
   all_goals first | exact ⟨h1.1,by have:=h1.2;omega⟩ | exact ⟨h2.1,by have:=h2.2;omega⟩
 rintro _ S6 ⟨rb,b,T,rfl,k6,hrb,hTb,hrs⟩
 have p6:=p5.trans k6
 have z6:=z1w k6 z5
 have y6:=z1w k6 y5
 have w6:=z1w k6 w5
 have low6:∀ j,j < S5.length->j∉fpR rb T none none:=λ j hj hm=>by
  rcases List.mem_cons.1 hm with rfl | hm
  ·omega
  ·rcases List.mem_append.1 hm with hm | hm
   ·have:=hTb _ hm;omega
   ·cases hm
 have hl5:=p5.length_le
 have sl:∀ {β:Type} {e:β->List Value} {m:List β} {pp:Option Addr} {n w:Nat},Ar S5 pp n w e m->(∀ x,∃ v,(e x)[0]? = some v)->m≠[]->∀ y,pp=some y->y.block∉fpR rb T none none:=λ ha hf hne y hy=>low6 _ (ha.low hf hne y hy)
 simp only [wps,j6u z6,j6u w6,gcz,gcs]
 have hlt0:(juh ⟨List.replicate (2*(nV q.axes+6)+mm).toNat 0,ofS l it tr 0,0,0⟩ (jsl q it++z97 (zbu q.P (jsl q it))) 0).2=m0T q.P (2*(nV q.axes+6)+mm) (jsl q it) (ofS l it tr 0):=rfl
 have hla:=jup (m:=⟨List.replicate (2*(nV q.axes+6)+mm).toNat 0,ofS l it tr 0,0,0⟩) (l:=jsl q it++z97 (zbu q.P (jsl q it))) (a:=0) (jra (w:=(2*(nV q.axes+6)+mm).toNat) (by simp) ⟨by omega,by omega,by omega⟩)
 have hlah:=jui ⟨List.replicate (2*(nV q.axes+6)+mm).toNat 0,ofS l it tr 0,0,0⟩ (jsl q it++z97 (zbu q.P (jsl q it))) 0
 rw [hlt0] at hrs hla hlah
 have hla3:=hla.2.2
 have hla2:=hla.2.1
 dsimp only at hla3 hlah
 rw [List.length_replicate] at hla2
 refine (j2r (w:=(2*(nV q.axes+6)+mm).toNat) (tc:=G.length) (c1:=c1) (c4:=c4) (c5:=c5) (a4:=a4) (a5:=a5) (TT:=mm) (W:=2*(nV q.axes+6)+mm) hrs (hl.mono p6) (sl (hl.mono p5) (λ x=>⟨_,rfl⟩)) hln9 hlk hlt (h.ax.mono p6) (λ y e hne=>sl (h.ax.mono p5) (λ x=>⟨_,rfl⟩) hne y e) h.b1 (hG.mono ((hp4.trans nw.p).trans k6)) (sl (hG.mono (hp4.trans nw.p)) (λ x=>⟨_,rfl⟩))
  (λ st hs=>⟨zao _ _ _ q2 (hst st hs),by have:=hmg.2 st hs;omega⟩) hk hn (by omega) ⟨by omega,by omega⟩ rfl ⟨⟨by dsimp only;omega,by dsimp only;omega⟩,⟨by dsimp only;omega,by dsimp only;omega⟩,Int.le_refl _,by simp,by simp,Nat.zero_le _⟩ hla2 (by dsimp only;omega)).mono ?_
 rintro _ S7 ⟨rfl,T7,ya,fa,sa,ke,hB,hw7,hwin7⟩
 rw [<- hT0] at ke hB hw7 hwin7
 rw [hTR,he0]
 generalize zds q it tr l=V at ke hB hw7 hwin7 ⊢
 obtain ⟨bt1,bt2⟩:=hB.t
 obtain ⟨ba1,ba2⟩:=hB.ah
 have hl6:=k6.length_le
 have y5l:=z1y y5
 have z5l:=z1y z5
 have ny1:S.length+1∉fpR rb T none none:=low6 _ y5l
 have y7:=ke.mo.get y6 ny1
 have hny:S.length+1∉fpR rb T7 fa sa:=ke.mo.out ny1 (by omega)
 have hyb:V.2.Y≠[]->∀ y,ya=some y->y.block≠S.length+1:=by
  intro hne y e hb
  obtain ⟨bb,o,e2⟩:=ke.y.spot (λ _=>rfl) (by decide) hne
  rw [e2] at e;cases e
  dsimp only at hb
  subst hb
  obtain ⟨a,g1,g2⟩:=ke.y.2 0 (List.length_pos_iff.2 hne)
  rw [e2] at g1;cases g1
  have g3:=g2 0 _ rfl
  simp only [j23,Nat.zero_mul,Nat.add_zero] at g3
  rw [j6u y7] at g3
  match o,g3 with
  | 0,g3=>cases g3
  | 1,g3=>cases g3
  | 2,g3=>cases g3
  | 3,g3=>cases g3
  | 4,g3=>cases g3
  | n+5,g3=>cases g3
 have hr7:=ke.r
 have r7l:=z1y hr7
 have y7l:=z1y y7
 have hne:rb≠S.length+1:=by omega
 have hS7:S <+: S7:=ke.mo.low p6 λ i hi=>by
  rcases List.mem_cons.1 hi with rfl | hi
  ·omega
  ·rcases List.mem_append.1 hi with hi | hi
   ·have:=hTb _ hi;omega
   ·cases hi
 simp only [wps,j6u hr7,z3w,(j2n ke.ms ⟨bt1,by omega⟩ ⟨ba1,by omega⟩).wp,hr7,z41,z45,Nat.reduceAdd,Nat.reduceLeDiff]
 have w7:(S7.set rb (j00.cells (rC V.1 ya V.2.Y.length fa V.2.fx.length sa V.2.sl.length (V.2.m.ah+V.2.m.t) b la ln lc it tr V.2.win) 172 none))[rb]? = _:=List.getElem?_set_self r7l
 have v7:(S7.set rb (j00.cells (rC V.1 ya V.2.Y.length fa V.2.fx.length sa V.2.sl.length (V.2.m.ah+V.2.m.t) b la ln lc it tr V.2.win) 172 none))[S.length+1]? = _:=(List.getElem?_set_ne hne).trans y7
 have x7:=λ o:j00=>List.getElem?_set_self (l:=S7.set rb (j00.cells (rC V.1 ya V.2.Y.length fa V.2.fx.length sa V.2.sl.length (V.2.m.ah+V.2.m.t) b la ln lc it tr V.2.win) 172 none)) (i:=S.length+1) (a:=o) (by rw [List.length_set]; exact y7l)
 simp only [wps,j6u w7,z3r,z3s,z3t,z3u,z3v,v7,List.drop_succ_cons,List.drop_zero,List.drop_nil,j6u (x7 _),gcz,gcs]
 have kp:∀ (o o':j00) (j:Nat),j≠rb->j≠S.length+1->((S7.set rb o).set (S.length+1) o')[j]? = S7[j]?:=λ o o' j h1 h2=>by rw [List.getElem?_set_ne (Ne.symm h2),List.getElem?_set_ne (Ne.symm h1)]
 have oF:∀ (o o':j00),Own 0 ((S7.set rb o).set (S.length+1) o') fa 80 6 (V.2.fx.flatMap (jah it tr)):=λ o o'=>ke.fx.keep λ i e=>by
  have hi:=jwp.2 ⟨_,e,rfl⟩
  refine kp o o' i (ke.nf i hi).2 λ e2=>hny ?_
  rw [<- e2]; exact List.mem_cons_of_mem _ (List.mem_append_right _ (List.mem_append_left _ hi))
 have oS:∀ (o o':j00),Own 0 ((S7.set rb o).set (S.length+1) o') sa 76 4 (V.2.sl.flatMap (jai it tr)):=λ o o'=>ke.sl.keep λ i e=>by
  have hi:=jwp.2 ⟨_,e,rfl⟩
  refine kp o o' i (ke.ns i hi).2.1 λ e2=>hny ?_
  rw [<- e2]; exact List.mem_cons_of_mem _ (List.mem_append_right _ (List.mem_append_right _ hi))
 refine ⟨z24 (z24 hS7 (by omega)) (by omega),ya,fa,sa,rfl,⟨?_,(oF _ _).ar (λ _=>rfl) (by decide),(oS _ _).ar (λ _=>rfl) (by decide),ke.ne⟩,⟨hB.yl,by have:=hB.fx;dsimp only;omega,by have:=hB.sl;dsimp only;omega,by dsimp only;omega⟩⟩
 by_cases hY:V.2.Y=[]
 ·show Ar _ ya V.2.Y.length 1 eU V.2.Y
  rw [hY]; exact ⟨rfl,λ i hi=>absurd hi (by simp)⟩
 ·exact ke.y.keepL λ y e=>kp _ _ _ (λ e2=>ke.ny hY y e (by rw [e2]; exact List.mem_cons_self)) (hyb hY y e)
theorem z30 {p:Int} {inv tw:Bool} {src dst tab:Int}:∀ (gs:List GrN) (st:Mm×List Int),st.1.ok->(gs.foldl (z0f p inv tw src dst tab) st).1.ok
 | [], st, h => h
 | g :: gs, st, h => by
   rw [List.foldl_cons]
   refine z30 gs _ ?_
   unfold z0f
   dsimp only
   refine Mm.ok.wrs _ (Mm.ok.rds _ (Mm.ok.rds _ h).1).1 λ x hx=>?_
   have h2:=(List.of_mem_zip hx).2
   rw [List.mem_iff_getElem] at h2
   obtain ⟨i,hi,e⟩:=h2
   rw [List.getElem_zipWith] at e
   rw [<- e]
   have:=jxh p
   exact ⟨(this _ _).1,by have:=(this ((gyV p inv tw ((st.1.rds (jyb src g.i)).1.map (red p)))[i]'(by simp at hi;omega)) (((st.1.rds (jyb src g.i)).2.rds (jyb tab g.f)).1[i]'(by simp at hi;omega))).2;omega⟩
theorem z0o {m:Mm} (h:m.ok) (p:Int) (l:List Ax) (inv:Bool) (s:Stp) (src dst tab:Int):(z0h m p l inv s src dst tab).2.ok:=by
 have hf:=z0j (m:=m) (p:=p) (l:=l) (inv:=inv) (s:=s) (src:=src) (dst:=dst) (tab:=tab)
 unfold z0h at hf ⊢
 split
 ·rename_i hs
  rw [if_pos hs] at hf
  split
  ·rename_i hc
   rw [if_pos hc] at hf
   dsimp only at hf ⊢
   rcases hf with hf | hf
   ·exact absurd rfl hf.1
   ·obtain ⟨_,_,_,i1,i2,_⟩:=hf
    have hk:=zaq hs
    refine Mm.ok.wrs _ (z30 _ _ h) λ x hx=>?_
    have h2:=(List.of_mem_zip hx).2
    unfold z97 at h2
    simp only [List.mem_cons,List.not_mem_nil,or_false] at h2
    rcases h2 with e | e | e | e | e | e <;> rw [e] <;> first | exact zei hk i1 | exact zei hk i2
  ·exact h
 ·exact h
theorem z7t {m:Mm} (h:m.ok) (p n a:Int):(z7o m p n a).2.ok:=by
 unfold z7o
 split
 ·exact h
 ·rename_i hk
  have hk:jt3 p=true:=by simpa using hk
  split
  ·exact h
  ·dsimp only
   obtain ⟨r1,r2⟩:=Mm.ok.rds (z6b a (n.toNat+6)) h
   split
   ·exact r1
   ·rename_i hz
    refine Mm.ok.wrs _ r1 λ x hx=>?_
    obtain ⟨f,hf,rfl⟩:=List.mem_map.1 hx
    obtain ⟨g,hg,rfl⟩:=List.mem_map.1 hf
    have hz0:(jcg p (m.rds (z6b a (n.toNat+6))).1).2=0:=by
     refine Decidable.byContradiction λ hn=>hz hn
    obtain ⟨x,_,g1,g2,g3,g4,g5,g6,g7,g8⟩:=jcl (p:=p) (c:=(m.rds (z6b a (n.toNat+6))).1) (λ y hy=>(r2 y hy).1) (good:=(jcg p (m.rds (z6b a (n.toNat+6))).1).1.1) (fx:=(jcg p (m.rds (z6b a (n.toNat+6))).1).1.2) (Prod.ext rfl hz0)
    exact zei hk (g7 g hg).2.2
theorem jun {m:Mm} (h:m.ok) {l:List Int} (hl:∀ y∈l,Go.Proofs.YtpecnaacgkgjmaaGreatDoor.u64r y) (a:Int):(juh m l a).2.ok:=by
 unfold juh
 split
 ·exact Mm.ok.wrs _ h λ x hx=>hl _ (List.of_mem_zip hx).2
 ·exact h
theorem z9p {m:Mm} (h:m.ok) (p n a:Int) (s:Int×Int):(z9m m p n a s).2.ok:=by
 unfold z9m
 split
 ·exact h
 ·split
  ·exact h
  ·exact (Mm.ok.rds _ h).1
theorem jrj {m:Mm} (h:m.ok) (l:List Int) (a:Int):(jrg m l a).2.ok:=by
 unfold jrg
 split
 ·exact (Mm.ok.rds _ h).1
 ·exact h
theorem ze7 {m:Mm} (h:m.ok) (p:Int) (l:List Ax) (inv:Bool) (s:Stp) (src dst tab:Int):(ze2 m p l inv s src dst tab).2.ok:=by
 unfold ze2
 split
 ·exact h
 ·rename_i hs
  have hk:=zaq (Decidable.byContradiction λ hn=>hs hn)
  split
  ·dsimp only
   split
   ·exact z7t h _ _ _
   ·exact z9p (jrj (z9p (z0o (jun (z7t h _ _ _) (λ y hy=>zei hk (zcf hk y hy)) _) _ _ _ _ _ _ _) _ _ _ _) _ _) _ _ _ _
  ·exact h
theorem jzs {m:Mm} (hL:m.L=[]) (hm:m.ok) {p:Int} {d n:Nat} {x:List Int} (hk:jt3 p=true) (hn:1<=n/\n<=4096) (hl:d+n+6<=m.W.length) (hc:(m.W.drop d).take (n+6)=x++sx (zbu p x)) (hxi:∀ y∈x,inP p y) (hxl:x.length=n) :
 (jzo m p n d).1=((x,(true,[])),0):=by
 have hf:=jck hk hxi (by omega)
 rw [<- hc] at hf
 obtain ⟨s1,s2,s3,s4,s5⟩:=z7s hL hk hn hl (λ y hy=>(hm.w y hy).1) hf
 have hx3:(x++sx (zbu p x)).getD n 0=(zbu p x).1/\(x++sx (zbu p x)).getD (n+3) 0=(zbu p x).2:=by
  rw [List.getD_eq_getElem?_getD,List.getD_eq_getElem?_getD,List.getElem?_append_right (by omega),List.getElem?_append_right (by omega),show n-x.length=0 by omega,show n+3-x.length=3 by omega]
  exact ⟨rfl,rfl⟩
 rw [hc,hx3.1,hx3.2] at s1
 unfold jzo
 dsimp only
 rw [s1]
 dsimp only
 rw [if_neg (by decide),if_neg (by decide),Int.toNat_natCast,z6g s2 (by omega)]
 have hw:((z7o m p n d).2.W.drop d).take n=x:=by
  have:=congrArg (List.take n) s4
  rw [List.take_take,Nat.min_eq_left (by omega),hc,List.take_left' hxl] at this
  exact this
 dsimp only
 rw [hw,if_pos (by
  unfold j2a
  rw [hk,decide_eq_true rfl,decide_eq_true (show x.length<=4096 by omega),decide_eq_true (λ y hy=>(hxi y hy).2)]; rfl)]
 rfl
def doV (c:TP) (x:List Int) (st:Stp):List Int:=doG c.p c.inv st.tw (nV c.ax).toNat (jqs c.ax st) (zcd c.p c.ax c.inv st) x
structure QT (c:TP) (w src:Nat) (x:List Int) (s:Ts):Prop where
 L:s.m.L=[]
 ok:s.m.ok
 len:s.m.W.length=w
 win:(s.m.W.drop src).take ((nV c.ax).toNat+6)=x++sx (zbu c.p x)
 xi:∀ y∈x,inP c.p y
 xl:x.length=(nV c.ax).toNat
theorem jy7 (m:Mm) (hL:m.L=[]):m.nxt []=⟨m.W,[],0,m.ah+m.t⟩:=by unfold Mm.nxt;rw [hL]; rfl
structure PQ (c:TP) (w:Nat) (st:Stp) (src dst:Nat):Prop where
 s0:zam c.p c.ax st=0
 s1:src+(nV c.ax).toNat+6<=w
 d1:dst+(nV c.ax).toNat+6<=w
 dj:dst+(nV c.ax).toNat+6<=src\/src+(nV c.ax).toNat+6<=dst
 s2:src+(nV c.ax).toNat+6<=2*((nV c.ax).toNat+6)
 d2:dst+(nV c.ax).toNat+6<=2*((nV c.ax).toNat+6)
 tb:2*((nV c.ax).toNat+6)+(zcd c.p c.ax c.inv st).length<=w
theorem z3i {c:TP} {w src dst:Nat} {st:Stp} {x:List Int} {s:Ts} (h:QT c w src x s) (hp:PQ c w st src dst) {of:Int->List Ev} (hof:∀ w,of w=[]) {i:Int} {k:Nat} :
 ∃ s1,zf4 (doF c st src dst) of i (k+1) s=(true,s1)/\QT c w dst (doV c x st) s1/\s1.Y=[]/\s1.fx=s.fx/\s1.sl=s.sl/\s1.m.ah+s1.m.t=s.m.ah+s.m.t+j82 c st:=by
 obtain ⟨kk,dd,inner,nn,mm,hS⟩:=zas hp.s0
 have hnn:=hS.nn
 have hnt:(nV c.ax).toNat=nn:=by omega
 obtain ⟨p0,p1,p2,p3,p4,p5,p6⟩:=hp
 obtain ⟨q1,q2,q3,q4,q5,q6⟩:=h
 rw [hnt] at p1 p2 p3 p4 p5 p6 q4 q6
 have hk:=zaq p0
 have hn1:=hS.n1
 have hf:=jck hk q5 (by omega)
 rw [<- q4] at hf
 have hm:=jy7 s.m q1
 have hqt:=ze9 (m:=⟨s.m.W,[],0,s.m.ah+s.m.t⟩) rfl (p:=c.p) (l:=c.ax) (inv:=c.inv) (s:=st) (sr:=src) (d:=dst) (tb:=2*(nn+6)) (n:=nn) (good:=x++sx (zbu c.p x)) (fx:=[]) (x:=x) p0 hnn (λ y hy=>(q2.w y hy).1) (by dsimp only;omega) (by dsimp only;omega) (by dsimp only;omega) p3 (.inl (by omega)) (.inl (by omega)) (by rw [q4] at hf ⊢; exact hf) rfl q5 q6
 have hmok:Mm.ok ⟨s.m.W,[],0,s.m.ah+s.m.t⟩:=⟨q2.w,λ x hx=>(by cases hx),λ x hx=>(by cases hx)⟩
 have hto:=ze7 hmok c.p c.ax c.inv st src dst (2*(nn+6):Nat)
 have hah:=ze4 ⟨s.m.W,[],0,s.m.ah+s.m.t⟩ c.p c.ax c.inv st src dst (2*(nn+6):Nat)
 have htk:=zea (m:=⟨s.m.W,[],0,s.m.ah+s.m.t⟩) (inv:=c.inv) (src:=src) (dst:=dst) (tab:=((2*(nn+6):Nat):Int)) p0 (jra (w:=w) q3 ⟨by omega,by omega,by omega⟩) (jra (w:=w) q3 ⟨by omega,by omega,by omega⟩) (jra (w:=w) q3 ⟨by omega,by omega,by omega⟩)
 have hfe:s.next (doF c st src dst) of=(((ze2 ⟨s.m.W,[],0,s.m.ah+s.m.t⟩ c.p c.ax c.inv st src dst (2*(nn+6):Nat)).1.1.1,(ze2 ⟨s.m.W,[],0,s.m.ah+s.m.t⟩ c.p c.ax c.inv st src dst (2*(nn+6):Nat)).1.1.2,[]),(ze2 ⟨s.m.W,[],0,s.m.ah+s.m.t⟩ c.p c.ax c.inv st src dst (2*(nn+6):Nat)).2):=by
  unfold Ts.next doF
  rw [hof,hm,show (2*(nV c.ax+6):Int)=((2*(nn+6):Nat):Int) by omega]
 generalize ze2 ⟨s.m.W,[],0,s.m.ah+s.m.t⟩ c.p c.ax c.inv st src dst (2*(nn+6):Nat)=V at hqt hto hah htk hfe
 obtain ⟨v1,v2,v3,v4⟩:=hqt
 rw [v1] at hfe htk
 have hd:doV c x st=doG c.p c.inv st.tw nn (jqs c.ax st) (zcd c.p c.ax c.inv st) x:=by unfold doV;rw [hnt]
 refine ⟨s.on (s.next (doF c st src dst) of) [],?_,⟨?_,?_,?_,?_,?_,?_⟩,?_,?_,?_,?_⟩
 ·show (if (s.next (doF c st src dst) of).1.1=true then _ else _)=_
  rw [hfe,if_pos rfl]
 ·rw [hfe]; exact v2
 ·rw [hfe]; exact hto
 ·rw [hfe]; exact v3.trans q3
 ·rw [hfe,hnt,hd]; exact v4
 ·rw [hd]; exact ja2 hk
 ·rw [hd,hnt]; exact ja3 _ _ _ _ _ _ _
 ·rw [hfe]; rfl
 ·rw [hfe]; exact List.append_nil _
 ·rw [hfe]; exact List.append_nil _
 ·rw [hfe]
  show V.2.ah+V.2.t=_
  obtain ⟨t1,t2,t3,t4⟩:=htk
  rw [hah]
  unfold j82
  rcases t4 with t4 | t4
  ·exact absurd t4.1 (by simp)
  ·rw [t4,hnn]; simp only [List.map_nil,List.length_nil]; omega
theorem z3j {c:TP} {w src:Nat} {x:List Int} {s:Ts} (h:QT c w src x s) (hk:jt3 c.p=true) (hn:1<=nV c.ax/\nV c.ax<=4096) (hp:src+(nV c.ax).toNat+6<=w) {of:Int->List Ev} (hof:∀ w,of w=[]) {i:Int} {k:Nat} :
 ∃ s1,zf4 (jzj c src) of i (k+1) s=(true,s1)/\s1.Y=x/\s1.fx=s.fx/\s1.sl=s.sl/\s1.m.ah+s1.m.t=s.m.ah+s.m.t+(2*nV c.ax+6):=by
 obtain ⟨nn,hnn⟩:=Int.eq_ofNat_of_zero_le (show 0<=nV c.ax by omega)
 have hnt:(nV c.ax).toNat=nn:=by omega
 obtain ⟨q1,q2,q3,q4,q5,q6⟩:=h
 rw [hnt] at hp q4 q6
 have hm:=jy7 s.m q1
 have hmok:Mm.ok ⟨s.m.W,[],0,s.m.ah+s.m.t⟩:=⟨q2.w,λ x hx=>(by cases hx),λ x hx=>(by cases hx)⟩
 have ho:=jzs (m:=⟨s.m.W,[],0,s.m.ah+s.m.t⟩) rfl hmok (d:=src) (n:=nn) hk (by omega) (by dsimp only;omega) q4 q5 q6
 have ht:=jzu (m:=⟨s.m.W,[],0,s.m.ah+s.m.t⟩) (p:=c.p) (a:=src) (n:=nn) hk (by omega) (jra (w:=w) q3 ⟨by omega,by omega,by omega⟩)
 have hah:=(jzt (m:=⟨s.m.W,[],0,s.m.ah+s.m.t⟩) (p:=c.p) (a:=src) (n:=nn) hk (by omega) (jra (w:=w) q3 ⟨by omega,by omega,by omega⟩)).2.2
 have hfe:s.next (jzj c src) of=(((jzo ⟨s.m.W,[],0,s.m.ah+s.m.t⟩ c.p nn src).1.1.2.1,(jzo ⟨s.m.W,[],0,s.m.ah+s.m.t⟩ c.p nn src).1.1.2.2,(jzo ⟨s.m.W,[],0,s.m.ah+s.m.t⟩ c.p nn src).1.1.1),(jzo ⟨s.m.W,[],0,s.m.ah+s.m.t⟩ c.p nn src).2):=by
  unfold Ts.next jzj
  rw [hof,hm,hnn]
 generalize jzo ⟨s.m.W,[],0,s.m.ah+s.m.t⟩ c.p nn src=O at ho ht hah hfe
 rw [ho] at hfe ht
 refine ⟨s.on (s.next (jzj c src) of) [],?_,?_,?_,?_,?_⟩
 ·show (if (s.next (jzj c src) of).1.1=true then _ else _)=_
  rw [hfe,if_pos rfl]
 ·rw [hfe]; rfl
 ·rw [hfe]; exact List.append_nil _
 ·rw [hfe]; exact List.append_nil _
 ·rw [hfe]
  show O.2.ah+O.2.t=_
  obtain ⟨t1,t2,t3,t4⟩:=ht
  rw [hah]
  rcases t4 with t4 | t4
  ·exact absurd (congrArg (λ z=>z.2.1) t4.1) (by simp)
  ·rw [t4.1,hnn]; simp only [List.length_nil]; omega
theorem z3h {c:TP} {w:Nat} (hk:jt3 c.p=true) (hn:1<=nV c.ax/\nV c.ax<=4096) (ht:1<=c.times) {of:Int->List Ev} (hof:∀ w,of w=[]):∀ (l:List Stp) (i:Int) (src dst:Nat) (x:List Int) (s:Ts),QT c w src x s->(∀ st∈l,PQ c w st src dst/\PQ c w st dst src)->src+(nV c.ax).toNat+6<=w->dst+(nV c.ax).toNat+6<=w ->
 ∃ s1,j2g c of l i src dst s=(true,s1)/\s1.Y=l.foldl (doV c) x/\s1.fx=s.fx/\s1.sl=s.sl/\s1.m.ah+s1.m.t=s.m.ah+s.m.t+(l.map (j82 c)).sum+(2*nV c.ax+6)
 | [], i, src, dst, x, s, h, _, h1, h2 => by
   obtain ⟨k,hkk⟩:∃ k,c.times=k+1:=⟨c.times-1,by omega⟩
   obtain ⟨s1,e1,e2,e3,e4,e5⟩:=z3j (i:=i) (k:=k) h hk hn h1 hof
   refine ⟨s1,?_,e2,e3,e4,by rw [e5]; simp⟩
   unfold j2g
   rw [hkk]; exact e1
 | st :: l, i, src, dst, x, s, h, hp, h1, h2 => by
   obtain ⟨k,hkk⟩:∃ k,c.times=k+1:=⟨c.times-1,by omega⟩
   obtain ⟨s1,e1,e2,e3,e4,e5,e6⟩:=z3i (i:=i) (k:=k) h (hp st (by simp)).1 hof
   obtain ⟨s2,g1,g2,g3,g4,g5⟩:=z3h hk hn ht hof l (i+1) dst src _ s1 e2 (λ t ht=>(hp t (by simp [ht])).symm) h2 h1
   refine ⟨s2,?_,g2,g3.trans e4,g4.trans e5,?_⟩
   ·unfold j2g
    rw [hkk,e1,if_pos rfl]
    exact g1
   ·rw [g5,e6,List.map_cons,List.sum_cons]; omega
theorem z3k {q:Req} (h:j7c q=0) (hX:∀ x∈q.X,0<=x) {it tr:Int} (hit:0<=it/\it < q.batch) {l:List Ev} (hl:∀ w,ofS l it tr w=[]) :
 ∃ s1,zds q it tr l=(true,s1)/\s1.Y=(zau q.inv 0 q.axes).foldl (doV (zdk q)) (jsl q it)/\s1.fx=[]/\s1.sl=[]/\s1.m.ah+s1.m.t=nV q.axes+6+((zau q.inv 0 q.axes).map (j82 (zdk q))).sum+(2*nV q.axes+6):=by
 obtain ⟨q1,q2,q3,q4,q5⟩:=j7d h
 obtain ⟨f1,f2,f3,f4⟩:=j83 q2
 obtain ⟨hk,hal,hall⟩:=jqn q2
 obtain ⟨hst,hsl⟩:=zb4 (λ a ha=>(hall a ha).1) q.inv
 have hn:=jxs q2
 have hmk:=jx8 (p:=q.P) (l:=q.axes) q.inv q2 (zau q.inv 0 q.axes) 0 hst (by omega) (by omega)
 have hmg:=(jx9 (p:=q.P) (l:=q.axes) (inv:=q.inv) (zau q.inv 0 q.axes) 0).2
 have hM:(jwd q.P q.axes q.inv).1.W=2*(nV q.axes+6)+jx7 q.P q.axes q.inv 0 (zau q.inv 0 q.axes):=by unfold jwd;rw [if_pos q2]
 obtain ⟨il,il2⟩:=jsm h hit
 have hinP:∀ y∈jsl q it,inP q.P y:=λ y hy=>by
  have hm:y∈q.X:=List.mem_of_mem_drop (List.mem_of_mem_take hy)
  refine ⟨hX y hm,?_⟩
  unfold inV at q4
  rw [Bool.and_eq_true] at q4
  simpa using List.all_eq_true.1 q4.1 y hm
 unfold zds
 rw [hM]
 generalize jx7 q.P q.axes q.inv 0 (zau q.inv 0 q.axes)=mm at hmk hmg ⊢
 generalize zau q.inv 0 q.axes=G at hst hmg ⊢
 obtain ⟨nn,hnn⟩:=Int.eq_ofNat_of_zero_le (show 0<=nV q.axes by omega)
 have hnt:(nV q.axes).toNat=nn:=by omega
 have hs6:=zbw hk (jsl q it)
 have hcl:(jsl q it++z97 (zbu q.P (jsl q it))).length=nn+6:=by
  rw [List.length_append]; show _+6=_;omega
 have hcu:∀ y∈jsl q it++z97 (zbu q.P (jsl q it)),Go.Proofs.YtpecnaacgkgjmaaGreatDoor.u64r y:=λ y hy=>by
  rcases List.mem_append.1 hy with hy | hy
  ·exact zei hk (hinP y hy)
  ·unfold z97 at hy
   simp only [List.mem_cons,List.not_mem_nil,or_false] at hy
   rcases hy with e | e | e | e | e | e <;> rw [e] <;> first | exact zei hk hs6.1 | exact zei hk hs6.2
 have hok0:Mm.ok ⟨List.replicate (2*(nV q.axes+6)+mm).toNat 0,ofS l it tr 0,0,0⟩:=by
  rw [hl]
  refine ⟨λ y hy=>?_,λ x hx=>(by cases hx),λ x hx=>(by cases hx)⟩
  rw [(List.mem_replicate.1 hy).2]; exact ⟨by omega,by omega⟩
 have hla:=jup (m:=⟨List.replicate (2*(nV q.axes+6)+mm).toNat 0,ofS l it tr 0,0,0⟩) (l:=jsl q it++z97 (zbu q.P (jsl q it))) (a:=0) (jra (w:=(2*(nV q.axes+6)+mm).toNat) (by simp) ⟨by omega,by omega,by omega⟩)
 have hlo:=jun hok0 hcu 0
 have hlah:=jui ⟨List.replicate (2*(nV q.axes+6)+mm).toNat 0,ofS l it tr 0,0,0⟩ (jsl q it++z97 (zbu q.P (jsl q it))) 0
 have hlw:(juh ⟨List.replicate (2*(nV q.axes+6)+mm).toNat 0,ofS l it tr 0,0,0⟩ (jsl q it++z97 (zbu q.P (jsl q it))) 0).2=⟨zh9 (List.replicate (2*(nV q.axes+6)+mm).toNat 0) ((z6b ((0:Nat):Int) (jsl q it++z97 (zbu q.P (jsl q it))).length).zip (jsl q it++z97 (zbu q.P (jsl q it)))),[],(nn:Int)+6,0⟩:=by
  unfold juh
  rw [if_pos (jra (w:=(2*(nV q.axes+6)+mm).toNat) (by simp) ⟨by omega,by omega,by omega⟩)]
  dsimp only
  rw [zh5 _ _ (hl 0)]
  dsimp only
  rw [List.length_zip,z6d,Nat.min_self,hcl]
  congr 1
  omega
 have hwin:=zfg (d:=0) (l:=jsl q it++z97 (zbu q.P (jsl q it))) (W:=List.replicate (2*(nV q.axes+6)+mm).toNat 0) (by rw [hcl]; simp;omega)
 have hQ:QT (zdk q) (2*(nV q.axes+6)+mm).toNat 0 (jsl q it) ⟨m0T q.P (2*(nV q.axes+6)+mm) (jsl q it) (ofS l it tr 0),0,[],[],[]⟩:=by
  refine ⟨?_,hlo,hla.2.1.trans (by simp),?_,hinP,by show (jsl q it).length=(nV q.axes).toNat;omega⟩
  ·show (juh _ _ _).2.L=[]
   rw [hlw]
  ·show (((juh _ _ _).2.W).drop 0).take ((nV q.axes).toNat+6)=_
   rw [hlw,hnt,<- hcl]
   exact hwin
 obtain ⟨s1,e1,e2,e3,e4,e5⟩:=z3h (c:=zdk q) (w:=(2*(nV q.axes+6)+mm).toNat) hk hn (by show 1<=(q.retry+1).toNat;omega) hl G 0 0 (nn+6) _ _ hQ
  (λ st hs=>by
    have h1:=zao _ _ _ q2 (hst st hs)
    have h2:=hmg st hs
    have hc:(nV (zdk q).ax).toNat=nn:=hnt
    refine ⟨⟨h1,?_,?_,?_,?_,?_,?_⟩,⟨h1,?_,?_,?_,?_,?_,?_⟩⟩ <;> rw [hc]
    all_goals first | omega | (show _+(zcd q.P q.axes q.inv st).length<=_;omega))
  (by show 0+(nV q.axes).toNat+6<=_;omega) (by show nn+6+(nV q.axes).toNat+6<=_;omega)
 refine ⟨s1,?_,e2,e3,e4,?_⟩
 ·rw [show ((0:Nat):Int)=0 from rfl,show ((nn+6:Nat):Int)=nV q.axes+6 by omega] at e1
  exact e1
 ·rw [e5]
  show (juh _ _ _).2.ah+(juh _ _ _).2.t+_+_=_
  rw [hlw]
  show 0+((nn:Int)+6)+_+(2*nV q.axes+6)=_
  omega
abbrev jvi:Req:=⟨998244353,[⟨2,false⟩],false,1,[3,5],[1],0,0⟩
theorem jvj:j7c jvi=0:=by decide +kernel
theorem jvk:zau false 0 [⟨2,false⟩]=[⟨0,false,⟨2,1,1⟩⟩]:=by decide +kernel
theorem jvl:zdr jvi 0 0 []=⟨true,[8,998244351],[],[],46⟩:=by
 obtain ⟨s1,e1,e2,e3,e4,e5⟩:=z3k (q:=jvi) jvj (λ x hx=>by
  simp only [List.mem_cons,List.not_mem_nil,or_false] at hx
  rcases hx with rfl | rfl <;> decide) (it:=0) (tr:=0) ⟨by decide,by decide⟩ (l:=[]) (λ w=>rfl)
 have hE:zdq jvi 0 0 ([]:List Ev).length=0:=by unfold zdq;rw [jvj]; rfl
 have hi:jsl jvi 0=[3,5]:=by unfold jsl;rw [show nV jvi.axes=((2:Nat):Int) from jvn]; rfl
 rw [show zau jvi.inv 0 jvi.axes=[⟨0,false,⟨2,1,1⟩⟩] from jvk] at e2 e5
 have h2:doV (zdk jvi) [3,5] ⟨0,false,⟨2,1,1⟩⟩=[8,998244351]:=by
  unfold doV
  rw [show (nV (zdk jvi).ax).toNat=2 by rw [show nV (zdk jvi).ax=((2:Nat):Int) from jvn]; rfl]
  exact jvm
 have h3:j82 (zdk jvi) ⟨0,false,⟨2,1,1⟩⟩=28:=by
  unfold j82
  rw [show nV (zdk jvi).ax=((2:Nat):Int) from jvn,show zcd (zdk jvi).p (zdk jvi).ax (zdk jvi).inv ⟨0,false,⟨2,1,1⟩⟩=[1,1] from jvq]; rfl
 rw [hi,List.foldl_cons,List.foldl_nil,h2] at e2
 rw [List.map_cons,List.map_nil,h3,show nV jvi.axes=((2:Nat):Int) from jvn] at e5
 unfold zdr
 rw [if_pos hE,e1]
 dsimp only
 rw [e2,e3,e4,e5]
 rfl
set_option maxRecDepth 20000 in
set_option maxHeartbeats 1000000 in
theorem jvg {S:St}:Sp (jj2 []) S λ v _=>v=vB true:=by
 unfold Sp
 rw [jj3]
 have hp:S <+: S++[j00.cells [vI 2,vB false] 113 none,j00.cells [vU 3,vU 5] 24 none,j00.cells [vU 1] 24 none,j00.cells (qc jvi (some ⟨S.length,0,none⟩) 1 (some ⟨S.length+1,0,none⟩) 2 (some ⟨S.length+2,0,none⟩) 1) 62 none]:=List.prefix_append _ _
 have z0:(S++[j00.cells [vI 2,vB false] 113 none,j00.cells [vU 3,vU 5] 24 none,j00.cells [vU 1] 24 none,j00.cells (qc jvi (some ⟨S.length,0,none⟩) 1 (some ⟨S.length+1,0,none⟩) 2 (some ⟨S.length+2,0,none⟩) 1) 62 none])[S.length]? = some (j00.cells [vI 2,vB false] 113 none):=gA0
 have z1:(S++[j00.cells [vI 2,vB false] 113 none,j00.cells [vU 3,vU 5] 24 none,j00.cells [vU 1] 24 none,j00.cells (qc jvi (some ⟨S.length,0,none⟩) 1 (some ⟨S.length+1,0,none⟩) 2 (some ⟨S.length+2,0,none⟩) 1) 62 none])[S.length+1]? = some (j00.cells [vU 3,vU 5] 24 none):=gA1
 have z2:(S++[j00.cells [vI 2,vB false] 113 none,j00.cells [vU 3,vU 5] 24 none,j00.cells [vU 1] 24 none,j00.cells (qc jvi (some ⟨S.length,0,none⟩) 1 (some ⟨S.length+1,0,none⟩) 2 (some ⟨S.length+2,0,none⟩) 1) 62 none])[S.length+2]? = some (j00.cells [vU 1] 24 none):=gA2
 have z3:(S++[j00.cells [vI 2,vB false] 113 none,j00.cells [vU 3,vU 5] 24 none,j00.cells [vU 1] 24 none,j00.cells (qc jvi (some ⟨S.length,0,none⟩) 1 (some ⟨S.length+1,0,none⟩) 2 (some ⟨S.length+2,0,none⟩) 1) 62 none])[S.length+3]? = some (j00.cells (qc jvi (some ⟨S.length,0,none⟩) 1 (some ⟨S.length+1,0,none⟩) 2 (some ⟨S.length+2,0,none⟩) 1) 62 none):=gA
 simp only [wps,List.append_assoc,List.cons_append,List.nil_append,List.length_append,List.length_cons,List.length_nil,Nat.zero_add,Nat.add_assoc,Nat.reduceAdd,gA,sA,List.set_cons_succ,List.set_cons_zero,List.getElem?_cons_succ,List.getElem?_cons_zero,j6u z3]
 generalize S++[j00.cells [vI 2,vB false] 113 none,j00.cells [vU 3,vU 5] 24 none,j00.cells [vU 1] 24 none,j00.cells (qc jvi (some ⟨S.length,0,none⟩) 1 (some ⟨S.length+1,0,none⟩) 2 (some ⟨S.length+2,0,none⟩) 1) 62 none]=Y at hp z0 z1 z2 z3 ⊢
 have hQ:QA Y jvi (some ⟨S.length,0,none⟩) (some ⟨S.length+1,0,none⟩) (some ⟨S.length+2,0,none⟩):=⟨Ar.blk (l:=jvi.axes) z0 (λ _ _=>rfl) rfl,Ar.blk (l:=jvi.X) z1 (λ _ _=>rfl) rfl,Ar.blk (l:=jvi.seeds) z2 (λ _ _=>rfl) rfl,by decide,by decide,by decide⟩
 refine (zfk (c1:=1) (c4:=2) (c5:=1) hQ).use ?_
 rintro _ S1 k1 rfl
 have z31:=z1w k1 z3
 have hw:zfj jvi=(3,0):=by unfold zfj;rw [if_pos jvj,show zau jvi.inv 0 jvi.axes=[⟨0,false,⟨2,1,1⟩⟩] from jvk]; rfl
 rw [hw]
 simp only [wps,j6u z31,gcz,gcs]
 refine (zdp (q:=jvi) (c1:=1) (c4:=2) (c5:=1) (it:=0) (tr:=0) (la:=none) (ln:=0) (lc:=0) (l:=[]) (hQ.mono k1) (by decide) (λ x hx=>?_) .nil (.inl (by omega)) (λ x hx=>by cases hx) (λ x hx=>by cases hx)).mono ?_
 ·simp only [List.mem_cons,List.not_mem_nil,or_false] at hx
  rcases hx with rfl | rfl <;> decide
 rintro _ S2 ⟨k2,ya,fa,sa,rfl,hA,_⟩
 have hE:zdq jvi 0 0 0=0:=by unfold zdq;rw [jvj]; rfl
 rw [jvl] at hA ⊢
 rw [hE]
 have hp3:S2 <+: S2++[j00.cells (trC ⟨true,[8,998244351],[],[],46⟩ ya fa sa) 70 none,j00.cells [vU 8,vU 998244351] 24 none]:=List.prefix_append _ _
 have z4:(S2++[j00.cells (trC ⟨true,[8,998244351],[],[],46⟩ ya fa sa) 70 none,j00.cells [vU 8,vU 998244351] 24 none])[S2.length]? = some (j00.cells (trC ⟨true,[8,998244351],[],[],46⟩ ya fa sa) 70 none):=gA0
 have z5:(S2++[j00.cells (trC ⟨true,[8,998244351],[],[],46⟩ ya fa sa) 70 none,j00.cells [vU 8,vU 998244351] 24 none])[S2.length+1]? = some (j00.cells [vU 8,vU 998244351] 24 none):=gA1
 have hy:=hA.mono hp3
 have hw2:Ar (S2++[j00.cells (trC ⟨true,[8,998244351],[],[],46⟩ ya fa sa) 70 none,j00.cells [vU 8,vU 998244351] 24 none]) (some ⟨S2.length+1,0,none⟩) 2 1 eU [8,998244351]:=Ar.blk (l:=[8,998244351]) z5 (λ _ _=>rfl) rfl
 have hs:=z3l (c:=2) (d:=2) hy.y hw2 (by decide)
 have pS:=(hp.trans k1).trans (k2.trans hp3)
 simp only [wps,List.append_assoc,List.cons_append,List.nil_append,List.length_append,Nat.zero_add,Nat.reduceAdd,j6u z4,gcz,gcs]
 refine Eq.mpr (hs.wp _) ?_
 simp only [wps,j6u z4,gcz,gcs]
 exact ⟨pS,rfl⟩
theorem jby {S:St} {q:Req} {a1 a4 a5:Option Addr} {c1 c4 c5 n c:Nat} {p:Option Addr} {m:Int} (h:QA S q a1 a4 a5) (hm:0<=m/\m<=1000) :
 Sp (jiz [qv q a1 c1 a4 c4 a5 c5,.slice p n c,vI m]) S λ v S'=>v=vB (jbx q m && decide (n<=40)):=by
 unfold Sp
 rw [jj0]
 have hp:=List.prefix_append S [j00.cells (qc q a1 c1 a4 c4 a5 c5) 62 none]
 simp only [wps]
 refine (z3p (c1:=c1) (c4:=c4) (c5:=c5) (h.mono hp) hm).use ?_
 rintro _ S1 k1 rfl
 simp only [wps]
 refine ⟨λ e=>⟨hp.trans k1,?_⟩,λ e=>⟨hp.trans k1,?_⟩⟩
 ·rw [e,Bool.true_and]; congr 1;rw [decide_eq_decide]; omega
 ·rw [e]; rfl
structure Lab (g:Ev->Ev):Prop where
 ti:∀ x,(g x).ti=x.ti
 ad:∀ x,(g x).ad=x.ad
 ma:∀ x,(g x).ma=x.ma
section
variable {g:Ev->Ev} (hg:Lab g)
include hg
end
theorem je6 {α:Type} {f1 f2 f3 f4 f5 f6:α->Int} {S:St} {p:Option Addr} {n:Nat} {l:List α} (h:Ar S p n 6 (λ x=>[vI (f1 x),vI (f2 x),vI (f3 x),vI (f4 x),vU (f5 x),vU (f6 x)]) l) {i:Nat} (hi:i < l.length) :
 ∃ a,p=some a/\S.cell (a.add (i*6))=some (vI (f1 l[i]))/\S.cell ((a.add (i*6)).add 1)=some (vI (f2 l[i]))/\S.cell ((a.add (i*6)).add 2)=some (vI (f3 l[i])) /\
  S.cell ((a.add (i*6)).add 3)=some (vI (f4 l[i]))/\S.cell ((a.add (i*6)).add 4)=some (vU (f5 l[i]))/\S.cell ((a.add (i*6)).add 5)=some (vU (f6 l[i])):=by
 obtain ⟨a,h1,h2⟩:=h.2 i hi
 exact ⟨a,h1,by have:=h2 0 _ rfl;rwa [j25] at this,h2 1 _ rfl,h2 2 _ rfl,h2 3 _ rfl,h2 4 _ rfl,h2 5 _ rfl⟩
theorem je5 {α:Type} {f1 f2 f3 f4:α->Int} {S:St} {p:Option Addr} {n:Nat} {l:List α} (h:Ar S p n 4 (λ x=>[vI (f1 x),vI (f2 x),vI (f3 x),vI (f4 x)]) l) {i:Nat} (hi:i < l.length) :
 ∃ a,p=some a/\S.cell (a.add (i*4))=some (vI (f1 l[i]))/\S.cell ((a.add (i*4)).add 1)=some (vI (f2 l[i]))/\S.cell ((a.add (i*4)).add 2)=some (vI (f3 l[i]))/\S.cell ((a.add (i*4)).add 3)=some (vI (f4 l[i])):=by
 obtain ⟨a,h1,h2⟩:=h.2 i hi
 exact ⟨a,h1,by have:=h2 0 _ rfl;rwa [j25] at this,h2 1 _ rfl,h2 2 _ rfl,h2 3 _ rfl⟩
theorem z5b {α:Type} {f1 f2 f3 f4 f5 f6:α->Int} {S:St} {p r:Option Addr} {n m c d:Nat} {l:List α} (h:Ar S p n 6 (λ x=>[vI (f1 x),vI (f2 x),vI (f3 x),vI (f4 x),vU (f5 x),vU (f6 x)]) l) (k:Ar S r m 6 (λ x=>[vI (f1 x),vI (f2 x),vI (f3 x),vI (f4 x),vU (f5 x),vU (f6 x)]) l) (hn:n<=140737488355328) :
 Gv (jlq [.slice p n c,.slice r m d]) S (vB true):=by
 have h1:=h.1
 have k1:=k.1
 refine .of ?_
 rw [jlr]
 simp only [wps]
 refine ⟨λ e=>absurd (by rw [h1,k1]) e,λ e=>?_⟩
 refine zgd (λ st S' t=>∃ j:Nat,st=[vI j]/\j<=n/\t=n-j/\S'=S) ?_ n _ _ ⟨0,rfl,by omega,by omega,rfl⟩
 rintro st S' t ⟨j,rfl,hj,rfl,rfl⟩
 simp only [wps]
 intro h3
 refine ⟨h3,?_⟩
 have hx:j < l.length:=by omega
 obtain ⟨a,rfl,c0,c1,c2,c3,c4,c5⟩:=je6 h hx
 obtain ⟨b,rfl,d0,d1,d2,d3,d4,d5⟩:=je6 k hx
 simp only [wps,c0,c1,c2,c3,c4,c5,d0,d1,d2,d3,d4,d5]
 rw [wI_ (n:=(j:Int)+1) (by omega) (by omega)]
 refine ⟨by omega,λ e3=>?_,λ e3=>⟨n-(j+1),by omega,j+1,rfl,by omega,rfl⟩⟩
 simp [eqL] at e3
theorem z9b {α:Type} {f1 f2 f3 f4:α->Int} {S:St} {p r:Option Addr} {n m c d:Nat} {l:List α} (h:Ar S p n 4 (λ x=>[vI (f1 x),vI (f2 x),vI (f3 x),vI (f4 x)]) l) (k:Ar S r m 4 (λ x=>[vI (f1 x),vI (f2 x),vI (f3 x),vI (f4 x)]) l) (hn:n<=140737488355328) :
 Gv (jlt [.slice p n c,.slice r m d]) S (vB true):=by
 have h1:=h.1
 have k1:=k.1
 refine .of ?_
 rw [jlu]
 simp only [wps]
 refine ⟨λ e=>absurd (by rw [h1,k1]) e,λ e=>?_⟩
 refine zgd (λ st S' t=>∃ j:Nat,st=[vI j]/\j<=n/\t=n-j/\S'=S) ?_ n _ _ ⟨0,rfl,by omega,by omega,rfl⟩
 rintro st S' t ⟨j,rfl,hj,rfl,rfl⟩
 simp only [wps]
 intro h3
 refine ⟨h3,?_⟩
 have hx:j < l.length:=by omega
 obtain ⟨a,rfl,c0,c1,c2,c3⟩:=je5 h hx
 obtain ⟨b,rfl,d0,d1,d2,d3⟩:=je5 k hx
 simp only [wps,c0,c1,c2,c3,d0,d1,d2,d3]
 rw [wI_ (n:=(j:Int)+1) (by omega) (by omega)]
 refine ⟨by omega,λ e3=>?_,λ e3=>⟨n-(j+1),by omega,j+1,rfl,by omega,rfl⟩⟩
 simp [eqL] at e3
theorem z3q {S:St} {it tr:Int} {t:Tr} {ya fa sa yb fb sb:Option Addr} (h:TrA S it tr t ya fa sa) (k:TrA S it tr t yb fb sb) (hs:TrS t) :
 Sp (jln [vA (trC t ya fa sa),vA (trC t yb fb sb)]) S λ v _=>v=vB true:=by
 unfold Sp
 rw [jlo]
 have hp:S <+: S++[j00.cells (trC t ya fa sa) 70 none,j00.cells (trC t yb fb sb) 70 none]:=List.prefix_append _ _
 have z0:(S++[j00.cells (trC t ya fa sa) 70 none,j00.cells (trC t yb fb sb) 70 none])[S.length]? = some (j00.cells (trC t ya fa sa) 70 none):=gA0
 have z1:(S++[j00.cells (trC t ya fa sa) 70 none,j00.cells (trC t yb fb sb) 70 none])[S.length+1]? = some (j00.cells (trC t yb fb sb) 70 none):=gA1
 have h':=h.mono hp
 have k':=k.mono hp
 have e1:=λ c d=>z3l (c:=c) (d:=d) h'.y k'.y (by have:=hs.y;omega)
 have e2:=λ c d=>z5b (c:=c) (d:=d) h'.fx k'.fx (by have:=hs.fx;omega)
 have e3:=λ c d=>z9b (c:=c) (d:=d) h'.sl k'.sl (by have:=hs.sl;omega)
 simp only [wps,List.append_assoc,List.cons_append,List.nil_append,List.length_append,List.length_cons,List.length_nil,Nat.zero_add,Nat.reduceAdd,j6u z0,j6u z1,gcz,gcs]
 refine ⟨λ _=>?_,λ e=>by simp at e⟩
 refine Eq.mpr ((e1 _ _).wp _) ?_
 simp only [wps,j6u z0,j6u z1,gcz,gcs]
 refine Eq.mpr ((e2 _ _).wp _) ?_
 simp only [wps,j6u z0,j6u z1,gcz,gcs]
 refine Eq.mpr ((e3 _ _).wp _) ?_
 simp only [wps,j6u z0,j6u z1,gcz,gcs]
 exact ⟨hp,by simp⟩
theorem zf7 {f:j1j} {of of':Int->List Ev} {step:Int}:∀ (k:Nat) (s:Ts),(∀ w,s.win < w->w<=s.win+k->of w=of' w)->zf4 f of step k s=zf4 f of' step k s/\(zf4 f of step k s).2.win<=s.win+k
 | 0, s, _ => ⟨rfl, by show s.win <= _; omega⟩
 | k + 1, s, h => by
   have e:s.next f of=s.next f of':=by unfold Ts.next;rw [h _ (by omega) (by omega)]
   unfold zf4
   rw [e]
   split
   ·exact ⟨rfl,by show s.win+1<=_;omega⟩
   ·obtain ⟨h1,h2⟩:=zf7 k (s.on (s.next f of') [(s.win+1,step)]) λ w h1 h2=>h w (by have : (s.on (s.next f of') [(s.win+1,step)]).win=s.win+1:=rfl;omega) (by have : (s.on (s.next f of') [(s.win+1,step)]).win=s.win+1:=rfl;omega)
    refine ⟨h1,?_⟩
    have : (s.on (s.next f of') [(s.win+1,step)]).win=s.win+1:=rfl
    omega
theorem j2l {c:TP} {of of':Int->List Ev}:∀ (l:List Stp) (i src dst:Int) (s:Ts),(∀ w,s.win < w->w<=s.win+(l.length+1)*(c.times:Int)->of w=of' w)->j2g c of l i src dst s=j2g c of' l i src dst s
 | [], i, src, dst, s, h => by
   unfold j2g
   exact (zf7 _ _ λ w h1 h2=>h w h1 (by simp only [List.length_nil]; omega)).1
 | st :: l, i, src, dst, s, h => by
   have hl:(((st :: l).length:Int)+1)*(c.times:Int)=((l.length:Int)+1)*(c.times:Int)+c.times:=by
    rw [List.length_cons,show ((l.length+1:Nat):Int)+1=((l.length:Int)+1)+1 by omega,Int.add_mul _ 1,Int.one_mul]
   have hnn:0<=((l.length:Int)+1)*(c.times:Int):=Int.mul_nonneg (by omega) (by omega)
   rw [hl] at h
   obtain ⟨h1,h2⟩:=zf7 (f:=doF c st src dst) (of:=of) (of':=of') (step:=i) c.times s λ w g1 g2=>h w g1 (by omega)
   unfold j2g
   rw [<- h1]
   split
   ·exact j2l l _ _ _ _ λ w g1 g2=>by
     by_cases hw:s.win < w
     ·exact h w hw (by omega)
     ·have hge:s.win<=(zf4 (doF c st src dst) of i c.times s).2.win:=by
       have key:∀ (k:Nat) (s:Ts),s.win<=(zf4 (doF c st src dst) of i k s).2.win:=by
        intro k
        induction k with
        | zero=>intro s;exact Int.le_refl _
        | succ k ih=>
          intro s
          unfold zf4
          split
          ·show s.win<=s.win+1;omega
          ·have:=ih (s.on (s.next (doF c st src dst) of) [(s.win+1,i)])
           have e:(s.on (s.next (doF c st src dst) of) [(s.win+1,i)]).win=s.win+1:=rfl
           omega
       exact key _ _
      omega
   ·rfl
theorem zdw {q:Req} (h:j7c q=0) {it tr:Int} {l m:List Ev} (he:∀ w,0<=w->w < (zfj q).1->ofS l it tr w=ofS m it tr w):zds q it tr l=zds q it tr m:=by
 obtain ⟨q1,_⟩:=j7d h
 have hw:(zfj q).1=1+(q.retry+1)*(((zau q.inv 0 q.axes).length:Int)+1):=by unfold zfj;rw [if_pos h]
 have hm:0<=(q.retry+1)*(((zau q.inv 0 q.axes).length:Int)+1):=Int.mul_nonneg (by omega) (by omega)
 have ht:((zdk q).times:Int)=q.retry+1:=by show ((q.retry+1).toNat:Int)=_;omega
 unfold zds
 rw [he 0 (Int.le_refl _) (by omega)]
 refine j2l _ _ _ _ _ λ w h1 h2=>he w ?_ ?_
 ·have : (0:Int) < w:=h1;omega
 ·have h2:w<=0+(((zau q.inv 0 q.axes).length:Int)+1)*((zdk q).times:Int):=h2
  rw [ht,Int.mul_comm] at h2
  omega
def j2s (it tr n:Int) (x:Ev):Bool:=decide (x.it=it) && (decide (x.tr=tr) && (decide (0<=x.wi) && decide (x.wi < n)))
theorem j2t {l:List Ev} {it tr n w:Int} (h0:0<=w) (h1:w < n):ofS l it tr w=ofS (l.filter (j2s it tr n)) it tr w:=by
 unfold ofS
 rw [List.filter_filter]
 congr 1
 refine List.filter_congr λ x _=>?_
 unfold jzw j2s
 by_cases e1:x.it=it
 ·by_cases e2:x.tr=tr
  ·by_cases e3:x.wi=w
   ·simp [e1,e2,e3,h0,h1]
   ·simp [e1,e2,e3]
  ·simp [e1,e2]
 ·simp [e1]
theorem zdt {q:Req} {it tr:Int} {l:List Ev} (hl:l.length<=1024):zdr q it tr l=zdr q it tr (l.filter (j2s it tr (zfj q).1))/\zdq q it tr l.length=zdq q it tr (l.filter (j2s it tr (zfj q).1)).length:=by
 have hf:=List.length_filter_le (j2s it tr (zfj q).1) l
 have he:zdq q it tr l.length=zdq q it tr (l.filter (j2s it tr (zfj q).1)).length:=by
  unfold zdq
  by_cases hc:j7c q≠0
  ·rw [if_pos hc,if_pos hc]
  ·rw [if_neg hc,if_neg hc]
   by_cases h2:0<=it/\it < q.batch/\0<=tr/\tr<=q.again
   ·rw [if_pos ⟨h2.1,h2.2.1,h2.2.2.1,h2.2.2.2,hl⟩,if_pos ⟨h2.1,h2.2.1,h2.2.2.1,h2.2.2.2,by omega⟩]
   ·rw [if_neg (by omega),if_neg (by omega)]
 refine ⟨?_,he⟩
 unfold zdr
 rw [<- he]
 split
 ·rename_i h0
  have hc:j7c q=0:=by
   refine Decidable.byContradiction λ hn=>?_
   unfold zdq at h0;rw [if_pos hn] at h0;exact hn h0
  rw [zdw hc (l:=l) (m:=l.filter (j2s it tr (zfj q).1)) λ w h1 h2=>j2t h1 h2]
 ·rfl
theorem zdu {q:Req} {it tr:Int} {l:List Ev} {X' sd:List Int} (h:j7c q=0) (hit:0<=it/\it < q.batch) (hl:X'.length=q.X.length) (hin:∀ y∈X',y < q.P) (hs:1<=sd.length/\sd.length<=4)
 (he:∀ i:Nat,(i:Int) / nV q.axes=it->X'[i]? = q.X[i]?) :
 j7c { q with X:=X',seeds:=sd }=0/\zdr { q with X:=X',seeds:=sd } it tr l=zdr q it tr l/\∀ n,zdq { q with X:=X',seeds:=sd } it tr n=zdq q it tr n:=by
 obtain ⟨q1,q2,q3,q4,q5⟩:=j7d h
 have hn:=jxs q2
 have hk:=(jqn q2).1
 have hc:j7c { q with X:=X',seeds:=sd }=0:=by
  unfold j7c
  dsimp only
  rw [if_pos q1,if_pos q2,if_pos (by rw [hl]; exact q3),if_pos ?_,if_pos hs]
  unfold inV
  rw [hk,Bool.and_true,List.all_eq_true]
  intro y hy
  exact decide_eq_true (hin y hy)
 have hE:∀ n,zdq { q with X:=X',seeds:=sd } it tr n=zdq q it tr n:=λ n=>by unfold zdq;rw [hc,h]
 have hi:jsl { q with X:=X',seeds:=sd } it=jsl q it:=by
  unfold jsl
  dsimp only
  apply List.ext_getElem?
  intro j
  rw [List.getElem?_take,List.getElem?_take]
  split
  ·rename_i hj
   rw [List.getElem?_drop,List.getElem?_drop]
   refine he _ ?_
   have h0:0<=it*nV q.axes:=Int.mul_nonneg hit.1 (by omega)
   rw [show (((it*nV q.axes).toNat+j:Nat):Int)=(j:Int)+it*nV q.axes by omega,Int.add_mul_ediv_right _ _ (by omega),Int.ediv_eq_zero_of_lt (by omega) (by omega)]
   omega
  ·rfl
 refine ⟨hc,?_,hE⟩
 have hT:zds { q with X:=X',seeds:=sd } it tr l=zds q it tr l:=by
  unfold zds
  rw [hi]; rfl
 unfold zdr
 rw [hE,hT]
theorem TrA.kp {S S':St} {it tr:Int} {t:Tr} {ya fa sa:Option Addr} (h:TrA S it tr t ya fa sa) {M:List Nat} (k:Kp M S S') (hM:∀ i∈M,S.length<=i):TrA S' it tr t ya fa sa:=
 ⟨k.ar h.y λ hne x e hm=>by have:=h.y.low (λ x=>⟨_,rfl⟩) hne x e;have:=hM _ hm;omega,k.ar h.fx λ hne x e hm=>by have:=h.fx.low (λ x=>⟨_,rfl⟩) hne x e;have:=hM _ hm;omega,
   k.ar h.sl λ hne x e hm=>by have:=h.sl.low (λ x=>⟨_,rfl⟩) hne x e;have:=hM _ hm;omega,h.ne⟩
def jx2 (w n it:Int) (i:Nat) (x:Int):Int:=if (i:Int) / n=it then x else (wU (x / 2+w / 1099511627776)).tmod 998244353
def jx4 (w n it:Int) (X:List Int):List Int:=X.mapIdx (jx2 w n it)
theorem z83 {l:List Int} {i:Nat} {v:Int} (h:l[i]? = some v):l.set i v=l:=by
 apply List.ext_getElem?
 intro j
 by_cases hj:i=j
 ·subst hj
  have hl:i < l.length:=by
   rcases Nat.lt_or_ge i l.length with h' | h'
   ·exact h'
   ·rw [List.getElem?_eq_none h'] at h;cases h
  rw [List.getElem?_set_self hl,h]
 ·rw [List.getElem?_set_ne hj]
theorem jx6 (w n it:Int) (X:List Int):(jx4 w n it X).length=X.length:=by unfold jx4;simp
theorem jx5 {w n it:Int} {X:List Int} {i:Nat} (h:i < X.length):(jx4 w n it X)[i]'(by rw [jx6]; exact h)=jx2 w n it i X[i]:=by unfold jx4;simp
theorem jx3 {w n it x p:Int} {i:Nat} (hk:jt3 p=true) (hx:x < p):jx2 w n it i x < p:=by
 unfold jx2
 split
 ·exact hx
 ·have h2:(wU (x / 2+w / 1099511627776)).tmod 998244353 < 998244353:=Int.tmod_lt_of_pos _ (by omega)
  have h3:998244353<=p:=by
   unfold jt3 at hk
   simp only [Bool.or_eq_true,beq_iff_eq] at hk
   rcases hk with (e | e) | e <;> rw [e] <;> decide
  omega
set_option maxHeartbeats 4000000 in
set_option maxRecDepth 20000 in
theorem j32 {S:St} {q:Req} {a1 a4 a5 la:Option Addr} {c1 c4 c5 ln lc:Nat} {it tr w:Int} {l:List Ev} (h:QA S q a1 a4 a5) (hc4:q.X.length<=c4) (hX:∀ x∈q.X,Go.Proofs.YtpecnaacgkgjmaaGreatDoor.u64r x) (hw:Go.Proofs.YtpecnaacgkgjmaaGreatDoor.u64r w)
 (hl:Ar S la ln 6 Ev.cells l) (hlk:∀ x∈l,Go.Proofs.YtpecnaacgkgjmaaGreatDoor.u64r x.ma) (hlt:∀ x∈l,x.ti<=9223372036854775807) :
 Sp (jit [qv q a1 c1 a4 c4 a5 c5,vI it,vI tr,.slice la ln lc,vU w]) S λ v _=>v=vB true:=by
 unfold Sp
 have hln0:=hl.1
 rw [jiu]
 have hp:=List.prefix_append S [j00.cells (qc q a1 c1 a4 c4 a5 c5) 62 none]
 have z:=jek (S:=S) (o:=j00.cells (qc q a1 c1 a4 c4 a5 c5) 62 none)
 simp only [wps]
 generalize S++[j00.cells (qc q a1 c1 a4 c4 a5 c5) 62 none]=Y at hp z ⊢
 refine jvg.use ?_
 rintro _ S1 k1 rfl
 have z1:=z1w k1 z
 have p1:=hp.trans k1
 simp only [wps,j6u z1,gcz,gcs]
 refine (jby (c1:=c1) (c4:=c4) (c5:=c5) (c:=lc) (p:=la) (n:=ln) (m:=12) (h.mono p1) (by omega)).use ?_
 rintro _ S2 k2 rfl
 have z2:=z1w k2 z1
 have p2:=p1.trans k2
 simp only [wps,j6u z2,gcz,gcs]
 refine ⟨λ _=>p2,λ hf=>?_⟩
 have hln:ln<=40:=by
  rw [Bool.and_eq_true] at hf;exact of_decide_eq_true hf.2
 refine (zdp (c1:=c1) (c4:=c4) (c5:=c5) (it:=it) (tr:=tr) (lc:=lc) (h.mono p2) hc4 (λ x hx=>(hX x hx).1) (hl.mono p2) (.inl (by omega)) hlk hlt).mono ?_
 rintro _ S5 ⟨k5,ya,fa,sa,rfl,hA5,hs5⟩
 have p5:=p2.trans k5
 have hp6:=List.prefix_append S5 [j00.cells (trC (zdr q it tr l) ya fa sa) 70 none]
 have w6:=jek (S:=S5) (o:=j00.cells (trC (zdr q it tr l) ya fa sa) 70 none)
 have z6:=z1w (k5.trans hp6) z2
 have hA6:=hA5.mono hp6
 have p6:=p5.trans hp6
 have e6:S5.length < (S5++[j00.cells (trC (zdr q it tr l) ya fa sa) 70 none]).length:=by simp
 simp only [wps,j6u z6,gcz,gcs]
 generalize S5++[j00.cells (trC (zdr q it tr l) ya fa sa) 70 none]=S6 at hp6 w6 z6 hA6 p6 e6 ⊢
 have done:WP (jtb it tr la ln lc w S.length S5.length (1,[vB true])) S6 λ a S'=>WP (jzc a) S' λ v S'=>S <+: S'/\v=vB true:=by
  unfold jtb
  simp only [wps]
  exact p6
 refine ⟨λ _=>done,λ e0=>⟨λ _=>done,λ g1=>⟨λ _=>done,λ g2=>⟨λ _=>done,λ g3=>?_⟩⟩⟩⟩
 have hE:zdq q it tr ln=0:=e0
 have hc:j7c q=0:=by
  refine Decidable.byContradiction λ hn=>?_
  unfold zdq at hE;rw [if_pos hn] at hE;exact hn hE
 obtain ⟨q1,q2,q3,q4,q5⟩:=j7d hc
 have hn:=jxs q2
 have hk:=(jqn q2).1
 have hb2:=h.b2
 have hdiv:((q.X.length:Int)).tdiv q.batch=nV q.axes:=by rw [q3,Int.mul_tdiv_cancel _ (by omega)]
 have hM:(if 1 > wI ((q.X.length:Int).tdiv q.batch) then 1 else wI ((q.X.length:Int).tdiv q.batch))=nV q.axes:=by
  rw [hdiv,wI_ (n:=nV q.axes) (by omega) (by omega)]
  split <;> omega
 have hX48:q.X.length<=48:=by
  rw [Bool.and_eq_true] at hf
  have hf1:=hf.1
  unfold jbx at hf1
  rw [Bool.and_eq_true,Bool.and_eq_true] at hf1
  have:=of_decide_eq_true hf1.1.2
  omega
 have hXl:0 < q.X.length:=by
  have : 1*1<=nV q.axes*q.batch:=Int.mul_le_mul hn.1 q1.1 (by omega) (by omega)
  omega
 have hp7:=List.prefix_append S6 [j00.cells (qc q a1 c1 a4 c4 a5 c5) 62 none]
 have z7:=jek (S:=S6) (o:=j00.cells (qc q a1 c1 a4 c4 a5 c5) 62 none)
 have l7:(S6++[j00.cells (qc q a1 c1 a4 c4 a5 c5) 62 none]).length=S6.length+1:=by simp
 have y7:=z1w hp7 z6
 unfold jtb
 simp only [wps,j6u z6,gcz,gcs,cond_true,hM]
 refine ⟨by omega,?_⟩
 generalize S6++[j00.cells (qc q a1 c1 a4 c4 a5 c5) 62 none]=S7 at hp7 z7 l7 y7 ⊢
 have p7:=p6.trans hp7
 have h7:=h.mono p7
 simp only [wps,j6u y7,gcz,gcs]
 have hrd:∀ {Q:List Value->St->Prop},Q (q.X.flatMap eU) S7->WP (rdN a4 q.X.length) S7 Q:=λ hq=>by
  have:=zgl h7.x (λ _=>rfl) hq
  rwa [Nat.mul_one] at this
 refine hrd ?_
 refine zft (aq:=none) (n:=0) (cs:=[]) (.inl ⟨rfl,rfl,rfl⟩) rfl hXl (by omega) (by omega) (by rw [List.all_eq_true]; intro v hv;obtain ⟨x,_,hx⟩:=List.mem_flatMap.1 hv;simp [eU] at hx;rw [hx]; rfl) ?_
 intro S8 m1 m2 m3
 rw [Nat.zero_add,List.nil_append] at *
 have z8:S8[S6.length]? = some (j00.cells (qc q a1 c1 a4 c4 a5 c5) 62 none):=(m2 _ (by omega) (by simp)).trans z7
 have p8:S <+: S8:=by
  rw [List.prefix_iff_getElem?]
  intro i hi
  have:=p7.length_le
  rw [m2 i (by omega) (by simp),z1u p7 hi,List.getElem?_eq_getElem hi]
 simp only [wps,z8]
 refine ⟨by omega,?_⟩
 have l8:S6.length < S8.length:=by omega
 have u9:∀ A:j00,(S8.set S6.length A++[j00.cells [vU w] 24 none])[S6.length]? = some A:=λ A=>jeh (List.getElem?_set_self l8)
 have t9:∀ A A':j00,(S8.set S6.length A++[j00.cells [vU w] 24 none]).set S6.length A'=S8.set S6.length A'++[j00.cells [vU w] 24 none]:=λ A A'=>by
  rw [List.set_append_left _ _ (by rw [List.length_set]; exact l8),List.set_set]
 simp only [wps,u9,t9,List.length_set,j6u (u9 _),gcz,gcs]
 refine ⟨by omega,?_⟩
 have hD:(S8.set S6.length (j00.cells [vU q.P,.slice a1 q.axes.length c1,vB q.inv,vI q.batch,.slice (some ⟨S7.length,0,none⟩) q.X.length q.X.length,.slice (some ⟨S8.length,0,none⟩) 1 1,vI q.retry,vI q.again] 62 none)++[j00.cells [vU w] 24 none])[S6.length]? = some (j00.cells [vU q.P,.slice a1 q.axes.length c1,vB q.inv,vI q.batch,.slice (some ⟨S7.length,0,none⟩) q.X.length q.X.length,.slice (some ⟨S8.length,0,none⟩) 1 1,vI q.retry,vI q.again] 62 none):=u9 _
 have kD:∀ i,i < S8.length->i≠S6.length->(S8.set S6.length (j00.cells [vU q.P,.slice a1 q.axes.length c1,vB q.inv,vI q.batch,.slice (some ⟨S7.length,0,none⟩) q.X.length q.X.length,.slice (some ⟨S8.length,0,none⟩) 1 1,vI q.retry,vI q.again] 62 none)++[j00.cells [vU w] 24 none])[i]? = S8[i]?:=λ i hi hne=>by
  rw [List.getElem?_append_left (by rw [List.length_set]; exact hi),List.getElem?_set_ne (Ne.symm hne)]
 have sD:(S8.set S6.length (j00.cells [vU q.P,.slice a1 q.axes.length c1,vB q.inv,vI q.batch,.slice (some ⟨S7.length,0,none⟩) q.X.length q.X.length,.slice (some ⟨S8.length,0,none⟩) 1 1,vI q.retry,vI q.again] 62 none)++[j00.cells [vU w] 24 none])[S8.length]? = some (j00.cells [vU w] 24 none):=by
  have:=jek (S:=S8.set S6.length (j00.cells [vU q.P,.slice a1 q.axes.length c1,vB q.inv,vI q.batch,.slice (some ⟨S7.length,0,none⟩) q.X.length q.X.length,.slice (some ⟨S8.length,0,none⟩) 1 1,vI q.retry,vI q.again] 62 none)) (o:=j00.cells [vU w] 24 none)
  rwa [List.length_set] at this
 have xD:(S8.set S6.length (j00.cells [vU q.P,.slice a1 q.axes.length c1,vB q.inv,vI q.batch,.slice (some ⟨S7.length,0,none⟩) q.X.length q.X.length,.slice (some ⟨S8.length,0,none⟩) 1 1,vI q.retry,vI q.again] 62 none)++[j00.cells [vU w] 24 none])[S7.length]? = some (j00.cells (q.X.flatMap eU) 24 (some 1)):=(kD _ (by omega) (by omega)).trans m3
 have lD:(S8.set S6.length (j00.cells [vU q.P,.slice a1 q.axes.length c1,vB q.inv,vI q.batch,.slice (some ⟨S7.length,0,none⟩) q.X.length q.X.length,.slice (some ⟨S8.length,0,none⟩) 1 1,vI q.retry,vI q.again] 62 none)++[j00.cells [vU w] 24 none]).length=S8.length+1:=by simp
 have k6D:Kp [S6.length] S6 (S8.set S6.length (j00.cells [vU q.P,.slice a1 q.axes.length c1,vB q.inv,vI q.batch,.slice (some ⟨S7.length,0,none⟩) q.X.length q.X.length,.slice (some ⟨S8.length,0,none⟩) 1 1,vI q.retry,vI q.again] 62 none)++[j00.cells [vU w] 24 none]):=⟨by rw [lD]; omega,λ i hi hn=>by
  rw [kD i (by omega) (by omega),m2 i (by omega) (by simp),z1u hp7 hi]⟩
 generalize S8.set S6.length (j00.cells [vU q.P,.slice a1 q.axes.length c1,vB q.inv,vI q.batch,.slice (some ⟨S7.length,0,none⟩) q.X.length q.X.length,.slice (some ⟨S8.length,0,none⟩) 1 1,vI q.retry,vI q.again] 62 none)++[j00.cells [vU w] 24 none]=SD at hD kD sD xD lD k6D ⊢
 have hmap:∀ L:List Int,L.flatMap eU=L.map (.int .u64):=λ L=>by rw [List.map_eq_flatMap]; rfl
 refine zgd (λ st S' m=>∃ j:Nat,st=[vN j]/\m=q.X.length-j/\j<=q.X.length/\Kp [S7.length] SD S'/\S'[S7.length]? = some (j00.cells (((jx4 w (nV q.axes) it q.X).take j++q.X.drop j).flatMap eU) 24 (some 1))) ?_ q.X.length _ _
  ⟨0,rfl,rfl,Nat.zero_le _,.refl,by simpa using xD⟩
 rintro st S9 m ⟨j,rfl,rfl,hj,k9,x9⟩
 have d9:=k9.get hD (by simp;omega)
 simp only [wps]
 refine ⟨λ g=>⟨by rw [hM]; omega,?_⟩,λ g=>?_⟩
 ·have hj':j < q.X.length:=by omega
  have hml:=jx6 w (nV q.axes) it q.X
  have hcur:((jx4 w (nV q.axes) it q.X).take j++q.X.drop j)[j]? = some q.X[j]:=by
   rw [List.getElem?_append_right (by rw [List.length_take]; omega),List.length_take,Nat.min_eq_left (by omega),Nat.sub_self,List.getElem?_drop,Nat.add_zero,List.getElem?_eq_getElem hj']
  have hstep:∀ v,v=jx2 w (nV q.axes) it j q.X[j]->((jx4 w (nV q.axes) it q.X).take j++q.X.drop j).set j v=(jx4 w (nV q.axes) it q.X).take (j+1)++q.X.drop (j+1):=λ v hv=>by
   have h1:((jx4 w (nV q.axes) it q.X).take j).length=j:=by rw [List.length_take]; omega
   rw [List.set_append_right _ _ (by omega),h1,Nat.sub_self,List.drop_eq_getElem_cons hj',List.set_cons_zero,zcr (by omega),jx5 hj',hv,List.append_assoc]; rfl
  have hdv:((j:Nat):Int).tdiv (nV q.axes)=(j:Int) / nV q.axes:=Int.tdiv_eq_ediv_of_nonneg (by omega)
  have hjd:0<=(j:Int) / nV q.axes/\(j:Int) / nV q.axes<=j:=⟨Int.ediv_nonneg (by omega) (by omega),Int.ediv_le_self _ (by omega)⟩
  rw [hdv,wI_ (n:=(j:Int) / nV q.axes) (by omega) (by omega),wI_ (n:=(j:Int)+1) (by omega) (by omega)]
  have xj:S9.cell ⟨S7.length,j,none⟩=some (vU q.X[j]):=by
   rw [j6u x9,hmap,List.getElem?_map,hcur]; rfl
  simp only [wps,j6u d9,gcz,gcs,Int.toNat_natCast,xj,x9]
  refine ⟨λ e=>⟨by omega,by omega,?_⟩,λ e=>?_⟩
  ·have hx:=hX _ (List.getElem_mem hj')
   have f1:q.X[j].fdiv (2 ^ min 1 IntKind.u64.bits)=q.X[j] / 2:=by
    rw [show (2:Int) ^ min 1 IntKind.u64.bits=2 from by decide]; exact Int.fdiv_eq_ediv_of_nonneg _ (by omega)
   have f2:w.fdiv (2 ^ min (Int.toNat 40) IntKind.u64.bits)=w / 1099511627776:=by
    rw [show (2:Int) ^ min (Int.toNat 40) IntKind.u64.bits=1099511627776 from by decide]; exact Int.fdiv_eq_ediv_of_nonneg _ (by omega)
   rw [f1,f2]
   have hv:(wU (q.X[j] / 2+w / 1099511627776)).tmod 998244353=jx2 w (nV q.axes) it j q.X[j]:=by unfold jx2;rw [if_neg e]
   rw [hv]
   refine ⟨by rw [hmap,List.length_map,List.length_append,List.length_take,List.length_drop]; omega,q.X.length-(j+1),by omega,j+1,rfl,rfl,by omega,?_,?_⟩
   ·exact k9.trans ⟨by simp,λ i hi hn=>by rw [List.getElem?_set_ne]; rintro rfl;simp at hn⟩
   ·rw [List.getElem?_set_self (z1y x9),<- hstep _ rfl,hmap,hmap,z9v (by rw [List.length_map,List.length_append,List.length_take,List.length_drop]; omega),List.map_set]
  ·refine ⟨q.X.length-(j+1),by omega,j+1,rfl,rfl,by omega,k9,?_⟩
   have hv:jx2 w (nV q.axes) it j q.X[j]=q.X[j]:=by unfold jx2;rw [if_pos e]
   rw [<- hstep _ rfl,hv,z83 hcur]
 ·have hjx:j=q.X.length:=by omega
  subst hjx
  rw [List.take_of_length_le (by rw [jx6]; exact Nat.le_refl _),List.drop_length,List.append_nil] at x9
  have s9:=k9.get sD (by simp;omega)
  have kk:Kp [S6.length,S7.length] S6 S9:=(k6D.mono (by simp)).trans (k9.mono (by simp))
  have hM2:∀ i∈[S6.length,S7.length],S6.length<=i:=λ i hi=>by simp at hi;omega
  have p9:=kk.low hM2 p6 p6.length_le
  have hlow:∀ {β:Type} {e:β->List Value} {m:List β} {pp:Option Addr} {n v:Nat},Ar S6 pp n v e m->(∀ x,∃ v,(e x)[0]? = some v)->Ar S9 pp n v e m:=λ ha hf=>kk.ar ha λ hne x e hm=>by
   have h1:=ha.low hf hne x e
   have h2:=hM2 _ hm;omega
  have hml:=jx6 w (nV q.axes) it q.X
  rw [<- hml] at d9
  have hQ:QA S9 { q with X:=jx4 w (nV q.axes) it q.X,seeds:=[w] } a1 (some ⟨S7.length,0,none⟩) (some ⟨S8.length,0,none⟩):=⟨hlow (h.mono p6).ax (λ x=>⟨_,rfl⟩),Ar.blk (l:=jx4 w (nV q.axes) it q.X) x9 (λ _ _=>rfl) rfl,Ar.blk (l:=[w]) s9 (λ _ _=>rfl) rfl,h.b1,by dsimp only;rw [hml]; exact h.b2,by dsimp only;simp⟩
  have hin:∀ y∈jx4 w (nV q.axes) it q.X,0<=y/\y < q.P:=λ y hy=>by
   obtain ⟨i,hi,rfl⟩:=List.mem_iff_getElem.1 hy
   have hi':i < q.X.length:=by rw [hml] at hi;exact hi
   rw [jx5 hi']
   have hxm:=List.getElem_mem hi'
   refine ⟨?_,jx3 hk ?_⟩
   ·unfold jx2
    split
    ·exact (hX _ hxm).1
    ·refine Int.tmod_nonneg _ ?_
     rw [show wU (q.X[i] / 2+w / 1099511627776)=(q.X[i] / 2+w / 1099511627776) % 18446744073709551616 from wrap_u64 _]
     exact Int.emod_nonneg _ (by omega)
   ·unfold inV at q4
    rw [Bool.and_eq_true] at q4
    simpa using List.all_eq_true.1 q4.1 _ hxm
  obtain ⟨o1,o2,o3⟩:=zdu (it:=it) (tr:=tr) (l:=l) (X':=jx4 w (nV q.axes) it q.X) (sd:=[w]) hc ⟨by omega,by omega⟩ hml (λ y hy=>(hin y hy).2) (by simp) λ i hi=>by
   by_cases hi':i < q.X.length
   ·rw [List.getElem?_eq_getElem (by rw [hml]; exact hi'),List.getElem?_eq_getElem hi',jx5 hi']
    unfold jx2;rw [if_pos hi]
   ·rw [List.getElem?_eq_none (by rw [hml]; omega),List.getElem?_eq_none (by omega)]
  simp only [wps,j6u d9,gcz,gcs]
  refine (zdp (q:={ q with X:=jx4 w (nV q.axes) it q.X,seeds:=[w] }) (c1:=c1) (c4:=(jx4 w (nV q.axes) it q.X).length) (c5:=1) (it:=it) (tr:=tr) (lc:=lc) hQ (Nat.le_refl _) (λ x hx=>(hin x hx).1) (hlow (hl.mono p6) (λ x=>⟨_,rfl⟩)) (.inl (by omega)) hlk hlt).mono ?_
  rintro _ S10 ⟨k10,yb,fb,sb,rfl,hA10,hs10⟩
  rw [o2] at hA10 ⊢
  rw [o3,hE]
  have hp8:=List.prefix_append S10 [j00.cells (trC (zdr q it tr l) yb fb sb) 70 none]
  have w8:=jek (S:=S10) (o:=j00.cells (trC (zdr q it tr l) yb fb sb) 70 none)
  have v8:=z1w (k10.trans hp8) (kk.get w6 (by simp;omega))
  have hA8:=hA10.mono hp8
  have hA68:=(hA6.kp kk hM2).mono (k10.trans hp8)
  have p8:=p9.trans (k10.trans hp8)
  simp only [wps,j6u w8,j6u v8,gcz,gcs]
  generalize S10++[j00.cells (trC (zdr q it tr l) yb fb sb) 70 none]=S11 at w8 v8 hA8 hA68 p8 ⊢
  refine (z3q hA68 hA8 hs5).use ?_
  rintro _ S12 k12 rfl
  simp only [wps]
  exact p8.trans k12
theorem Slp.inv {R n:Int} {l:List (Int×Int)} {w s a b c:Int} (h:Slp R n (l++[(w,s)]) a b c):∃ last times step,Slp R n l last times step/\times<=R/\last < w/\w < n/\step<=s/\(s=step->0 < times->w=last+1)/\a=w/\b=(if step < s then 0 else times)+1/\c=s:=by
 generalize e:l++[(w,s)]=L at h
 cases h with
 | nil => simp at e
 | @snoc l' last times step w' s' h1 h2 h3 h4 h5 h6 =>
   obtain ⟨e1,e2⟩:=List.append_inj' e rfl
   injection e2 with e2
   injection e2 with e2 e3
   subst e1 e2 e3
   exact ⟨last,times,step,h1,h2,h3,h4,h5,h6,rfl,rfl,rfl⟩
theorem Slp.det {R n:Int} {l:List (Int×Int)} {a b c a' b' c':Int} (h:Slp R n l a b c) (k:Slp R n l a' b' c'):a=a'/\b=b'/\c=c':=by
 induction h generalizing a' b' c' with
 | nil => generalize e : ([] : List (Int × Int)) = L at k; cases k with
   | nil=>exact ⟨rfl,rfl,rfl⟩
   | snoc=>simp at e
 | snoc h1 h2 h3 h4 h5 h6 ih =>
   obtain ⟨l1,t1,s1,g1,g2,g3,g4,g5,g6,rfl,rfl,rfl⟩:=k.inv
   obtain ⟨i1,i2,i3⟩:=ih g1
   exact ⟨rfl,by rw [i2,i3],rfl⟩
theorem Slp.pre {R n:Int} {l:List (Int×Int)} {a b c:Int} (h:Slp R n l a b c) (i:Nat):∃ a' b' c',Slp R n (l.take i) a' b' c':=by
 induction h with
 | nil => rw [List.take_nil]; exact ⟨_, _, _, .nil⟩
 | @snoc l last times step w s h1 h2 h3 h4 h5 h6 ih =>
   by_cases hi:i<=l.length
   ·rw [List.take_append_of_le_length hi]; exact ih
   ·rw [List.take_of_length_le (by simp;omega)]
    exact ⟨_,_,_,.snoc h1 h2 h3 h4 h5 h6⟩
theorem j2i {c:TP} {of:Int->List Ev} {w:Nat} (hk:jt3 c.p=true) (hn:1<=nV c.ax/\nV c.ax<=4096) (l:List Stp) (i src dst:Int) (s:Ts) (hp:PlT (nV c.ax) w src dst/\∀ st∈l,zam c.p c.ax st=0/\2*(nV c.ax+6)+((zcd c.p c.ax c.inv st).length:Int)<=w)
 (h:s.m.W.length=w/\s.Y=[]/\1<=s.m.ah+s.m.t) :
 1<=(j2g c of l i src dst s).2.m.ah+(j2g c of l i src dst s).2.m.t/\((j2g c of l i src dst s).1=false->(j2g c of l i src dst s).2.Y=[])/\((j2g c of l i src dst s).1=true->((j2g c of l i src dst s).2.Y.length:Int)=nV c.ax):=by
 have one:∀ {f:j1j} {cost step:Int},j1e f w cost->∀ (s:Ts),s.m.W.length=w/\1<=s.m.ah+s.m.t->∀ sl,(s.on (s.next f of) sl).m.W.length=w/\1<=(s.on (s.next f of) sl).m.ah+(s.on (s.next f of) sl).m.t:=fun {f cost step} hf s h sl=>by
  have hW:(s.m.nxt (of (s.win+1))).W.length=w:=(Mm.nxt_len _ _).trans h.1
  have t0:(s.m.nxt (of (s.win+1))).t=0:=rfl
  have a0:(s.m.nxt (of (s.win+1))).ah=s.m.ah+s.m.t:=rfl
  refine ⟨hf.len _ hW,?_⟩
  show 1<=(f (s.m.nxt (of (s.win+1)))).2.ah+(f (s.m.nxt (of (s.win+1)))).2.t
  have:=(hf.t _ hW).1
  rw [hf.ah]; omega
 refine j2h (λ _ _ s=>s.m.W.length=w/\s.Y=[]/\1<=s.m.ah+s.m.t) (λ b s=>1<=s.m.ah+s.m.t/\(b=false->s.Y=[])/\(b=true->(s.Y.length:Int)=nV c.ax)) (λ l i src dst=>PlT (nV c.ax) w src dst/\∀ st∈l,zam c.p c.ax st=0/\2*(nV c.ax+6)+((zcd c.p c.ax c.inv st).length:Int)<=w)
  (λ st l i src dst h=>⟨⟨h.1.2.1,h.1.1,h.1.2.2.2,h.1.2.2.1⟩,λ t ht=>h.2 t (by simp [ht])⟩) (λ st l i src dst s hp h=>?_) (λ i src dst s hp h=>?_) l i src dst s hp h
 ·obtain ⟨p1,p2⟩:=hp
  have hst:=p2 st (by simp)
  have hf:=ja1 hst.1 p1 hst.2
  have hY:=zf6 (f:=doF c st src dst) (λ _=>rfl) (of:=of) (step:=i) c.times s h.2.1
  have hJ:=zf5 (f:=doF c st src dst) (of:=of) (step:=i) (λ _ s=>s.m.W.length=w/\1<=s.m.ah+s.m.t) (λ _ s=>s.m.W.length=w/\1<=s.m.ah+s.m.t) (λ s h=>h) (λ k s h=>⟨λ _=>one (step:=i) hf s h _,λ _=>one (step:=i) hf s h _⟩) c.times s ⟨h.1,h.2.2⟩
  refine ⟨λ _=>⟨hJ.1,hY,hJ.2⟩,λ _=>⟨hJ.2,λ _=>hY,λ e=>by cases e⟩⟩
 ·have hpl:0<=src/\src+nV c.ax+6<=w:=⟨hp.1.1,hp.1.2.2.1⟩
  have hf:=jzk (c:=c) (src:=src) (w:=w) hk hn hpl
  obtain ⟨nn,hnn⟩:=Int.eq_ofNat_of_zero_le (show 0<=nV c.ax by omega)
  refine zf5 (f:=jzj c src) (of:=of) (step:=i) (λ _ s=>(s.m.W.length=w/\1<=s.m.ah+s.m.t)/\s.Y=[]) (λ b s=>1<=s.m.ah+s.m.t/\(b=false->s.Y=[])/\(b=true->(s.Y.length:Int)=nV c.ax)) (λ s h=>⟨h.1.2,λ _=>h.2,λ e=>by cases e⟩) (λ k s h=>?_) c.times s ⟨⟨h.1,h.2.2⟩,h.2.1⟩
  have hW:(s.m.nxt (of (s.win+1))).W.length=w:=(Mm.nxt_len _ _).trans h.1.1
  refine ⟨λ e=>⟨(one (step:=i) hf s h.1 _).2,λ e=>(by cases e),λ _=>?_⟩,λ e=>⟨one (step:=i) hf s h.1 _,hf.y _ hW e⟩⟩
  have ot:=jzu (m:=s.m.nxt (of (s.win+1))) (p:=c.p) (a:=src) (n:=nn) hk (by omega) (jra hW ⟨hpl.1,by omega,by omega⟩)
  have e':(jzo (s.m.nxt (of (s.win+1))) c.p nn src).1.1.2.1=true:=by rw [<- hnn]; exact e
  show (((jzo (s.m.nxt (of (s.win+1))) c.p (nV c.ax) src).1.1.1.length:Nat):Int)=nV c.ax
  rw [hnn]
  rcases ot.2.2.2 with u | ⟨u,v | v⟩
  ·rw [u.1] at e'; cases e'
  ·rw [v.2]
  ·rw [v.1] at e'; cases e'
structure j1i (t:Tr) (R n:Int):Prop where
 sl:∃ last times step,Slp R n t.sl last times step/\(t.ok=true->times<=R)/\(t.ok=false->times=R+1)
 fx:∀ x∈t.fx,1<=x.1/\x.1 < n
 pw:t.fx.Pairwise λ a b=>a.1<=b.1
 y0:t.ok=false->t.Y=[]
 y1:t.ok=true->1<=t.Y.length
 tk:1<=t.ticks
theorem zdv {q:Req} {it tr:Int} {l:List Ev} (h:zdq q it tr l.length=0):j1i (zdr q it tr l) q.retry (zfj q).1/\(zfj q).2=0/\j7c q=0:=by
 have hc:j7c q=0:=by
  refine Decidable.byContradiction λ hn=>?_
  unfold zdq at h;rw [if_pos hn] at h;exact hn h
 obtain ⟨q1,q2,q3,q4,q5⟩:=j7d hc
 obtain ⟨f1,f2,f3,f4⟩:=j83 q2
 obtain ⟨hk,hal,hall⟩:=jqn q2
 obtain ⟨hst,hsl⟩:=zb4 (λ a ha=>(hall a ha).1) q.inv
 have hn:=jxs q2
 have hmk:=jx8 (p:=q.P) (l:=q.axes) q.inv q2 (zau q.inv 0 q.axes) 0 hst (by omega) (by omega)
 have hmg:=(jx9 (p:=q.P) (l:=q.axes) (inv:=q.inv) (zau q.inv 0 q.axes) 0).2
 have hM:(jwd q.P q.axes q.inv).1.W=2*(nV q.axes+6)+jx7 q.P q.axes q.inv 0 (zau q.inv 0 q.axes):=by unfold jwd;rw [if_pos q2]
 have hw:zfj q=(1+(q.retry+1)*(((zau q.inv 0 q.axes).length:Int)+1),0):=by unfold zfj;rw [if_pos hc]
 have hit:0<=it/\it < q.batch:=by
  have h':=h
  unfold zdq at h'
  rw [if_neg (λ n=>n hc)] at h'
  refine Decidable.byContradiction λ hn=>?_
  rw [if_neg (by omega)] at h'; exact absurd h' (by decide)
 obtain ⟨il,il2⟩:=jsm hc hit
 have hcl:(jsl q it++z97 (zbu q.P (jsl q it))).length=(jsl q it).length+6:=by rw [List.length_append]; rfl
 refine ⟨?_,by rw [hw],hc⟩
 rw [hw]
 unfold zdr
 rw [if_pos h]
 have hT:zds q it tr l=j2g (zdk q) (ofS l it tr) (zau q.inv 0 q.axes) 0 0 (nV q.axes+6) ⟨m0T q.P (jwd q.P q.axes q.inv).1.W (jsl q it) (ofS l it tr 0),0,[],[],[]⟩:=rfl
 rw [hM] at hT
 generalize jx7 q.P q.axes q.inv 0 (zau q.inv 0 q.axes)=mm at hmk hmg hT
 have hla:=jup (m:=⟨List.replicate (2*(nV q.axes+6)+mm).toNat 0,ofS l it tr 0,0,0⟩) (l:=jsl q it++z97 (zbu q.P (jsl q it))) (a:=0) (jra (w:=(2*(nV q.axes+6)+mm).toNat) (by simp) ⟨by omega,by omega,by omega⟩)
 have hlah:=jui ⟨List.replicate (2*(nV q.axes+6)+mm).toNat 0,ofS l it tr 0,0,0⟩ (jsl q it++z97 (zbu q.P (jsl q it))) 0
 have hla3:=hla.2.2
 dsimp only at hla3 hlah
 have hn1:((0:Int)+((zau q.inv 0 q.axes).length:Int)+1)*(q.retry+1) < 1+(q.retry+1)*(((zau q.inv 0 q.axes).length:Int)+1):=by
  rw [Int.zero_add,Int.mul_comm]; omega
 obtain ⟨j,j1,j2,j3,last,times,step,j4,j5,j6,j7,j8⟩:=j2j (c:=zdk q) (of:=ofS l it tr) (R:=q.retry) (n:=1+(q.retry+1)*(((zau q.inv 0 q.axes).length:Int)+1)) (by omega) rfl (zau q.inv 0 q.axes) 0 0 (nV q.axes+6) ⟨m0T q.P (2*(nV q.axes+6)+mm) (jsl q it) (ofS l it tr 0),0,[],[],[]⟩ hn1
  ⟨⟨Int.le_refl _,λ x hx=>(by cases hx),List.Pairwise.nil⟩,by simp,0,0,0,.nil,Int.le_refl _,Int.le_refl _,by omega,.inr rfl⟩
 have hsh:=j2i (c:=zdk q) (of:=ofS l it tr) (w:=(2*(nV q.axes+6)+mm).toNat) hk hn (zau q.inv 0 q.axes) 0 0 (nV q.axes+6) ⟨m0T q.P (2*(nV q.axes+6)+mm) (jsl q it) (ofS l it tr 0),0,[],[],[]⟩
  ⟨⟨by omega,by show 0<=nV q.axes+6;omega,by show 0+nV q.axes+6<=_;omega,by show nV q.axes+6+nV q.axes+6<=_;omega⟩,λ st hs=>⟨zao _ _ _ q2 (hst st hs),by have:=hmg st hs;show 2*(nV q.axes+6)+((zcd q.P q.axes q.inv st).length:Int)<=_;omega⟩⟩
  ⟨hla.2.1.trans (by simp),rfl,by show 1<=(juh _ _ _).2.ah+(juh _ _ _).2.t;rw [hlah,hla3]; omega⟩
 rw [<- hT] at j2 j3 j4 j5 j7 j8 hsh
 refine ⟨⟨last,times,step,j4,j7,j8⟩,λ x hx=>⟨(j2.r x hx).1,?_⟩,j2.pw,hsh.2.1,λ e=>?_,hsh.1⟩
 ·have:=(j2.r x hx).2;omega
 ·have:=hsh.2.2 e
  have hnn:1<=nV (zdk q).ax:=hn.1
  dsimp only
  omega
set_option maxHeartbeats 4000000 in
set_option maxRecDepth 20000 in
theorem j6d {S:St} {b:Nat} {it tr n R:Int} {t:Tr} {ya fa sa:Option Addr} (h2:S[b]? = some (.cells (trC t ya fa sa) 70 none)) (hA:TrA S it tr t ya fa sa) (hs:TrS t) (hB:j1i t R n) (hn:n<=1000000000) :
 WP (jte it tr b n (0,[])) S λ r S'=>S <+: S'/\r=(0,[vB true]):=by
 have hs1:=hs.fx
 unfold jte
 simp only [wps,j6u h2,gcz,gcs]
 refine zgd (λ st S' m=>∃ (j:Nat) (last:Int),st=[vI last,vN j]/\m=t.fx.length-j/\j<=t.fx.length/\S <+: S'/\(∀ (i:Nat) (hi:i < t.fx.length),j<=i->last<=t.fx[i].1)) ?_ t.fx.length _ _ ⟨0,0,rfl,rfl,Nat.zero_le _,List.prefix_refl _,λ i hi _=>by have:=(hB.fx _ (List.getElem_mem hi)).1;omega⟩
 rintro st S1 m ⟨j,last,rfl,rfl,hj,k1,hlast⟩
 simp only [wps]
 refine ⟨λ g=>?_,λ g=>?_⟩
 ·have hj':j < t.fx.length:=by omega
  obtain ⟨x,rfl,c0,c1,c2,c3,c4,c5⟩:=je6 ((hA.mono k1).fx) hj'
  have hp:=List.prefix_append S1 [j00.cells (jah it tr t.fx[j]) 80 none]
  have z:=jek (S:=S1) (o:=j00.cells (jah it tr t.fx[j]) 80 none)
  simp only [wps,c0,c1,c2,c3,c4,c5,Int.toNat_natCast]
  refine ⟨g,?_⟩
  have k2:=k1.trans hp
  generalize S1++[j00.cells (jah it tr t.fx[j]) 80 none]=S2 at hp z k2 ⊢
  have m1:=hB.fx _ (List.getElem_mem hj')
  have m2:=hlast j hj' (Nat.le_refl _)
  have m3:=hA.ne _ (List.getElem_mem hj')
  rw [wI_ (n:=(j:Int)+1) (by omega) (by omega)]
  have hmx:(bif true then if 1 > last then 1 else last else if 1 < last then 1 else last)<=t.fx[j].1:=by
   rw [cond_true]; split <;> omega
  refine ⟨λ e=>absurd e (by omega),λ _=>⟨λ e=>absurd e (by omega),λ _=>⟨λ e=>absurd e m3,λ _=>⟨t.fx.length-(j+1),by omega,j+1,t.fx[j].1,rfl,rfl,by omega,k2,λ i hi hji=>?_⟩⟩⟩⟩
  exact List.pairwise_iff_getElem.1 hB.pw j i hj' hi (by omega)
 ·exact k1
set_option maxHeartbeats 4000000 in
set_option maxRecDepth 20000 in
theorem j6e {S:St} {b b0:Nat} {q:Req} {a1 a4 a5:Option Addr} {c1 c4 c5:Nat} {it tr n:Int} {t:Tr} {ya fa sa:Option Addr} (h0:S[b0]? = some (.cells (qc q a1 c1 a4 c4 a5 c5) 62 none)) (h2:S[b]? = some (.cells (trC t ya fa sa) 70 none)) (hA:TrA S it tr t ya fa sa) (hs:TrS t) (hB:j1i t q.retry n) (hn:n<=1000000000) (hr:0<=q.retry/\q.retry<=8) :
 WP (jtf it tr b0 b n (0,[])) S λ r S'=>S <+: S'/\r=(0,[vB true]):=by
 have hs2:=hs.sl
 obtain ⟨lastF,timesF,stepF,hF,hok,hnok⟩:=hB.sl
 unfold jtf
 simp only [wps,j6u h2,gcz,gcs]
 refine zgd (λ st S' m=>∃ (j:Nat) (last times step:Int),st=[vI last,vI times,vI step,vN j]/\m=t.sl.length-j/\j<=t.sl.length/\S <+: S'/\Slp q.retry n (t.sl.take j) last times step) ?_ t.sl.length _ _ ⟨0,0,0,0,rfl,rfl,Nat.zero_le _,List.prefix_refl _,.nil⟩
 rintro st S1 m ⟨j,last,times,step,rfl,rfl,hj,k1,hS⟩
 simp only [wps]
 refine ⟨λ g=>?_,λ g=>?_⟩
 ·have hj':j < t.sl.length:=by omega
  obtain ⟨x,rfl,c0,c1',c2,c3⟩:=je5 ((hA.mono k1).sl) hj'
  have hp:=List.prefix_append S1 [j00.cells (jai it tr t.sl[j]) 76 none]
  have z:=jek (S:=S1) (o:=j00.cells (jai it tr t.sl[j]) 76 none)
  simp only [wps,c0,c1',c2,c3,Int.toNat_natCast]
  refine ⟨g,?_⟩
  have k2:=k1.trans hp
  have y0:=z1w k2 h0
  have y2:=z1w k2 h2
  have hA2:=hA.mono k2
  generalize S1++[j00.cells (jai it tr t.sl[j]) 76 none]=S2 at hp z k2 y0 y2 hA2 ⊢
  obtain ⟨la',ti',st',hS1⟩:=hF.pre (j+1)
  have hS1':=hS1
  rw [zcr hj',show t.sl[j]=(t.sl[j].1,t.sl[j].2) from rfl] at hS1'
  obtain ⟨l0,t0,s0,g1,g2,g3,g4,g5,g6,rfl,rfl,rfl⟩:=hS1'.inv
  obtain ⟨rfl,rfl,rfl⟩:=hS.det g1
  have hnn:=hS.nn
  rw [wI_ (n:=(j:Int)+1) (by omega) (by omega)]
  refine ⟨λ e=>absurd e (by omega),λ _=>⟨λ e=>absurd e (by omega),λ _=>?_⟩⟩
  refine ⟨λ e=>absurd e (by omega),λ _=>?_⟩
  generalize htt:(if step < t.sl[j].2 then (0:Int) else times)=tt at *
  have htR:0<=tt/\tt<=q.retry:=by rw [<- htt]; split <;> omega
  have hlast:tt=q.retry->j+1=t.sl.length/\t.ok=false:=by
   intro e
   have hjl:j+1=t.sl.length:=by
    refine Decidable.byContradiction λ hne=>?_
    have hj2:j+1 < t.sl.length:=by omega
    obtain ⟨u1,u2,u3,hS2⟩:=hF.pre (j+2)
    rw [show j+2=(j+1)+1 from rfl,zcr hj2,show t.sl[j+1]=(t.sl[j+1].1,t.sl[j+1].2) from rfl] at hS2
    obtain ⟨v1,v2,v3,w1,w2,_⟩:=hS2.inv
    obtain ⟨_,x2,_⟩:=hS1.det w1
    omega
   refine ⟨hjl,?_⟩
   rw [List.take_of_length_le (by omega)] at hS1
   obtain ⟨_,x2,_⟩:=hS1.det hF
   cases ho:t.ok with
   | false=>rfl
   | true=>have:=hok ho;omega
  have hk1:WP (jtc b0 b S1.length (0,[vI tt])) S2 λ a S'=>a=(0,[vI t.sl[j].1,vI (tt+1),vI t.sl[j].2])/\S'=S2:=by
   unfold jtc
   simp only [wps,j6u z,j6u y0,j6u y2,gcz,gcs]
   rw [wI_ (n:=tt+1) (by omega) (by omega),wI_ (n:=q.retry+1) (by omega) (by omega)]
   refine ⟨λ e=>absurd e (by omega),λ _=>⟨λ e=>?_,λ _=>?_⟩⟩
   ·obtain ⟨m1,m2⟩:=hlast (by omega)
    rw [m2]
    have hidx:wI ((t.sl.length:Int)-1)=(j:Int):=by rw [wI_ (by omega) (by omega)]; omega
    refine ⟨λ e=>absurd e (by decide),λ _=>?_⟩
    obtain ⟨x',ex,d0,d1,d2,d3⟩:=je5 hA2.sl hj'
    cases ex
    rw [hidx]
    simp only [wps,d0,d1,d2,d3,Int.toNat_natCast]
    refine ⟨g,λ e=>?_⟩
    simp [eqL] at e
   ·rfl
  have hk2:WP (jtd b0 b last times step S1.length (0,[])) S2 λ a S'=>a=(0,[vI t.sl[j].1,vI (tt+1),vI t.sl[j].2])/\S'=S2:=by
   unfold jtd
   simp only [wps,j6u z,gcz,gcs]
   have rr:(step < t.sl[j].2->WP (jtc b0 b S1.length (0,[vI 0])) S2 λ a S'=>a=(0,[vI t.sl[j].1,vI (tt+1),vI t.sl[j].2])/\S'=S2)/\(¬ step < t.sl[j].2->WP (jtc b0 b S1.length (0,[vI times])) S2 λ a S'=>a=(0,[vI t.sl[j].1,vI (tt+1),vI t.sl[j].2])/\S'=S2):=by
    refine ⟨λ h=>?_,λ h=>?_⟩
    ·rw [if_pos h] at htt;rw [htt]; exact hk1
    ·rw [if_neg h] at htt;rw [htt]; exact hk1
   rw [wI_ (n:=last+1) (by omega) (by omega)]
   exact ⟨λ e=>⟨λ e2=>⟨λ e3=>absurd (g6 e e3) e2,λ _=>rr⟩,λ _=>rr⟩,λ _=>rr⟩
  refine hk2.mono ?_
  rintro _ S3 ⟨rfl,rfl⟩
  simp only [wps]
  exact ⟨t.sl.length-(j+1),by omega,j+1,t.sl[j].1,tt+1,t.sl[j].2,rfl,rfl,by omega,k2,hS1⟩
 ·have hjl:j=t.sl.length:=by omega
  subst hjl
  rw [List.take_length] at hS
  obtain ⟨_,rfl,_⟩:=hS.det hF
  have y0:=z1w k1 h0
  have y2:=z1w k1 h2
  simp only [wps,j6u y0,j6u y2,gcz,gcs]
  rw [wI_ (n:=q.retry+1) (by omega) (by omega)]
  have fin:=(j6d (R:=q.retry) y2 (hA.mono k1) hs hB hn).mono (Q':=λ r S'=>S <+: S'/\r=(0,[vB true])) λ r S' ⟨k,e⟩=>⟨k1.trans k,e⟩
  exact ⟨λ e=>⟨λ e2=>absurd (hnok e) e2,λ _=>fin⟩,λ _=>fin⟩
set_option maxHeartbeats 4000000 in
set_option maxRecDepth 20000 in
theorem j6f {S:St} {q:Req} {a1 a4 a5 la:Option Addr} {c1 c4 c5 ln lc:Nat} {it tr:Int} {l:List Ev} (h:QA S q a1 a4 a5) (hc4:q.X.length<=c4) (hX:∀ x∈q.X,0<=x)
 (hl:Ar S la ln 6 Ev.cells l) (hlk:∀ x∈l,Go.Proofs.YtpecnaacgkgjmaaGreatDoor.u64r x.ma) (hlt:∀ x∈l,x.ti<=9223372036854775807) :
 Sp (jiw [qv q a1 c1 a4 c4 a5 c5,vI it,vI tr,.slice la ln lc]) S λ v _=>v=vB true:=by
 unfold Sp
 have hln0:=hl.1
 rw [jix]
 have hp:=List.prefix_append S [j00.cells (qc q a1 c1 a4 c4 a5 c5) 62 none]
 have z:=jek (S:=S) (o:=j00.cells (qc q a1 c1 a4 c4 a5 c5) 62 none)
 simp only [wps]
 generalize S++[j00.cells (qc q a1 c1 a4 c4 a5 c5) 62 none]=Y at hp z ⊢
 refine jvg.use ?_
 rintro _ S1 k1 rfl
 have z1:=z1w k1 z
 have p1:=hp.trans k1
 simp only [wps,j6u z1,gcz,gcs]
 refine (jby (c1:=c1) (c4:=c4) (c5:=c5) (c:=lc) (p:=la) (n:=ln) (m:=12) (h.mono p1) (by omega)).use ?_
 rintro _ S2 k2 rfl
 have z2:=z1w k2 z1
 have p2:=p1.trans k2
 simp only [wps,j6u z2,gcz,gcs]
 refine ⟨λ _=>p2,λ hf=>?_⟩
 have hln:ln<=40:=by
  rw [Bool.and_eq_true] at hf;exact of_decide_eq_true hf.2
 refine (zdp (c1:=c1) (c4:=c4) (c5:=c5) (it:=it) (tr:=tr) (lc:=lc) (h.mono p2) hc4 hX (hl.mono p2) (.inl (by omega)) hlk hlt).mono ?_
 rintro _ S5 ⟨k5,ya,fa,sa,rfl,hA5,hs5⟩
 have p5:=p2.trans k5
 have hp6:=List.prefix_append S5 [j00.cells (trC (zdr q it tr l) ya fa sa) 70 none]
 have w6:=jek (S:=S5) (o:=j00.cells (trC (zdr q it tr l) ya fa sa) 70 none)
 have z6:=z1w (k5.trans hp6) z2
 have hA6:=hA5.mono hp6
 have p6:=p5.trans hp6
 simp only [wps,j6u z6,gcz,gcs]
 generalize S5++[j00.cells (trC (zdr q it tr l) ya fa sa) 70 none]=S6 at hp6 w6 z6 hA6 p6 ⊢
 refine (zfk (c1:=c1) (c4:=c4) (c5:=c5) (h.mono p6)).use ?_
 rintro _ S7 k7 rfl
 have z7:=z1w k7 z6
 have w7:=z1w k7 w6
 have p7:=p6.trans k7
 have hA7:=hA6.mono k7
 simp only [wps,j6u w7,gcz,gcs]
 refine ⟨λ e=>?_,λ e=>?_⟩
 ·have : zdr q it tr l=⟨false,[],[],[],0⟩:=by unfold zdr;rw [<- hln0,if_neg e]
  rw [this]
  exact ⟨λ _=>⟨p7,rfl⟩,λ e=>by cases e⟩
 ·obtain ⟨hB,hw2,hc⟩:=zdv (l:=l) (by rw [<- hln0]; exact e)
  obtain ⟨q1,q2,_⟩:=j7d hc
  obtain ⟨f1,f2,f3,f4⟩:=j83 q2
  have hwn:(zfj q).1<=1000000000:=by
   unfold zfj;rw [if_pos hc]
   obtain ⟨m1,m2⟩:=jxl (a:=q.retry+1) (A:=9) (b:=((zau q.inv 0 q.axes).length:Int)+1) (B:=16393) (by omega) (by omega) (by omega) (by omega)
   dsimp only;omega
  have htk:=hB.tk
  have hyo:((zdr q it tr l).ok == decide (0 < ((zdr q it tr l).Y.length:Int)))=true:=by
   cases ho:(zdr q it tr l).ok with
   | true=>have:=hB.y1 ho;rw [decide_eq_true (by omega)]; rfl
   | false=>rw [hB.y0 ho]; rfl
  refine ⟨λ e2=>absurd hw2 e2,λ _=>⟨λ e3=>absurd (hyo.symm.trans e3) (by decide),λ _=>⟨λ e4=>absurd e4 (by omega),λ _=>?_⟩⟩⟩
  refine (j6e z7 w7 hA7 hs5 hB hwn ⟨q1.2.2.1,q1.2.2.2.1⟩).mono ?_
  rintro _ S8 ⟨k8,rfl⟩
  simp only [wps]
  exact p7.trans k8
end Go.AM
