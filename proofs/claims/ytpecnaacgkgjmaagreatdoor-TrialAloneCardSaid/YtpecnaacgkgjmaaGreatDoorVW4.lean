/-
  Part of the proof of a law: what the functions compute. Conditions: none.
-/
import Derived.Test.YtpecnaacgkgjmaaGreatDoorVW3
set_option linter.unusedVariables false
set_option linter.unusedSectionVars false
set_option linter.unusedSimpArgs false
set_option linter.deprecated false
namespace Go.AM
open Go Go.Proofs.YtpecnaacgkgjmaaGreatDoor
theorem all_mem_w {S:St} {b:Nat} {m:Mm} {T:List Nat} (h:MS S b m T) (ht:0<=m.t/\m.t < 4611686018427387904) (hah:0<=m.ah/\m.ah < 4611686018427387904):Gv (gq3b [.pointer (some ⟨b,0,none⟩)]) S (vI (m.ah+m.t)):=by
 obtain ⟨bw,ba,aq,q,g,e1,e2,_⟩:=h.ex
 refine .of ?_
 rw [gq3b_eq]
 simp only [wps,cell_blk e1,gcz,gcs,Option.isNone_some]
 rw [wI_ (by omega) (by omega)]
abbrev trC (t:Tr) (ya fa sa:Option Addr):List Value:=[vB t.ok,.slice ya t.Y.length t.Y.length,.slice fa t.fx.length t.fx.length,.slice sa t.sl.length t.sl.length,vI t.ticks]
structure TrA (S:St) (it tr:Int) (t:Tr) (ya fa sa:Option Addr):Prop where
 y:Ar S ya t.Y.length 1 eU t.Y
 fx:Ar S fa t.fx.length 6 (eRec it tr) t.fx
 sl:Ar S sa t.sl.length 4 (eSlp it tr) t.sl
 ne:∀ x∈t.fx,x.2.bad≠x.2.good
theorem TrA.mono {S S':St} {it tr:Int} {t:Tr} {ya fa sa:Option Addr} (h:TrA S it tr t ya fa sa) (k:S <+: S'):TrA S' it tr t ya fa sa:=⟨h.y.mono k,h.fx.mono k,h.sl.mono k,h.ne⟩
structure TrS (t:Tr):Prop where
 y:t.Y.length<=4096
 fx:t.fx.length<=1000000
 sl:t.sl.length<=1000000
 tk:0<=t.ticks/\t.ticks<=100000000000
theorem TrA.nil {S:St} {it tr:Int}:TrA S it tr ⟨false,[],[],[],0⟩ none none none:=⟨.nil,.nil,.nil,λ x hx=>by cases hx⟩
set_option maxHeartbeats 4000000 in
set_option maxRecDepth 20000 in
theorem trun_w {S:St} {q:Req} {a1 a4 a5 la:Option Addr} {c1 c4 c5 ln lc:Nat} {it tr:Int} {l:List Ev} (h:QA S q a1 a4 a5) (hc4:q.X.length<=c4) (hX:∀ x∈q.X,0<=x)
 (hl:Ar S la ln 6 Ev.cells l) (hln:ln<=900\/1024 < ln) (hlk:∀ x∈l,Go.Proofs.YtpecnaacgkgjmaaGreatDoor.u64r x.ma) (hlt:∀ x∈l,x.ti<=9223372036854775807) :
 WP (gq54 [qv q a1 c1 a4 c4 a5 c5,vI it,vI tr,.slice la ln lc]) S λ v S'=>S <+: S'/\∃ ya fa sa,v=vT [vA (trC (tryR q it tr l) ya fa sa),vI (tryE q it tr ln)]/\TrA S' it tr (tryR q it tr l) ya fa sa/\TrS (tryR q it tr l):=by
 have hln0:=hl.1
 rw [gq54_eq]
 have hp:S <+: S++[AObj.cells (qc q a1 c1 a4 c4 a5 c5) 62 none,AObj.cells [vB false,.slice none 0 0,.slice none 0 0,.slice none 0 0,vI 0] 70 none]:=List.prefix_append _ _
 have z:(S++[AObj.cells (qc q a1 c1 a4 c4 a5 c5) 62 none,AObj.cells [vB false,.slice none 0 0,.slice none 0 0,.slice none 0 0,vI 0] 70 none])[S.length]? = some (AObj.cells (qc q a1 c1 a4 c4 a5 c5) 62 none):=gA0
 have y:(S++[AObj.cells (qc q a1 c1 a4 c4 a5 c5) 62 none,AObj.cells [vB false,.slice none 0 0,.slice none 0 0,.slice none 0 0,vI 0] 70 none])[S.length+1]? = some (AObj.cells [vB false,.slice none 0 0,.slice none 0 0,.slice none 0 0,vI 0] 70 none):=gA1
 simp only [wps,List.append_assoc,List.cons_append,List.nil_append,List.length_append,List.length_cons,List.length_nil,Nat.zero_add,Nat.reduceAdd,cell_blk z,cell_blk y,gcz,gcs]
 generalize S++[AObj.cells (qc q a1 c1 a4 c4 a5 c5) 62 none,AObj.cells [vB false,.slice none 0 0,.slice none 0 0,.slice none 0 0,vI 0] 70 none]=Y at hp z y ⊢
 refine (check_w (c1:=c1) (c4:=c4) (c5:=c5) (h.mono hp)).use ?_
 rintro _ S1 k1 rfl
 have z1:=pre_get k1 z
 have y1:=pre_get k1 y
 have p1:=hp.trans k1
 have y1l:=pre_lt y1
 have bad:∀ e:Int,tryE q it tr ln=e->e≠0->∀ S',S <+: S'->(S <+: S'/\∃ ya fa sa,vT [vA [vB false,.slice none 0 0,.slice none 0 0,.slice none 0 0,vI 0],vI e]=vT [vA (trC (tryR q it tr l) ya fa sa),vI (tryE q it tr ln)]/\TrA S' it tr (tryR q it tr l) ya fa sa/\TrS (tryR q it tr l)):=by
  intro e he hne S' hS
  have : tryR q it tr l=⟨false,[],[],[],0⟩:=by unfold tryR;rw [<- hln0,if_neg (by rw [he]; exact hne)]
  rw [this,he]
  exact ⟨hS,none,none,none,rfl,TrA.nil,⟨by simp,by simp,by simp,by simp⟩⟩
 have setp:∀ (S':St) (o:AObj),S <+: S'->S.length+1 < S'.length->S <+: S'.set (S.length+1) o:=λ S' o k hl=>pre_set' k (by omega)
 simp only [wps,y1,cell_blk z1,gcz,gcs,List.drop_succ_cons,List.drop_zero,List.drop_nil]
 have kbad:∀ (a:Sl) (S':St),S'[S.length+1]? = some (AObj.cells [vB false,.slice none 0 0,.slice none 0 0,.slice none 0 0,vI 0] 70 none)->S <+: S'->tryE q it tr ln=1 ->
  WP (kq69 it tr la ln lc S.length (S.length+1) a (1,[vI 1])) (S'.set (S.length+1) (AObj.cells [vB false,.slice none 0 0,.slice none 0 0,.slice none 0 0,vI 0] 70 none)) λ a S'=>WP (oneV a) S' λ v S'=>S <+: S'/\∃ ya fa sa,v=vT [vA (trC (tryR q it tr l) ya fa sa),vI (tryE q it tr ln)]/\TrA S' it tr (tryR q it tr l) ya fa sa/\TrS (tryR q it tr l):=by
  intro a S' hy hS he
  have hl':=pre_lt hy
  unfold kq69
  simp only [wps,cell_blk (List.getElem?_set_self hl'),gcz,gcs]
  exact bad 1 he (by decide) _ (setp S' _ hS hl')
 refine ⟨λ e=>?_,λ e=>?_⟩
 ·simp only [wps,cell_blk (List.getElem?_set_self y1l),gcz,gcs]
  exact bad _ (by unfold tryE;rw [if_pos e]) e _ (setp S1 _ p1 y1l)
 refine (item_w (c1:=c1) (c4:=c4) (c5:=c5) (h.mono p1) hc4 it).use ?_
 rintro _ S2 k2 ⟨xa,xc,rfl,hx⟩
 have p2:=p1.trans k2
 have z2:=pre_get k2 z1
 have y2:=pre_get k2 y1
 have hE:tryE q it tr ln=if 0<=it/\it < q.batch/\0<=tr/\tr<=q.again/\ln<=1024 then 0 else 1:=by unfold tryE;rw [if_neg (λ n=>n e)]
 have hI:itemE q it=if 0<=it/\it<=q.batch-1 then (itemV q it,0) else ([],1):=by unfold itemE;rw [if_neg (λ n=>n e)]
 simp only [wps,y2,cell_blk z2,gcz,gcs,List.drop_succ_cons,List.drop_zero,List.drop_nil,schk_w.wp]
 obtain ⟨q1,q2,q3,q4,q5⟩:=check_ok e
 by_cases hit:0<=it/\it<=q.batch-1
 rotate_left
 ·rw [if_neg hit] at hI
  rw [hI] at hx ⊢
  have he:tryE q it tr ln=1:=by rw [hE,if_neg (by omega)]
  exact ⟨λ _=>kbad _ S2 y2 p2 he,λ e=>absurd e (by decide)⟩
 rw [if_pos hit] at hI
 rw [hI] at hx ⊢
 refine ⟨λ e=>absurd rfl e,λ _=>⟨λ e3=>kbad _ S2 y2 p2 (by rw [hE,if_neg (by omega)]),λ e3=>⟨λ e4=>kbad _ S2 y2 p2 (by rw [hE,if_neg (by omega)]),λ e4=>⟨λ e5=>kbad _ S2 y2 p2 (by rw [hE,if_neg (λ h=>e5 (by rw [if_neg (by omega)]))]),λ e5=>?_⟩⟩⟩⟩
 have hl1024:ln<=1024:=by
  refine Decidable.byContradiction λ hn=>?_
  rw [if_pos (by omega)] at e5;exact absurd e5 (by decide)
 have hln9:ln<=900:=by omega
 have he0:tryE q it tr ln=0:=by rw [hE,if_pos ⟨hit.1,by omega,by omega,by omega,hl1024⟩]
 have hTR:tryR q it tr l=⟨(tryT q it tr l).1,(tryT q it tr l).2.Y,(tryT q it tr l).2.fx,(tryT q it tr l).2.sl,(tryT q it tr l).2.m.ah+(tryT q it tr l).2.m.t⟩:=by unfold tryR;rw [<- hln0,if_pos he0]
 obtain ⟨f1,f2,f3,f4⟩:=cost_facts q2
 obtain ⟨hk,hal,hall⟩:=grid_ok q2
 obtain ⟨hst,hsl⟩:=steps_zero (λ a ha=>(hall a ha).1) q.inv
 have hn:=nV_range q2
 have hmk:=mkGo_range (p:=q.P) (l:=q.axes) q.inv q2 (stepsGo q.inv 0 q.axes) 0 hst (by omega) (by omega)
 have hmg:=mk_ge (p:=q.P) (l:=q.axes) (inv:=q.inv) (stepsGo q.inv 0 q.axes) 0
 have hM:makeV q.P q.axes q.inv=(⟨nV q.axes,mkGo q.P q.axes q.inv 0 (stepsGo q.inv 0 q.axes),2*(nV q.axes+6)+mkGo q.P q.axes q.inv 0 (stepsGo q.inv 0 q.axes),stepsGo q.inv 0 q.axes⟩,0):=by unfold makeV;rw [if_pos q2]
 have hT0:tryT q it tr l=allT (tpOf q) (ofS l it tr) (stepsGo q.inv 0 q.axes) 0 0 (nV q.axes+6) ⟨m0T q.P (2*(nV q.axes+6)+mkGo q.P q.axes q.inv 0 (stepsGo q.inv 0 q.axes)) (itemV q it) (ofS l it tr 0),0,[],[],[]⟩:=by unfold tryT;rw [hM]
 obtain ⟨il,il2⟩:=itemV_len e (i:=it) ⟨hit.1,by omega⟩
 have hinP:∀ y∈itemV q it,inP q.P y:=λ y hy=>by
  have hm:y∈q.X:=List.mem_of_mem_drop (List.mem_of_mem_take hy)
  refine ⟨hX y hm,?_⟩
  unfold inV at q4
  rw [Bool.and_eq_true] at q4
  simpa using List.all_eq_true.1 q4.1 y hm
 have hkp:=known_pos hk
 unfold kq69
 simp only [wps,cell_blk z2,gcz,gcs]
 refine (make_w (c:=c1) (h.ax.mono p2) h.b1 q.inv).use ?_
 rintro _ S3 k3 ⟨ta,rfl,hG⟩
 have p3:=p2.trans k3
 have z3:=pre_get k3 z2
 have y3:=pre_get k3 y2
 rw [hM] at hG ⊢
 generalize hmm:mkGo q.P q.axes q.inv 0 (stepsGo q.inv 0 q.axes)=mm at hmk hmg hT0 hG ⊢
 generalize hGG:stepsGo q.inv 0 q.axes=G at hst hsl hmg hT0 hG f3 ⊢
 dsimp only at hG ⊢
 have hp4:=List.prefix_append S3 [AObj.cells [vI (nV q.axes),vI mm,vI (2*(nV q.axes+6)+mm),.slice ta G.length G.length] 90 none]
 have w4:=get_new (S:=S3) (o:=AObj.cells [vI (nV q.axes),vI mm,vI (2*(nV q.axes+6)+mm),.slice ta G.length G.length] 90 none)
 simp only [wps]
 generalize S3++[AObj.cells [vI (nV q.axes),vI mm,vI (2*(nV q.axes+6)+mm),.slice ta G.length G.length] 90 none]=S4 at hp4 w4 ⊢
 have p4:=p3.trans hp4
 have z4:=pre_get hp4 z3
 have y4:=pre_get hp4 y3
 simp only [wps,cell_blk z4,List.getElem?_cons_zero]
 refine (codePut_w (c:=xc) hk (hx.mono (k3.trans hp4)) (by dsimp only;omega) (by dsimp only;omega) hinP).mono ?_
 rintro _ S5 ⟨cb,rfl,nw⟩
 have p5:=p4.trans nw.p
 have z5:=pre_get nw.p z4
 have y5:=pre_get nw.p y4
 have w5:=pre_get nw.p w4
 have hcl:(itemV q it++sixL (sumsV q.P (itemV q it))).length=(itemV q it).length+6:=by rw [List.length_append]; rfl
 have hca:=nw.ar
 have hs6:=sums_in hk (itemV q it)
 simp only [wps,cell_blk w5,gcz,gcs]
 rw [<- hcl]
 refine (tbegin_w (cc:=(itemV q it++sixL (sumsV q.P (itemV q it))).length) (it:=it) (tr:=tr) (words:=2*(nV q.axes+6)+mm) (hl.mono p5) hln9 hlk hlt hca (λ y hy=>?_) ⟨by omega,by omega⟩ (by rw [hcl]; omega)).mono ?_
 ·rcases List.mem_append.1 hy with hy | hy
  ·have:=hinP y hy;exact ⟨this.1,by have:=this.2;omega⟩
  ·have h1:=hs6.1;have h2:=hs6.2
   unfold sixL at hy
   simp only [List.mem_cons,List.not_mem_nil,or_false] at hy
   rcases hy with rfl | rfl | rfl | rfl | rfl | rfl
   all_goals first | exact ⟨h1.1,by have:=h1.2;omega⟩ | exact ⟨h2.1,by have:=h2.2;omega⟩
 rintro _ S6 ⟨rb,b,T,rfl,k6,hrb,hTb,hrs⟩
 have p6:=p5.trans k6
 have z6:=pre_get k6 z5
 have y6:=pre_get k6 y5
 have w6:=pre_get k6 w5
 have low6:∀ j,j < S5.length->j∉fpR rb T none none:=λ j hj hm=>by
  rcases List.mem_cons.1 hm with rfl | hm
  ·omega
  ·rcases List.mem_append.1 hm with hm | hm
   ·have:=hTb _ hm;omega
   ·cases hm
 have hl5:=p5.length_le
 have sl:∀ {β:Type} {e:β->List Value} {m:List β} {pp:Option Addr} {n w:Nat},Ar S5 pp n w e m->(∀ x,∃ v,(e x)[0]? = some v)->m≠[]->∀ y,pp=some y->y.block∉fpR rb T none none:=λ ha hf hne y hy=>low6 _ (ha.low hf hne y hy)
 simp only [wps,cell_blk z6,cell_blk w6,gcz,gcs]
 have hlt0:(layV ⟨List.replicate (2*(nV q.axes+6)+mm).toNat 0,ofS l it tr 0,0,0⟩ (itemV q it++sixL (sumsV q.P (itemV q it))) 0).2=m0T q.P (2*(nV q.axes+6)+mm) (itemV q it) (ofS l it tr 0):=rfl
 have hla:=lay_t (m:=⟨List.replicate (2*(nV q.axes+6)+mm).toNat 0,ofS l it tr 0,0,0⟩) (l:=itemV q it++sixL (sumsV q.P (itemV q it))) (a:=0) (has_of (w:=(2*(nV q.axes+6)+mm).toNat) (by simp) ⟨by omega,by omega,by omega⟩)
 have hlah:=lay_ah ⟨List.replicate (2*(nV q.axes+6)+mm).toNat 0,ofS l it tr 0,0,0⟩ (itemV q it++sixL (sumsV q.P (itemV q it))) 0
 rw [hlt0] at hrs hla hlah
 have hla3:=hla.2.2
 have hla2:=hla.2.1
 dsimp only at hla3 hlah
 rw [List.length_replicate] at hla2
 refine (alls_w (w:=(2*(nV q.axes+6)+mm).toNat) (tc:=G.length) (c1:=c1) (c4:=c4) (c5:=c5) (a4:=a4) (a5:=a5) (TT:=mm) (W:=2*(nV q.axes+6)+mm) hrs (hl.mono p6) (sl (hl.mono p5) (λ x=>⟨_,rfl⟩)) hln9 hlk hlt (h.ax.mono p6) (λ y e hne=>sl (h.ax.mono p5) (λ x=>⟨_,rfl⟩) hne y e) h.b1 (hG.mono ((hp4.trans nw.p).trans k6)) (sl (hG.mono (hp4.trans nw.p)) (λ x=>⟨_,rfl⟩))
  (λ st hs=>⟨stepV_ok _ _ _ q2 (hst st hs),by have:=hmg.2 st hs;omega⟩) hk hn (by omega) ⟨by omega,by omega⟩ rfl ⟨⟨by dsimp only;omega,by dsimp only;omega⟩,⟨by dsimp only;omega,by dsimp only;omega⟩,Int.le_refl _,by simp,by simp,Nat.zero_le _⟩ hla2 (by dsimp only;omega)).mono ?_
 rintro _ S7 ⟨rfl,T7,ya,fa,sa,ke,hB,hw7,hwin7⟩
 rw [<- hT0] at ke hB hw7 hwin7
 rw [hTR,he0]
 generalize tryT q it tr l=V at ke hB hw7 hwin7 ⊢
 obtain ⟨bt1,bt2⟩:=hB.t
 obtain ⟨ba1,ba2⟩:=hB.ah
 have hl6:=k6.length_le
 have y5l:=pre_lt y5
 have z5l:=pre_lt z5
 have ny1:S.length+1∉fpR rb T none none:=low6 _ y5l
 have y7:=ke.mo.get y6 ny1
 have hny:S.length+1∉fpR rb T7 fa sa:=ke.mo.out ny1 (by omega)
 have hyb:V.2.Y≠[]->∀ y,ya=some y->y.block≠S.length+1:=by
  intro hne y e hb
  obtain ⟨bb,o,e2⟩:=ke.y.spot (λ _=>rfl) (by decide) hne
  rw [e2] at e;cases e
  dsimp only at hb
  subst hb
  obtain ⟨a,g1,g2⟩:=ke.y.2 0 (List.length_pos_iff.2 hne)
  rw [e2] at g1;cases g1
  have g3:=g2 0 _ rfl
  simp only [add_off,Nat.zero_mul,Nat.add_zero] at g3
  rw [cell_blk y7] at g3
  match o,g3 with
  | 0,g3=>cases g3
  | 1,g3=>cases g3
  | 2,g3=>cases g3
  | 3,g3=>cases g3
  | 4,g3=>cases g3
  | n+5,g3=>cases g3
 have hr7:=ke.r
 have r7l:=pre_lt hr7
 have y7l:=pre_lt y7
 have hne:rb≠S.length+1:=by omega
 have hS7:S <+: S7:=ke.mo.low p6 λ i hi=>by
  rcases List.mem_cons.1 hi with rfl | hi
  ·omega
  ·rcases List.mem_append.1 hi with hi | hi
   ·have:=hTb _ hi;omega
   ·cases hi
 simp only [wps,cell_blk hr7,rC_5,(all_mem_w ke.ms ⟨bt1,by omega⟩ ⟨ba1,by omega⟩).wp,hr7,rC_len,rC_s4,Nat.reduceAdd,Nat.reduceLeDiff]
 have w7:(S7.set rb (AObj.cells (rC V.1 ya V.2.Y.length fa V.2.fx.length sa V.2.sl.length (V.2.m.ah+V.2.m.t) b la ln lc it tr V.2.win) 172 none))[rb]? = _:=List.getElem?_set_self r7l
 have v7:(S7.set rb (AObj.cells (rC V.1 ya V.2.Y.length fa V.2.fx.length sa V.2.sl.length (V.2.m.ah+V.2.m.t) b la ln lc it tr V.2.win) 172 none))[S.length+1]? = _:=(List.getElem?_set_ne hne).trans y7
 have x7:=λ o:AObj=>List.getElem?_set_self (l:=S7.set rb (AObj.cells (rC V.1 ya V.2.Y.length fa V.2.fx.length sa V.2.sl.length (V.2.m.ah+V.2.m.t) b la ln lc it tr V.2.win) 172 none)) (i:=S.length+1) (a:=o) (by rw [List.length_set]; exact y7l)
 simp only [wps,cell_blk w7,rC_0,rC_1,rC_2,rC_3,rC_4,v7,List.drop_succ_cons,List.drop_zero,List.drop_nil,cell_blk (x7 _),gcz,gcs]
 have kp:∀ (o o':AObj) (j:Nat),j≠rb->j≠S.length+1->((S7.set rb o).set (S.length+1) o')[j]? = S7[j]?:=λ o o' j h1 h2=>by rw [List.getElem?_set_ne (Ne.symm h2),List.getElem?_set_ne (Ne.symm h1)]
 have oF:∀ (o o':AObj),Own 0 ((S7.set rb o).set (S.length+1) o') fa 80 6 (V.2.fx.flatMap (eRec it tr)):=λ o o'=>ke.fx.keep λ i e=>by
  have hi:=mem_blk.2 ⟨_,e,rfl⟩
  refine kp o o' i (ke.nf i hi).2 λ e2=>hny ?_
  rw [<- e2]; exact List.mem_cons_of_mem _ (List.mem_append_right _ (List.mem_append_left _ hi))
 have oS:∀ (o o':AObj),Own 0 ((S7.set rb o).set (S.length+1) o') sa 76 4 (V.2.sl.flatMap (eSlp it tr)):=λ o o'=>ke.sl.keep λ i e=>by
  have hi:=mem_blk.2 ⟨_,e,rfl⟩
  refine kp o o' i (ke.ns i hi).2.1 λ e2=>hny ?_
  rw [<- e2]; exact List.mem_cons_of_mem _ (List.mem_append_right _ (List.mem_append_right _ hi))
 refine ⟨pre_set' (pre_set' hS7 (by omega)) (by omega),ya,fa,sa,rfl,⟨?_,(oF _ _).ar (λ _=>rfl) (by decide),(oS _ _).ar (λ _=>rfl) (by decide),ke.ne⟩,⟨hB.yl,by have:=hB.fx;dsimp only;omega,by have:=hB.sl;dsimp only;omega,by dsimp only;omega⟩⟩
 by_cases hY:V.2.Y=[]
 ·show Ar _ ya V.2.Y.length 1 eU V.2.Y
  rw [hY]; exact ⟨rfl,λ i hi=>absurd hi (by simp)⟩
 ·exact ke.y.keepL λ y e=>kp _ _ _ (λ e2=>ke.ny hY y e (by rw [e2]; exact List.mem_cons_self)) (hyb hY y e)
theorem pstep_ok {p:Int} {inv tw:Bool} {src dst tab:Int}:∀ (gs:List GrN) (st:Mm×List Int),st.1.ok->(gs.foldl (passStep p inv tw src dst tab) st).1.ok
 | [], st, h => h
 | g :: gs, st, h => by
   rw [List.foldl_cons]
   refine pstep_ok gs _ ?_
   unfold passStep
   dsimp only
   refine Mm.ok.wrs _ (Mm.ok.rds _ (Mm.ok.rds _ h).1).1 λ x hx=>?_
   have h2:=(List.of_mem_zip hx).2
   rw [List.mem_iff_getElem] at h2
   obtain ⟨i,hi,e⟩:=h2
   rw [List.getElem_zipWith] at e
   rw [<- e]
   have:=mulF_range p
   exact ⟨(this _ _).1,by have:=(this ((gyV p inv tw ((st.1.rds (offs src g.i)).1.map (red p)))[i]'(by simp at hi;omega)) (((st.1.rds (offs src g.i)).2.rds (offs tab g.f)).1[i]'(by simp at hi;omega))).2;omega⟩
theorem pass_ok {m:Mm} (h:m.ok) (p:Int) (l:List Ax) (inv:Bool) (s:Stp) (src dst tab:Int):(passV m p l inv s src dst tab).2.ok:=by
 have hf:=passV_facts (m:=m) (p:=p) (l:=l) (inv:=inv) (s:=s) (src:=src) (dst:=dst) (tab:=tab)
 unfold passV at hf ⊢
 split
 ·rename_i hs
  rw [if_pos hs] at hf
  split
  ·rename_i hc
   rw [if_pos hc] at hf
   dsimp only at hf ⊢
   rcases hf with hf | hf
   ·exact absurd rfl hf.1
   ·obtain ⟨_,_,_,i1,i2,_⟩:=hf
    have hk:=step_known hs
    refine Mm.ok.wrs _ (pstep_ok _ _ h) λ x hx=>?_
    have h2:=(List.of_mem_zip hx).2
    unfold sixL at h2
    simp only [List.mem_cons,List.not_mem_nil,or_false] at h2
    rcases h2 with e | e | e | e | e | e <;> rw [e] <;> first | exact u64_of hk i1 | exact u64_of hk i2
  ·exact h
 ·exact h
theorem scrub_ok {m:Mm} (h:m.ok) (p n a:Int):(scrubV m p n a).2.ok:=by
 unfold scrubV
 split
 ·exact h
 ·rename_i hk
  have hk:known p=true:=by simpa using hk
  split
  ·exact h
  ·dsimp only
   obtain ⟨r1,r2⟩:=Mm.ok.rds (rowO a (n.toNat+6)) h
   split
   ·exact r1
   ·rename_i hz
    refine Mm.ok.wrs _ r1 λ x hx=>?_
    obtain ⟨f,hf,rfl⟩:=List.mem_map.1 hx
    obtain ⟨g,hg,rfl⟩:=List.mem_map.1 hf
    have hz0:(fixV p (m.rds (rowO a (n.toNat+6))).1).2=0:=by
     refine Decidable.byContradiction λ hn=>hz hn
    obtain ⟨x,_,g1,g2,g3,g4,g5,g6,g7,g8⟩:=fix_sound (p:=p) (c:=(m.rds (rowO a (n.toNat+6))).1) (λ y hy=>(r2 y hy).1) (good:=(fixV p (m.rds (rowO a (n.toNat+6))).1).1.1) (fx:=(fixV p (m.rds (rowO a (n.toNat+6))).1).1.2) (Prod.ext rfl hz0)
    exact u64_of hk (g7 g hg).2.2
theorem lay_ok {m:Mm} (h:m.ok) {l:List Int} (hl:∀ y∈l,Go.Proofs.YtpecnaacgkgjmaaGreatDoor.u64r y) (a:Int):(layV m l a).2.ok:=by
 unfold layV
 split
 ·exact Mm.ok.wrs _ h λ x hx=>hl _ (List.of_mem_zip hx).2
 ·exact h
theorem sound_ok {m:Mm} (h:m.ok) (p n a:Int) (s:Int×Int):(soundV m p n a s).2.ok:=by
 unfold soundV
 split
 ·exact h
 ·split
  ·exact h
  ·exact (Mm.ok.rds _ h).1
theorem holds_ok {m:Mm} (h:m.ok) (l:List Int) (a:Int):(holdsV m l a).2.ok:=by
 unfold holdsV
 split
 ·exact (Mm.ok.rds _ h).1
 ·exact h
theorem turn_ok {m:Mm} (h:m.ok) (p:Int) (l:List Ax) (inv:Bool) (s:Stp) (src dst tab:Int):(turnV m p l inv s src dst tab).2.ok:=by
 unfold turnV
 split
 ·exact h
 ·rename_i hs
  have hk:=step_known (Decidable.byContradiction λ hn=>hs hn)
  split
  ·dsimp only
   split
   ·exact scrub_ok h _ _ _
   ·exact sound_ok (holds_ok (sound_ok (pass_ok (lay_ok (scrub_ok h _ _ _) (λ y hy=>u64_of hk (tab_in hk y hy)) _) _ _ _ _ _ _ _) _ _ _ _) _ _) _ _ _ _
  ·exact h
theorem out_quiet {m:Mm} (hL:m.L=[]) (hm:m.ok) {p:Int} {d n:Nat} {x:List Int} (hk:known p=true) (hn:1<=n/\n<=4096) (hl:d+n+6<=m.W.length) (hc:(m.W.drop d).take (n+6)=x++sx (sumsV p x)) (hxi:∀ y∈x,inP p y) (hxl:x.length=n) :
 (outV m p n d).1=((x,(true,[])),0):=by
 have hf:=fix_ok hk hxi (by omega)
 rw [<- hc] at hf
 obtain ⟨s1,s2,s3,s4,s5⟩:=scrub_nil hL hk hn hl (λ y hy=>(hm.w y hy).1) hf
 have hx3:(x++sx (sumsV p x)).getD n 0=(sumsV p x).1/\(x++sx (sumsV p x)).getD (n+3) 0=(sumsV p x).2:=by
  rw [List.getD_eq_getElem?_getD,List.getD_eq_getElem?_getD,List.getElem?_append_right (by omega),List.getElem?_append_right (by omega),show n-x.length=0 by omega,show n+3-x.length=3 by omega]
  exact ⟨rfl,rfl⟩
 rw [hc,hx3.1,hx3.2] at s1
 unfold outV
 dsimp only
 rw [s1]
 dsimp only
 rw [if_neg (by decide),if_neg (by decide),Int.toNat_natCast,row_nil s2 (by omega)]
 have hw:((scrubV m p n d).2.W.drop d).take n=x:=by
  have:=congrArg (List.take n) s4
  rw [List.take_take,Nat.min_eq_left (by omega),hc,List.take_left' hxl] at this
  exact this
 dsimp only
 rw [hw,if_pos (by
  unfold agreesV
  rw [hk,decide_eq_true rfl,decide_eq_true (show x.length<=4096 by omega),decide_eq_true (λ y hy=>(hxi y hy).2)]; rfl)]
 rfl
def doV (c:TP) (x:List Int) (st:Stp):List Int:=doG c.p c.inv st.tw (nV c.ax).toNat (grpsV c.ax st) (tabV c.p c.ax c.inv st) x
structure QT (c:TP) (w src:Nat) (x:List Int) (s:Ts):Prop where
 L:s.m.L=[]
 ok:s.m.ok
 len:s.m.W.length=w
 win:(s.m.W.drop src).take ((nV c.ax).toNat+6)=x++sx (sumsV c.p x)
 xi:∀ y∈x,inP c.p y
 xl:x.length=(nV c.ax).toNat
theorem nxt_nil (m:Mm) (hL:m.L=[]):m.nxt []=⟨m.W,[],0,m.ah+m.t⟩:=by unfold Mm.nxt;rw [hL]; rfl
structure PQ (c:TP) (w:Nat) (st:Stp) (src dst:Nat):Prop where
 s0:stepV c.p c.ax st=0
 s1:src+(nV c.ax).toNat+6<=w
 d1:dst+(nV c.ax).toNat+6<=w
 dj:dst+(nV c.ax).toNat+6<=src\/src+(nV c.ax).toNat+6<=dst
 s2:src+(nV c.ax).toNat+6<=2*((nV c.ax).toNat+6)
 d2:dst+(nV c.ax).toNat+6<=2*((nV c.ax).toNat+6)
 tb:2*((nV c.ax).toNat+6)+(tabV c.p c.ax c.inv st).length<=w
theorem quiet_do {c:TP} {w src dst:Nat} {st:Stp} {x:List Int} {s:Ts} (h:QT c w src x s) (hp:PQ c w st src dst) {of:Int->List Ev} (hof:∀ w,of w=[]) {i:Int} {k:Nat} :
 ∃ s1,wellT (doF c st src dst) of i (k+1) s=(true,s1)/\QT c w dst (doV c x st) s1/\s1.Y=[]/\s1.fx=s.fx/\s1.sl=s.sl/\s1.m.ah+s1.m.t=s.m.ah+s.m.t+costS c st:=by
 obtain ⟨kk,dd,inner,nn,mm,hS⟩:=step_shape hp.s0
 have hnn:=hS.nn
 have hnt:(nV c.ax).toNat=nn:=by omega
 obtain ⟨p0,p1,p2,p3,p4,p5,p6⟩:=hp
 obtain ⟨q1,q2,q3,q4,q5,q6⟩:=h
 rw [hnt] at p1 p2 p3 p4 p5 p6 q4 q6
 have hk:=step_known p0
 have hn1:=hS.n1
 have hf:=fix_ok hk q5 (by omega)
 rw [<- q4] at hf
 have hm:=nxt_nil s.m q1
 have hqt:=turn_quiet (m:=⟨s.m.W,[],0,s.m.ah+s.m.t⟩) rfl (p:=c.p) (l:=c.ax) (inv:=c.inv) (s:=st) (sr:=src) (d:=dst) (tb:=2*(nn+6)) (n:=nn) (good:=x++sx (sumsV c.p x)) (fx:=[]) (x:=x) p0 hnn (λ y hy=>(q2.w y hy).1) (by dsimp only;omega) (by dsimp only;omega) (by dsimp only;omega) p3 (.inl (by omega)) (.inl (by omega)) (by rw [q4] at hf ⊢; exact hf) rfl q5 q6
 have hmok:Mm.ok ⟨s.m.W,[],0,s.m.ah+s.m.t⟩:=⟨q2.w,λ x hx=>(by cases hx),λ x hx=>(by cases hx)⟩
 have hto:=turn_ok hmok c.p c.ax c.inv st src dst (2*(nn+6):Nat)
 have hah:=turn_ah ⟨s.m.W,[],0,s.m.ah+s.m.t⟩ c.p c.ax c.inv st src dst (2*(nn+6):Nat)
 have htk:=turn_ticks (m:=⟨s.m.W,[],0,s.m.ah+s.m.t⟩) (inv:=c.inv) (src:=src) (dst:=dst) (tab:=((2*(nn+6):Nat):Int)) p0 (has_of (w:=w) q3 ⟨by omega,by omega,by omega⟩) (has_of (w:=w) q3 ⟨by omega,by omega,by omega⟩) (has_of (w:=w) q3 ⟨by omega,by omega,by omega⟩)
 have hfe:s.next (doF c st src dst) of=(((turnV ⟨s.m.W,[],0,s.m.ah+s.m.t⟩ c.p c.ax c.inv st src dst (2*(nn+6):Nat)).1.1.1,(turnV ⟨s.m.W,[],0,s.m.ah+s.m.t⟩ c.p c.ax c.inv st src dst (2*(nn+6):Nat)).1.1.2,[]),(turnV ⟨s.m.W,[],0,s.m.ah+s.m.t⟩ c.p c.ax c.inv st src dst (2*(nn+6):Nat)).2):=by
  unfold Ts.next doF
  rw [hof,hm,show (2*(nV c.ax+6):Int)=((2*(nn+6):Nat):Int) by omega]
 generalize turnV ⟨s.m.W,[],0,s.m.ah+s.m.t⟩ c.p c.ax c.inv st src dst (2*(nn+6):Nat)=V at hqt hto hah htk hfe
 obtain ⟨v1,v2,v3,v4⟩:=hqt
 rw [v1] at hfe htk
 have hd:doV c x st=doG c.p c.inv st.tw nn (grpsV c.ax st) (tabV c.p c.ax c.inv st) x:=by unfold doV;rw [hnt]
 refine ⟨s.on (s.next (doF c st src dst) of) [],?_,⟨?_,?_,?_,?_,?_,?_⟩,?_,?_,?_,?_⟩
 ·show (if (s.next (doF c st src dst) of).1.1=true then _ else _)=_
  rw [hfe,if_pos rfl]
 ·rw [hfe]; exact v2
 ·rw [hfe]; exact hto
 ·rw [hfe]; exact v3.trans q3
 ·rw [hfe,hnt,hd]; exact v4
 ·rw [hd]; exact doG_in hk
 ·rw [hd,hnt]; exact doG_length _ _ _ _ _ _ _
 ·rw [hfe]; rfl
 ·rw [hfe]; exact List.append_nil _
 ·rw [hfe]; exact List.append_nil _
 ·rw [hfe]
  show V.2.ah+V.2.t=_
  obtain ⟨t1,t2,t3,t4⟩:=htk
  rw [hah]
  unfold costS
  rcases t4 with t4 | t4
  ·exact absurd t4.1 (by simp)
  ·rw [t4,hnn]; simp only [List.map_nil,List.length_nil]; omega
theorem quiet_out {c:TP} {w src:Nat} {x:List Int} {s:Ts} (h:QT c w src x s) (hk:known c.p=true) (hn:1<=nV c.ax/\nV c.ax<=4096) (hp:src+(nV c.ax).toNat+6<=w) {of:Int->List Ev} (hof:∀ w,of w=[]) {i:Int} {k:Nat} :
 ∃ s1,wellT (outF c src) of i (k+1) s=(true,s1)/\s1.Y=x/\s1.fx=s.fx/\s1.sl=s.sl/\s1.m.ah+s1.m.t=s.m.ah+s.m.t+(2*nV c.ax+6):=by
 obtain ⟨nn,hnn⟩:=Int.eq_ofNat_of_zero_le (show 0<=nV c.ax by omega)
 have hnt:(nV c.ax).toNat=nn:=by omega
 obtain ⟨q1,q2,q3,q4,q5,q6⟩:=h
 rw [hnt] at hp q4 q6
 have hm:=nxt_nil s.m q1
 have hmok:Mm.ok ⟨s.m.W,[],0,s.m.ah+s.m.t⟩:=⟨q2.w,λ x hx=>(by cases hx),λ x hx=>(by cases hx)⟩
 have ho:=out_quiet (m:=⟨s.m.W,[],0,s.m.ah+s.m.t⟩) rfl hmok (d:=src) (n:=nn) hk (by omega) (by dsimp only;omega) q4 q5 q6
 have ht:=out_ticks (m:=⟨s.m.W,[],0,s.m.ah+s.m.t⟩) (p:=c.p) (a:=src) (n:=nn) hk (by omega) (has_of (w:=w) q3 ⟨by omega,by omega,by omega⟩)
 have hah:=(out_t (m:=⟨s.m.W,[],0,s.m.ah+s.m.t⟩) (p:=c.p) (a:=src) (n:=nn) hk (by omega) (has_of (w:=w) q3 ⟨by omega,by omega,by omega⟩)).2.2
 have hfe:s.next (outF c src) of=(((outV ⟨s.m.W,[],0,s.m.ah+s.m.t⟩ c.p nn src).1.1.2.1,(outV ⟨s.m.W,[],0,s.m.ah+s.m.t⟩ c.p nn src).1.1.2.2,(outV ⟨s.m.W,[],0,s.m.ah+s.m.t⟩ c.p nn src).1.1.1),(outV ⟨s.m.W,[],0,s.m.ah+s.m.t⟩ c.p nn src).2):=by
  unfold Ts.next outF
  rw [hof,hm,hnn]
 generalize outV ⟨s.m.W,[],0,s.m.ah+s.m.t⟩ c.p nn src=O at ho ht hah hfe
 rw [ho] at hfe ht
 refine ⟨s.on (s.next (outF c src) of) [],?_,?_,?_,?_,?_⟩
 ·show (if (s.next (outF c src) of).1.1=true then _ else _)=_
  rw [hfe,if_pos rfl]
 ·rw [hfe]; rfl
 ·rw [hfe]; exact List.append_nil _
 ·rw [hfe]; exact List.append_nil _
 ·rw [hfe]
  show O.2.ah+O.2.t=_
  obtain ⟨t1,t2,t3,t4⟩:=ht
  rw [hah]
  rcases t4 with t4 | t4
  ·exact absurd (congrArg (λ z=>z.2.1) t4.1) (by simp)
  ·rw [t4.1,hnn]; simp only [List.length_nil]; omega
theorem quiet_all {c:TP} {w:Nat} (hk:known c.p=true) (hn:1<=nV c.ax/\nV c.ax<=4096) (ht:1<=c.times) {of:Int->List Ev} (hof:∀ w,of w=[]):∀ (l:List Stp) (i:Int) (src dst:Nat) (x:List Int) (s:Ts),QT c w src x s->(∀ st∈l,PQ c w st src dst/\PQ c w st dst src)->src+(nV c.ax).toNat+6<=w->dst+(nV c.ax).toNat+6<=w ->
 ∃ s1,allT c of l i src dst s=(true,s1)/\s1.Y=l.foldl (doV c) x/\s1.fx=s.fx/\s1.sl=s.sl/\s1.m.ah+s1.m.t=s.m.ah+s.m.t+(l.map (costS c)).sum+(2*nV c.ax+6)
 | [], i, src, dst, x, s, h, _, h1, h2 => by
   obtain ⟨k,hkk⟩:∃ k,c.times=k+1:=⟨c.times-1,by omega⟩
   obtain ⟨s1,e1,e2,e3,e4,e5⟩:=quiet_out (i:=i) (k:=k) h hk hn h1 hof
   refine ⟨s1,?_,e2,e3,e4,by rw [e5]; simp⟩
   unfold allT
   rw [hkk]; exact e1
 | st :: l, i, src, dst, x, s, h, hp, h1, h2 => by
   obtain ⟨k,hkk⟩:∃ k,c.times=k+1:=⟨c.times-1,by omega⟩
   obtain ⟨s1,e1,e2,e3,e4,e5,e6⟩:=quiet_do (i:=i) (k:=k) h (hp st (by simp)).1 hof
   obtain ⟨s2,g1,g2,g3,g4,g5⟩:=quiet_all hk hn ht hof l (i+1) dst src _ s1 e2 (λ t ht=>(hp t (by simp [ht])).symm) h2 h1
   refine ⟨s2,?_,g2,g3.trans e4,g4.trans e5,?_⟩
   ·unfold allT
    rw [hkk,e1,if_pos rfl]
    exact g1
   ·rw [g5,e6,List.map_cons,List.sum_cons]; omega
theorem quiet_try {q:Req} (h:checkV q=0) (hX:∀ x∈q.X,0<=x) {it tr:Int} (hit:0<=it/\it < q.batch) {l:List Ev} (hl:∀ w,ofS l it tr w=[]) :
 ∃ s1,tryT q it tr l=(true,s1)/\s1.Y=(stepsGo q.inv 0 q.axes).foldl (doV (tpOf q)) (itemV q it)/\s1.fx=[]/\s1.sl=[]/\s1.m.ah+s1.m.t=nV q.axes+6+((stepsGo q.inv 0 q.axes).map (costS (tpOf q))).sum+(2*nV q.axes+6):=by
 obtain ⟨q1,q2,q3,q4,q5⟩:=check_ok h
 obtain ⟨f1,f2,f3,f4⟩:=cost_facts q2
 obtain ⟨hk,hal,hall⟩:=grid_ok q2
 obtain ⟨hst,hsl⟩:=steps_zero (λ a ha=>(hall a ha).1) q.inv
 have hn:=nV_range q2
 have hmk:=mkGo_range (p:=q.P) (l:=q.axes) q.inv q2 (stepsGo q.inv 0 q.axes) 0 hst (by omega) (by omega)
 have hmg:=(mk_ge (p:=q.P) (l:=q.axes) (inv:=q.inv) (stepsGo q.inv 0 q.axes) 0).2
 have hM:(makeV q.P q.axes q.inv).1.W=2*(nV q.axes+6)+mkGo q.P q.axes q.inv 0 (stepsGo q.inv 0 q.axes):=by unfold makeV;rw [if_pos q2]
 obtain ⟨il,il2⟩:=itemV_len h hit
 have hinP:∀ y∈itemV q it,inP q.P y:=λ y hy=>by
  have hm:y∈q.X:=List.mem_of_mem_drop (List.mem_of_mem_take hy)
  refine ⟨hX y hm,?_⟩
  unfold inV at q4
  rw [Bool.and_eq_true] at q4
  simpa using List.all_eq_true.1 q4.1 y hm
 unfold tryT
 rw [hM]
 generalize mkGo q.P q.axes q.inv 0 (stepsGo q.inv 0 q.axes)=mm at hmk hmg ⊢
 generalize stepsGo q.inv 0 q.axes=G at hst hmg ⊢
 obtain ⟨nn,hnn⟩:=Int.eq_ofNat_of_zero_le (show 0<=nV q.axes by omega)
 have hnt:(nV q.axes).toNat=nn:=by omega
 have hs6:=sums_in hk (itemV q it)
 have hcl:(itemV q it++sixL (sumsV q.P (itemV q it))).length=nn+6:=by
  rw [List.length_append]; show _+6=_;omega
 have hcu:∀ y∈itemV q it++sixL (sumsV q.P (itemV q it)),Go.Proofs.YtpecnaacgkgjmaaGreatDoor.u64r y:=λ y hy=>by
  rcases List.mem_append.1 hy with hy | hy
  ·exact u64_of hk (hinP y hy)
  ·unfold sixL at hy
   simp only [List.mem_cons,List.not_mem_nil,or_false] at hy
   rcases hy with e | e | e | e | e | e <;> rw [e] <;> first | exact u64_of hk hs6.1 | exact u64_of hk hs6.2
 have hok0:Mm.ok ⟨List.replicate (2*(nV q.axes+6)+mm).toNat 0,ofS l it tr 0,0,0⟩:=by
  rw [hl]
  refine ⟨λ y hy=>?_,λ x hx=>(by cases hx),λ x hx=>(by cases hx)⟩
  rw [(List.mem_replicate.1 hy).2]; exact ⟨by omega,by omega⟩
 have hla:=lay_t (m:=⟨List.replicate (2*(nV q.axes+6)+mm).toNat 0,ofS l it tr 0,0,0⟩) (l:=itemV q it++sixL (sumsV q.P (itemV q it))) (a:=0) (has_of (w:=(2*(nV q.axes+6)+mm).toNat) (by simp) ⟨by omega,by omega,by omega⟩)
 have hlo:=lay_ok hok0 hcu 0
 have hlah:=lay_ah ⟨List.replicate (2*(nV q.axes+6)+mm).toNat 0,ofS l it tr 0,0,0⟩ (itemV q it++sixL (sumsV q.P (itemV q it))) 0
 have hlw:(layV ⟨List.replicate (2*(nV q.axes+6)+mm).toNat 0,ofS l it tr 0,0,0⟩ (itemV q it++sixL (sumsV q.P (itemV q it))) 0).2=⟨wset (List.replicate (2*(nV q.axes+6)+mm).toNat 0) ((rowO ((0:Nat):Int) (itemV q it++sixL (sumsV q.P (itemV q it))).length).zip (itemV q it++sixL (sumsV q.P (itemV q it)))),[],(nn:Int)+6,0⟩:=by
  unfold layV
  rw [if_pos (has_of (w:=(2*(nV q.axes+6)+mm).toNat) (by simp) ⟨by omega,by omega,by omega⟩)]
  dsimp only
  rw [wrs_nil _ _ (hl 0)]
  dsimp only
  rw [List.length_zip,rowO_len,Nat.min_self,hcl]
  congr 1
  omega
 have hwin:=win_row (d:=0) (l:=itemV q it++sixL (sumsV q.P (itemV q it))) (W:=List.replicate (2*(nV q.axes+6)+mm).toNat 0) (by rw [hcl]; simp;omega)
 have hQ:QT (tpOf q) (2*(nV q.axes+6)+mm).toNat 0 (itemV q it) ⟨m0T q.P (2*(nV q.axes+6)+mm) (itemV q it) (ofS l it tr 0),0,[],[],[]⟩:=by
  refine ⟨?_,hlo,hla.2.1.trans (by simp),?_,hinP,by show (itemV q it).length=(nV q.axes).toNat;omega⟩
  ·show (layV _ _ _).2.L=[]
   rw [hlw]
  ·show (((layV _ _ _).2.W).drop 0).take ((nV q.axes).toNat+6)=_
   rw [hlw,hnt,<- hcl]
   exact hwin
 obtain ⟨s1,e1,e2,e3,e4,e5⟩:=quiet_all (c:=tpOf q) (w:=(2*(nV q.axes+6)+mm).toNat) hk hn (by show 1<=(q.retry+1).toNat;omega) hl G 0 0 (nn+6) _ _ hQ
  (λ st hs=>by
    have h1:=stepV_ok _ _ _ q2 (hst st hs)
    have h2:=hmg st hs
    have hc:(nV (tpOf q).ax).toNat=nn:=hnt
    refine ⟨⟨h1,?_,?_,?_,?_,?_,?_⟩,⟨h1,?_,?_,?_,?_,?_,?_⟩⟩ <;> rw [hc]
    all_goals first | omega | (show _+(tabV q.P q.axes q.inv st).length<=_;omega))
  (by show 0+(nV q.axes).toNat+6<=_;omega) (by show nn+6+(nV q.axes).toNat+6<=_;omega)
 refine ⟨s1,?_,e2,e3,e4,?_⟩
 ·rw [show ((0:Nat):Int)=0 from rfl,show ((nn+6:Nat):Int)=nV q.axes+6 by omega] at e1
  exact e1
 ·rw [e5]
  show (layV _ _ _).2.ah+(layV _ _ _).2.t+_+_=_
  rw [hlw]
  show 0+((nn:Int)+6)+_+(2*nV q.axes+6)=_
  omega
abbrev liveQ:Req:=⟨998244353,[⟨2,false⟩],false,1,[3,5],[1],0,0⟩
theorem liveQ_check:checkV liveQ=0:=by decide +kernel
theorem liveQ_steps:stepsGo false 0 [⟨2,false⟩]=[⟨0,false,⟨2,1,1⟩⟩]:=by decide +kernel
theorem liveQ_try:tryR liveQ 0 0 []=⟨true,[8,998244351],[],[],46⟩:=by
 obtain ⟨s1,e1,e2,e3,e4,e5⟩:=quiet_try (q:=liveQ) liveQ_check (λ x hx=>by
  simp only [List.mem_cons,List.not_mem_nil,or_false] at hx
  rcases hx with rfl | rfl <;> decide) (it:=0) (tr:=0) ⟨by decide,by decide⟩ (l:=[]) (λ w=>rfl)
 have hE:tryE liveQ 0 0 ([]:List Ev).length=0:=by unfold tryE;rw [liveQ_check]; rfl
 have hi:itemV liveQ 0=[3,5]:=by unfold itemV;rw [show nV liveQ.axes=((2:Nat):Int) from liveT_nV]; rfl
 rw [show stepsGo liveQ.inv 0 liveQ.axes=[⟨0,false,⟨2,1,1⟩⟩] from liveQ_steps] at e2 e5
 have h2:doV (tpOf liveQ) [3,5] ⟨0,false,⟨2,1,1⟩⟩=[8,998244351]:=by
  unfold doV
  rw [show (nV (tpOf liveQ).ax).toNat=2 by rw [show nV (tpOf liveQ).ax=((2:Nat):Int) from liveT_nV]; rfl]
  exact liveT_do
 have h3:costS (tpOf liveQ) ⟨0,false,⟨2,1,1⟩⟩=28:=by
  unfold costS
  rw [show nV (tpOf liveQ).ax=((2:Nat):Int) from liveT_nV,show tabV (tpOf liveQ).p (tpOf liveQ).ax (tpOf liveQ).inv ⟨0,false,⟨2,1,1⟩⟩=[1,1] from live_tab]; rfl
 rw [hi,List.foldl_cons,List.foldl_nil,h2] at e2
 rw [List.map_cons,List.map_nil,h3,show nV liveQ.axes=((2:Nat):Int) from liveT_nV] at e5
 unfold tryR
 rw [if_pos hE,e1]
 dsimp only
 rw [e2,e3,e4,e5]
 rfl
set_option maxRecDepth 20000 in
set_option maxHeartbeats 1000000 in
theorem live20_w {S:St}:Sp (gq3a []) S λ v _=>v=vB true:=by
 unfold Sp
 rw [gq3a_eq]
 have hp:S <+: S++[AObj.cells [vI 2,vB false] 113 none,AObj.cells [vU 3,vU 5] 24 none,AObj.cells [vU 1] 24 none,AObj.cells (qc liveQ (some ⟨S.length,0,none⟩) 1 (some ⟨S.length+1,0,none⟩) 2 (some ⟨S.length+2,0,none⟩) 1) 62 none]:=List.prefix_append _ _
 have z0:(S++[AObj.cells [vI 2,vB false] 113 none,AObj.cells [vU 3,vU 5] 24 none,AObj.cells [vU 1] 24 none,AObj.cells (qc liveQ (some ⟨S.length,0,none⟩) 1 (some ⟨S.length+1,0,none⟩) 2 (some ⟨S.length+2,0,none⟩) 1) 62 none])[S.length]? = some (AObj.cells [vI 2,vB false] 113 none):=gA0
 have z1:(S++[AObj.cells [vI 2,vB false] 113 none,AObj.cells [vU 3,vU 5] 24 none,AObj.cells [vU 1] 24 none,AObj.cells (qc liveQ (some ⟨S.length,0,none⟩) 1 (some ⟨S.length+1,0,none⟩) 2 (some ⟨S.length+2,0,none⟩) 1) 62 none])[S.length+1]? = some (AObj.cells [vU 3,vU 5] 24 none):=gA1
 have z2:(S++[AObj.cells [vI 2,vB false] 113 none,AObj.cells [vU 3,vU 5] 24 none,AObj.cells [vU 1] 24 none,AObj.cells (qc liveQ (some ⟨S.length,0,none⟩) 1 (some ⟨S.length+1,0,none⟩) 2 (some ⟨S.length+2,0,none⟩) 1) 62 none])[S.length+2]? = some (AObj.cells [vU 1] 24 none):=gA2
 have z3:(S++[AObj.cells [vI 2,vB false] 113 none,AObj.cells [vU 3,vU 5] 24 none,AObj.cells [vU 1] 24 none,AObj.cells (qc liveQ (some ⟨S.length,0,none⟩) 1 (some ⟨S.length+1,0,none⟩) 2 (some ⟨S.length+2,0,none⟩) 1) 62 none])[S.length+3]? = some (AObj.cells (qc liveQ (some ⟨S.length,0,none⟩) 1 (some ⟨S.length+1,0,none⟩) 2 (some ⟨S.length+2,0,none⟩) 1) 62 none):=gA
 simp only [wps,List.append_assoc,List.cons_append,List.nil_append,List.length_append,List.length_cons,List.length_nil,Nat.zero_add,Nat.add_assoc,Nat.reduceAdd,gA,sA,List.set_cons_succ,List.set_cons_zero,List.getElem?_cons_succ,List.getElem?_cons_zero,cell_blk z3]
 generalize S++[AObj.cells [vI 2,vB false] 113 none,AObj.cells [vU 3,vU 5] 24 none,AObj.cells [vU 1] 24 none,AObj.cells (qc liveQ (some ⟨S.length,0,none⟩) 1 (some ⟨S.length+1,0,none⟩) 2 (some ⟨S.length+2,0,none⟩) 1) 62 none]=Y at hp z0 z1 z2 z3 ⊢
 have hQ:QA Y liveQ (some ⟨S.length,0,none⟩) (some ⟨S.length+1,0,none⟩) (some ⟨S.length+2,0,none⟩):=⟨Ar.blk (l:=liveQ.axes) z0 (λ _ _=>rfl) rfl,Ar.blk (l:=liveQ.X) z1 (λ _ _=>rfl) rfl,Ar.blk (l:=liveQ.seeds) z2 (λ _ _=>rfl) rfl,by decide,by decide,by decide⟩
 refine (wins_w (c1:=1) (c4:=2) (c5:=1) hQ).use ?_
 rintro _ S1 k1 rfl
 have z31:=pre_get k1 z3
 have hw:winsV liveQ=(3,0):=by unfold winsV;rw [if_pos liveQ_check,show stepsGo liveQ.inv 0 liveQ.axes=[⟨0,false,⟨2,1,1⟩⟩] from liveQ_steps]; rfl
 rw [hw]
 simp only [wps,cell_blk z31,gcz,gcs]
 refine (trun_w (q:=liveQ) (c1:=1) (c4:=2) (c5:=1) (it:=0) (tr:=0) (la:=none) (ln:=0) (lc:=0) (l:=[]) (hQ.mono k1) (by decide) (λ x hx=>?_) .nil (.inl (by omega)) (λ x hx=>by cases hx) (λ x hx=>by cases hx)).mono ?_
 ·simp only [List.mem_cons,List.not_mem_nil,or_false] at hx
  rcases hx with rfl | rfl <;> decide
 rintro _ S2 ⟨k2,ya,fa,sa,rfl,hA,_⟩
 have hE:tryE liveQ 0 0 0=0:=by unfold tryE;rw [liveQ_check]; rfl
 rw [liveQ_try] at hA ⊢
 rw [hE]
 have hp3:S2 <+: S2++[AObj.cells (trC ⟨true,[8,998244351],[],[],46⟩ ya fa sa) 70 none,AObj.cells [vU 8,vU 998244351] 24 none]:=List.prefix_append _ _
 have z4:(S2++[AObj.cells (trC ⟨true,[8,998244351],[],[],46⟩ ya fa sa) 70 none,AObj.cells [vU 8,vU 998244351] 24 none])[S2.length]? = some (AObj.cells (trC ⟨true,[8,998244351],[],[],46⟩ ya fa sa) 70 none):=gA0
 have z5:(S2++[AObj.cells (trC ⟨true,[8,998244351],[],[],46⟩ ya fa sa) 70 none,AObj.cells [vU 8,vU 998244351] 24 none])[S2.length+1]? = some (AObj.cells [vU 8,vU 998244351] 24 none):=gA1
 have hy:=hA.mono hp3
 have hw2:Ar (S2++[AObj.cells (trC ⟨true,[8,998244351],[],[],46⟩ ya fa sa) 70 none,AObj.cells [vU 8,vU 998244351] 24 none]) (some ⟨S2.length+1,0,none⟩) 2 1 eU [8,998244351]:=Ar.blk (l:=[8,998244351]) z5 (λ _ _=>rfl) rfl
 have hs:=r01same_w (c:=2) (d:=2) hy.y hw2 (by decide)
 have pS:=(hp.trans k1).trans (k2.trans hp3)
 simp only [wps,List.append_assoc,List.cons_append,List.nil_append,List.length_append,Nat.zero_add,Nat.reduceAdd,cell_blk z4,gcz,gcs]
 refine Eq.mpr (hs.wp _) ?_
 simp only [wps,cell_blk z4,gcz,gcs]
 exact ⟨pS,rfl⟩
theorem few20_w {S:St} {q:Req} {a1 a4 a5:Option Addr} {c1 c4 c5 n c:Nat} {p:Option Addr} {m:Int} (h:QA S q a1 a4 a5) (hm:0<=m/\m<=1000) :
 Sp (gq39 [qv q a1 c1 a4 c4 a5 c5,.slice p n c,vI m]) S λ v S'=>v=vB (few17 q m && decide (n<=40)):=by
 unfold Sp
 rw [gq39_eq]
 have hp:=List.prefix_append S [AObj.cells (qc q a1 c1 a4 c4 a5 c5) 62 none]
 simp only [wps]
 refine (r17few_w (c1:=c1) (c4:=c4) (c5:=c5) (h.mono hp) hm).use ?_
 rintro _ S1 k1 rfl
 simp only [wps]
 refine ⟨λ e=>⟨hp.trans k1,?_⟩,λ e=>⟨hp.trans k1,?_⟩⟩
 ·rw [e,Bool.true_and]; congr 1;rw [decide_eq_decide]; omega
 ·rw [e]; rfl
structure Lab (g:Ev->Ev):Prop where
 ti:∀ x,(g x).ti=x.ti
 ad:∀ x,(g x).ad=x.ad
 ma:∀ x,(g x).ma=x.ma
section
variable {g:Ev->Ev} (hg:Lab g)
include hg
end
theorem get6 {α:Type} {f1 f2 f3 f4 f5 f6:α->Int} {S:St} {p:Option Addr} {n:Nat} {l:List α} (h:Ar S p n 6 (λ x=>[vI (f1 x),vI (f2 x),vI (f3 x),vI (f4 x),vU (f5 x),vU (f6 x)]) l) {i:Nat} (hi:i < l.length) :
 ∃ a,p=some a/\S.cell (a.add (i*6))=some (vI (f1 l[i]))/\S.cell ((a.add (i*6)).add 1)=some (vI (f2 l[i]))/\S.cell ((a.add (i*6)).add 2)=some (vI (f3 l[i])) /\
  S.cell ((a.add (i*6)).add 3)=some (vI (f4 l[i]))/\S.cell ((a.add (i*6)).add 4)=some (vU (f5 l[i]))/\S.cell ((a.add (i*6)).add 5)=some (vU (f6 l[i])):=by
 obtain ⟨a,h1,h2⟩:=h.2 i hi
 exact ⟨a,h1,by have:=h2 0 _ rfl;rwa [add_zero_] at this,h2 1 _ rfl,h2 2 _ rfl,h2 3 _ rfl,h2 4 _ rfl,h2 5 _ rfl⟩
theorem get4 {α:Type} {f1 f2 f3 f4:α->Int} {S:St} {p:Option Addr} {n:Nat} {l:List α} (h:Ar S p n 4 (λ x=>[vI (f1 x),vI (f2 x),vI (f3 x),vI (f4 x)]) l) {i:Nat} (hi:i < l.length) :
 ∃ a,p=some a/\S.cell (a.add (i*4))=some (vI (f1 l[i]))/\S.cell ((a.add (i*4)).add 1)=some (vI (f2 l[i]))/\S.cell ((a.add (i*4)).add 2)=some (vI (f3 l[i]))/\S.cell ((a.add (i*4)).add 3)=some (vI (f4 l[i])):=by
 obtain ⟨a,h1,h2⟩:=h.2 i hi
 exact ⟨a,h1,by have:=h2 0 _ rfl;rwa [add_zero_] at this,h2 1 _ rfl,h2 2 _ rfl,h2 3 _ rfl⟩
theorem recs_w {α:Type} {f1 f2 f3 f4 f5 f6:α->Int} {S:St} {p r:Option Addr} {n m c d:Nat} {l:List α} (h:Ar S p n 6 (λ x=>[vI (f1 x),vI (f2 x),vI (f3 x),vI (f4 x),vU (f5 x),vU (f6 x)]) l) (k:Ar S r m 6 (λ x=>[vI (f1 x),vI (f2 x),vI (f3 x),vI (f4 x),vU (f5 x),vU (f6 x)]) l) (hn:n<=140737488355328) :
 Gv (gq46 [.slice p n c,.slice r m d]) S (vB true):=by
 have h1:=h.1
 have k1:=k.1
 refine .of ?_
 rw [gq46_eq]
 simp only [wps]
 refine ⟨λ e=>absurd (by rw [h1,k1]) e,λ e=>?_⟩
 refine wp_loop (λ st S' t=>∃ j:Nat,st=[vI j]/\j<=n/\t=n-j/\S'=S) ?_ n _ _ ⟨0,rfl,by omega,by omega,rfl⟩
 rintro st S' t ⟨j,rfl,hj,rfl,rfl⟩
 simp only [wps]
 intro h3
 refine ⟨h3,?_⟩
 have hx:j < l.length:=by omega
 obtain ⟨a,rfl,c0,c1,c2,c3,c4,c5⟩:=get6 h hx
 obtain ⟨b,rfl,d0,d1,d2,d3,d4,d5⟩:=get6 k hx
 simp only [wps,c0,c1,c2,c3,c4,c5,d0,d1,d2,d3,d4,d5]
 rw [wI_ (n:=(j:Int)+1) (by omega) (by omega)]
 refine ⟨by omega,λ e3=>?_,λ e3=>⟨n-(j+1),by omega,j+1,rfl,by omega,rfl⟩⟩
 simp [eqL] at e3
theorem slips_w {α:Type} {f1 f2 f3 f4:α->Int} {S:St} {p r:Option Addr} {n m c d:Nat} {l:List α} (h:Ar S p n 4 (λ x=>[vI (f1 x),vI (f2 x),vI (f3 x),vI (f4 x)]) l) (k:Ar S r m 4 (λ x=>[vI (f1 x),vI (f2 x),vI (f3 x),vI (f4 x)]) l) (hn:n<=140737488355328) :
 Gv (gq47 [.slice p n c,.slice r m d]) S (vB true):=by
 have h1:=h.1
 have k1:=k.1
 refine .of ?_
 rw [gq47_eq]
 simp only [wps]
 refine ⟨λ e=>absurd (by rw [h1,k1]) e,λ e=>?_⟩
 refine wp_loop (λ st S' t=>∃ j:Nat,st=[vI j]/\j<=n/\t=n-j/\S'=S) ?_ n _ _ ⟨0,rfl,by omega,by omega,rfl⟩
 rintro st S' t ⟨j,rfl,hj,rfl,rfl⟩
 simp only [wps]
 intro h3
 refine ⟨h3,?_⟩
 have hx:j < l.length:=by omega
 obtain ⟨a,rfl,c0,c1,c2,c3⟩:=get4 h hx
 obtain ⟨b,rfl,d0,d1,d2,d3⟩:=get4 k hx
 simp only [wps,c0,c1,c2,c3,d0,d1,d2,d3]
 rw [wI_ (n:=(j:Int)+1) (by omega) (by omega)]
 refine ⟨by omega,λ e3=>?_,λ e3=>⟨n-(j+1),by omega,j+1,rfl,by omega,rfl⟩⟩
 simp [eqL] at e3
theorem r20same_w {S:St} {it tr:Int} {t:Tr} {ya fa sa yb fb sb:Option Addr} (h:TrA S it tr t ya fa sa) (k:TrA S it tr t yb fb sb) (hs:TrS t) :
 Sp (gq45 [vA (trC t ya fa sa),vA (trC t yb fb sb)]) S λ v _=>v=vB true:=by
 unfold Sp
 rw [gq45_eq]
 have hp:S <+: S++[AObj.cells (trC t ya fa sa) 70 none,AObj.cells (trC t yb fb sb) 70 none]:=List.prefix_append _ _
 have z0:(S++[AObj.cells (trC t ya fa sa) 70 none,AObj.cells (trC t yb fb sb) 70 none])[S.length]? = some (AObj.cells (trC t ya fa sa) 70 none):=gA0
 have z1:(S++[AObj.cells (trC t ya fa sa) 70 none,AObj.cells (trC t yb fb sb) 70 none])[S.length+1]? = some (AObj.cells (trC t yb fb sb) 70 none):=gA1
 have h':=h.mono hp
 have k':=k.mono hp
 have e1:=λ c d=>r01same_w (c:=c) (d:=d) h'.y k'.y (by have:=hs.y;omega)
 have e2:=λ c d=>recs_w (c:=c) (d:=d) h'.fx k'.fx (by have:=hs.fx;omega)
 have e3:=λ c d=>slips_w (c:=c) (d:=d) h'.sl k'.sl (by have:=hs.sl;omega)
 simp only [wps,List.append_assoc,List.cons_append,List.nil_append,List.length_append,List.length_cons,List.length_nil,Nat.zero_add,Nat.reduceAdd,cell_blk z0,cell_blk z1,gcz,gcs]
 refine ⟨λ _=>?_,λ e=>by simp at e⟩
 refine Eq.mpr ((e1 _ _).wp _) ?_
 simp only [wps,cell_blk z0,cell_blk z1,gcz,gcs]
 refine Eq.mpr ((e2 _ _).wp _) ?_
 simp only [wps,cell_blk z0,cell_blk z1,gcz,gcs]
 refine Eq.mpr ((e3 _ _).wp _) ?_
 simp only [wps,cell_blk z0,cell_blk z1,gcz,gcs]
 exact ⟨hp,by simp⟩
theorem well_congr {f:TurnF} {of of':Int->List Ev} {step:Int}:∀ (k:Nat) (s:Ts),(∀ w,s.win < w->w<=s.win+k->of w=of' w)->wellT f of step k s=wellT f of' step k s/\(wellT f of step k s).2.win<=s.win+k
 | 0, s, _ => ⟨rfl, by show s.win <= _; omega⟩
 | k + 1, s, h => by
   have e:s.next f of=s.next f of':=by unfold Ts.next;rw [h _ (by omega) (by omega)]
   unfold wellT
   rw [e]
   split
   ·exact ⟨rfl,by show s.win+1<=_;omega⟩
   ·obtain ⟨h1,h2⟩:=well_congr k (s.on (s.next f of') [(s.win+1,step)]) λ w h1 h2=>h w (by have : (s.on (s.next f of') [(s.win+1,step)]).win=s.win+1:=rfl;omega) (by have : (s.on (s.next f of') [(s.win+1,step)]).win=s.win+1:=rfl;omega)
    refine ⟨h1,?_⟩
    have : (s.on (s.next f of') [(s.win+1,step)]).win=s.win+1:=rfl
    omega
theorem all_congr {c:TP} {of of':Int->List Ev}:∀ (l:List Stp) (i src dst:Int) (s:Ts),(∀ w,s.win < w->w<=s.win+(l.length+1)*(c.times:Int)->of w=of' w)->allT c of l i src dst s=allT c of' l i src dst s
 | [], i, src, dst, s, h => by
   unfold allT
   exact (well_congr _ _ λ w h1 h2=>h w h1 (by simp only [List.length_nil]; omega)).1
 | st :: l, i, src, dst, s, h => by
   have hl:(((st :: l).length:Int)+1)*(c.times:Int)=((l.length:Int)+1)*(c.times:Int)+c.times:=by
    rw [List.length_cons,show ((l.length+1:Nat):Int)+1=((l.length:Int)+1)+1 by omega,Int.add_mul _ 1,Int.one_mul]
   have hnn:0<=((l.length:Int)+1)*(c.times:Int):=Int.mul_nonneg (by omega) (by omega)
   rw [hl] at h
   obtain ⟨h1,h2⟩:=well_congr (f:=doF c st src dst) (of:=of) (of':=of') (step:=i) c.times s λ w g1 g2=>h w g1 (by omega)
   unfold allT
   rw [<- h1]
   split
   ·exact all_congr l _ _ _ _ λ w g1 g2=>by
     by_cases hw:s.win < w
     ·exact h w hw (by omega)
     ·have hge:s.win<=(wellT (doF c st src dst) of i c.times s).2.win:=by
       have key:∀ (k:Nat) (s:Ts),s.win<=(wellT (doF c st src dst) of i k s).2.win:=by
        intro k
        induction k with
        | zero=>intro s;exact Int.le_refl _
        | succ k ih=>
          intro s
          unfold wellT
          split
          ·show s.win<=s.win+1;omega
          ·have:=ih (s.on (s.next (doF c st src dst) of) [(s.win+1,i)])
           have e:(s.on (s.next (doF c st src dst) of) [(s.win+1,i)]).win=s.win+1:=rfl
           omega
       exact key _ _
      omega
   ·rfl
theorem try_congr {q:Req} (h:checkV q=0) {it tr:Int} {l m:List Ev} (he:∀ w,0<=w->w < (winsV q).1->ofS l it tr w=ofS m it tr w):tryT q it tr l=tryT q it tr m:=by
 obtain ⟨q1,_⟩:=check_ok h
 have hw:(winsV q).1=1+(q.retry+1)*(((stepsGo q.inv 0 q.axes).length:Int)+1):=by unfold winsV;rw [if_pos h]
 have hm:0<=(q.retry+1)*(((stepsGo q.inv 0 q.axes).length:Int)+1):=Int.mul_nonneg (by omega) (by omega)
 have ht:((tpOf q).times:Int)=q.retry+1:=by show ((q.retry+1).toNat:Int)=_;omega
 unfold tryT
 rw [he 0 (Int.le_refl _) (by omega)]
 refine all_congr _ _ _ _ _ λ w h1 h2=>he w ?_ ?_
 ·have : (0:Int) < w:=h1;omega
 ·have h2:w<=0+(((stepsGo q.inv 0 q.axes).length:Int)+1)*((tpOf q).times:Int):=h2
  rw [ht,Int.mul_comm] at h2
  omega
def aloneB (it tr n:Int) (x:Ev):Bool:=decide (x.it=it) && (decide (x.tr=tr) && (decide (0<=x.wi) && decide (x.wi < n)))
theorem alone_ofS {l:List Ev} {it tr n w:Int} (h0:0<=w) (h1:w < n):ofS l it tr w=ofS (l.filter (aloneB it tr n)) it tr w:=by
 unfold ofS
 rw [List.filter_filter]
 congr 1
 refine List.filter_congr λ x _=>?_
 unfold ownB aloneB
 by_cases e1:x.it=it
 ·by_cases e2:x.tr=tr
  ·by_cases e3:x.wi=w
   ·simp [e1,e2,e3,h0,h1]
   ·simp [e1,e2,e3]
  ·simp [e1,e2]
 ·simp [e1]
theorem try_alone {q:Req} {it tr:Int} {l:List Ev} (hl:l.length<=1024):tryR q it tr l=tryR q it tr (l.filter (aloneB it tr (winsV q).1))/\tryE q it tr l.length=tryE q it tr (l.filter (aloneB it tr (winsV q).1)).length:=by
 have hf:=List.length_filter_le (aloneB it tr (winsV q).1) l
 have he:tryE q it tr l.length=tryE q it tr (l.filter (aloneB it tr (winsV q).1)).length:=by
  unfold tryE
  by_cases hc:checkV q≠0
  ·rw [if_pos hc,if_pos hc]
  ·rw [if_neg hc,if_neg hc]
   by_cases h2:0<=it/\it < q.batch/\0<=tr/\tr<=q.again
   ·rw [if_pos ⟨h2.1,h2.2.1,h2.2.2.1,h2.2.2.2,hl⟩,if_pos ⟨h2.1,h2.2.1,h2.2.2.1,h2.2.2.2,by omega⟩]
   ·rw [if_neg (by omega),if_neg (by omega)]
 refine ⟨?_,he⟩
 unfold tryR
 rw [<- he]
 split
 ·rename_i h0
  have hc:checkV q=0:=by
   refine Decidable.byContradiction λ hn=>?_
   unfold tryE at h0;rw [if_pos hn] at h0;exact hn h0
  rw [try_congr hc (l:=l) (m:=l.filter (aloneB it tr (winsV q).1)) λ w h1 h2=>alone_ofS h1 h2]
 ·rfl
set_option maxHeartbeats 4000000 in
set_option maxRecDepth 20000 in
theorem alone_law {S:St} {q:Req} {a1 a4 a5 la:Option Addr} {c1 c4 c5 ln lc:Nat} {it tr:Int} {l:List Ev} (h:QA S q a1 a4 a5) (hc4:q.X.length<=c4) (hX:∀ x∈q.X,0<=x)
 (hl:Ar S la ln 6 Ev.cells l) (hlk:∀ x∈l,Go.Proofs.YtpecnaacgkgjmaaGreatDoor.u64r x.ma) (hlt:∀ x∈l,x.ti<=9223372036854775807) :
 Sp (gq38 [qv q a1 c1 a4 c4 a5 c5,vI it,vI tr,.slice la ln lc]) S λ v _=>v=vB true:=by
 unfold Sp
 have hln0:=hl.1
 rw [gq38_eq]
 have hp:=List.prefix_append S [AObj.cells (qc q a1 c1 a4 c4 a5 c5) 62 none]
 have z:=get_new (S:=S) (o:=AObj.cells (qc q a1 c1 a4 c4 a5 c5) 62 none)
 simp only [wps]
 generalize S++[AObj.cells (qc q a1 c1 a4 c4 a5 c5) 62 none]=Y at hp z ⊢
 refine live20_w.use ?_
 rintro _ S1 k1 rfl
 have z1:=pre_get k1 z
 have p1:=hp.trans k1
 simp only [wps,cell_blk z1,gcz,gcs]
 refine (few20_w (c1:=c1) (c4:=c4) (c5:=c5) (c:=lc) (p:=la) (n:=ln) (m:=12) (h.mono p1) (by omega)).use ?_
 rintro _ S2 k2 rfl
 have z2:=pre_get k2 z1
 have p2:=p1.trans k2
 simp only [wps,cell_blk z2,gcz,gcs]
 refine ⟨λ _=>p2,λ hf=>?_⟩
 have hln:ln<=40:=by
  rw [Bool.and_eq_true] at hf;exact of_decide_eq_true hf.2
 refine (wins_w (c1:=c1) (c4:=c4) (c5:=c5) (h.mono p2)).use ?_
 rintro _ S3 k3 rfl
 have z3:=pre_get k3 z2
 have p3:=p2.trans k3
 simp only [wps]
 refine wp_loop (λ st S' m=>∃ (j:Nat) (a:Option Addr) (k:Nat),st=[.slice a k k,vI j]/\j<=ln/\m=ln-j/\Ap S3 none S' a k 82 6 (((l.take j).filter (aloneB it tr (winsV q).1)).flatMap Ev.cells)) ?_ ln _ _
  ⟨0,none,0,rfl,by omega,by omega,Ap.nil⟩
 rintro st S4 m ⟨j,a,k,rfl,hj,rfl,ha⟩
 have hcnt:=ha.cnt (λ _=>rfl) (by decide)
 have hcl:((l.take j).filter (aloneB it tr (winsV q).1)).length<=ln:=Nat.le_trans (List.length_filter_le _ _) (by rw [List.length_take]; omega)
 simp only [wps]
 refine ⟨λ h3=>⟨h3,?_⟩,λ h3=>?_⟩
 ·have hj':j < l.length:=by omega
  obtain ⟨x,rfl,d0,d1,d2,d3,d4,d5⟩:=((hl.mono p3).mono ha.pre).getEv hj'
  have et:(l.take (j+1)).filter (aloneB it tr (winsV q).1)=(l.take j).filter (aloneB it tr (winsV q).1)++(if aloneB it tr (winsV q).1 l[j]=true then [l[j]] else []):=by
   rw [List.take_add_one,List.getElem?_eq_getElem hj',List.filter_append]
   congr 1
   by_cases hf:aloneB it tr (winsV q).1 l[j]=true <;> simp [hf]
  have hp2:=List.prefix_append S4 [AObj.cells [vI l[j].it,vI l[j].tr,vI l[j].wi,vI l[j].ti,vI l[j].ad,vU l[j].ma] 82 none]
  have hb:=get_new (S:=S4) (o:=AObj.cells [vI l[j].it,vI l[j].tr,vI l[j].wi,vI l[j].ti,vI l[j].ad,vU l[j].ma] 82 none)
  have kno:aloneB it tr (winsV q).1 l[j]=false->WP (kq5v ⟨a,k,k⟩ S4.length (0,[vB false])) (S4++[AObj.cells [vI l[j].it,vI l[j].tr,vI l[j].wi,vI l[j].ti,vI l[j].ad,vU l[j].ma] 82 none]) λ q_1 S'=>q_1=(0,[.slice a k k])/\Ap S3 none S' a k 82 6 (((l.take (j+1)).filter (aloneB it tr (winsV q).1)).flatMap Ev.cells):=λ e=>by
   unfold kq5v
   simp only [wps]
   rw [et,e,if_neg (by decide),List.append_nil]
   exact ha.more hp2
  have kyes:aloneB it tr (winsV q).1 l[j]=true->WP (kq5v ⟨a,k,k⟩ S4.length (0,[vB true])) (S4++[AObj.cells [vI l[j].it,vI l[j].tr,vI l[j].wi,vI l[j].ti,vI l[j].ad,vU l[j].ma] 82 none]) λ q_1 S'=>∃ b k',q_1=(0,[.slice b k' k'])/\Ap S3 none S' b k' 82 6 (((l.take (j+1)).filter (aloneB it tr (winsV q).1)).flatMap Ev.cells):=λ e=>by
   unfold kq5v
   simp only [wps,cell_blk hb,gcz,gcs]
   refine wp_push (ha.more hp2) rfl (by omega) (by omega) rfl ?_
   intro b' S5 h6
   simp only [wps]
   rw [et,if_pos e,List.flatMap_append]
   exact ⟨_,_,rfl,h6⟩
  have hA:aloneB it tr (winsV q).1 l[j]=(decide (l[j].it=it) && (decide (l[j].tr=tr) && (decide (0<=l[j].wi) && decide (l[j].wi < (winsV q).1)))):=rfl
  simp only [wps,d0,d1,d2,d3,d4,d5,cell_blk hb,gcz,gcs]
  rw [wI_ (n:=(j:Int)+1) (by omega) (by omega)]
  have kk:∀ b,aloneB it tr (winsV q).1 l[j]=b->WP (kq5v ⟨a,k,k⟩ S4.length (0,[vB b])) (S4++[AObj.cells [vI l[j].it,vI l[j].tr,vI l[j].wi,vI l[j].ti,vI l[j].ad,vU l[j].ma] 82 none]) λ a S'=>a.2.length=1/\WP (asS (a.2.headD topV)) S' λ a S'=>
   ∃ n',n' < ln-j/\∃ (j_1:Nat) (a_4:Option Addr) (k:Nat),[vS a.a a.n a.c,vI ((j:Int)+1)]=[Value.slice a_4 k k,vI (j_1:Int)]/\j_1<=ln/\n'=ln-j_1/\Ap S3 none S' a_4 k 82 6 (((l.take j_1).filter (aloneB it tr (winsV q).1)).flatMap Ev.cells):=by
   intro b hb
   cases b with
   | true=>
     refine (kyes hb).mono ?_
     rintro _ S5 ⟨b',k',rfl,h5⟩
     simp only [wps]
     exact ⟨ln-(j+1),by omega,j+1,_,_,rfl,by omega,rfl,h5⟩
   | false=>
     refine (kno hb).mono ?_
     rintro _ S5 ⟨rfl,h5⟩
     simp only [wps]
     exact ⟨ln-(j+1),by omega,j+1,_,_,rfl,by omega,rfl,h5⟩
  refine ⟨λ e1=>⟨λ e2=>⟨λ e3=>kk _ (by rw [hA,decide_eq_true e1,decide_eq_true e2,decide_eq_true e3]; rfl),λ e3=>kk _ (by rw [hA,decide_eq_false e3]; simp)⟩,λ e2=>kk _ (by rw [hA,decide_eq_false e2]; simp)⟩,λ e1=>kk _ (by rw [hA,decide_eq_false e1]; simp)⟩
 ·rw [List.take_of_length_le (by omega)] at ha hcnt
  have hown:=ha.ar (λ _=>rfl) (by decide)
  have p4:=p3.trans ha.pre
  have z4:=pre_get ha.pre z3
  have z42:=pre_get (k3.trans ha.pre) z2
  simp only [wps,cell_blk z4,gcz,gcs]
  refine (trun_w (c1:=c1) (c4:=c4) (c5:=c5) (it:=it) (tr:=tr) (lc:=lc) (h.mono p4) hc4 hX (hl.mono p4) (.inl (by omega)) hlk hlt).mono ?_
  rintro _ S5 ⟨k5,ya,fa,sa,rfl,hA5,hs5⟩
  have p5:=p4.trans k5
  have hp6:=List.prefix_append S5 [AObj.cells (trC (tryR q it tr l) ya fa sa) 70 none]
  have w6:=get_new (S:=S5) (o:=AObj.cells (trC (tryR q it tr l) ya fa sa) 70 none)
  have z6:=pre_get (k5.trans hp6) z4
  have hA6:=hA5.mono hp6
  have p6:=p5.trans hp6
  have hown6:=hown.mono (k5.trans hp6)
  simp only [wps,cell_blk z6,gcz,gcs]
  generalize S5++[AObj.cells (trC (tryR q it tr l) ya fa sa) 70 none]=S6 at hp6 w6 z6 hA6 p6 hown6 ⊢
  have hmem:∀ {x:Ev},x∈l.filter (aloneB it tr (winsV q).1)->x∈l:=λ hx=>(List.mem_filter.1 hx).1
  obtain ⟨t1,t2⟩:=try_alone (q:=q) (it:=it) (tr:=tr) (l:=l) (by omega)
  have hlf:=List.length_filter_le (aloneB it tr (winsV q).1) l
  refine (trun_w (c1:=c1) (c4:=c4) (c5:=c5) (it:=it) (tr:=tr) (lc:=k) (h.mono p6) hc4 hX hown6 (.inl (by omega)) (λ x hx=>hlk x (hmem hx)) (λ x hx=>hlt x (hmem hx))).mono ?_
  rintro _ S7 ⟨k7,yb,fb,sb,rfl,hA7,hs7⟩
  rw [<- hcnt] at t2
  rw [<- t1] at hA7 ⊢
  have hp8:=List.prefix_append S7 [AObj.cells (trC (tryR q it tr l) yb fb sb) 70 none]
  have w8:=get_new (S:=S7) (o:=AObj.cells (trC (tryR q it tr l) yb fb sb) 70 none)
  have v8:=pre_get (k7.trans hp8) w6
  have hA8:=hA7.mono hp8
  have hA68:=hA6.mono (k7.trans hp8)
  have p8:=p6.trans (k7.trans hp8)
  rw [<- t2,<- hln0]
  simp only [wps,cell_blk w8,cell_blk v8,gcz,gcs]
  generalize S7++[AObj.cells (trC (tryR q it tr l) yb fb sb) 70 none]=S8 at w8 v8 hA8 hA68 p8 ⊢
  have fin:WP (gq45 [vA (trC (tryR q it tr l) ya fa sa),vA (trC (tryR q it tr l) yb fb sb)]) S8 λ a S'=>WP (asB a) S' λ a S'=>S <+: S'/\vB a=vB true:=by
   refine (r20same_w hA68 hA8 hs5).use ?_
   rintro _ S9 k9 rfl
   simp only [wps]
   exact p8.trans k9
  refine ⟨λ _=>fin,λ e=>⟨λ _=>fin,λ e2=>absurd ?_ e2⟩⟩
  unfold winsV at e ⊢
  unfold tryE
  by_cases hc:checkV q=0
  ·rw [if_pos hc] at e;exact absurd rfl e
  ·rw [if_neg hc,if_pos hc]
end Go.AM
