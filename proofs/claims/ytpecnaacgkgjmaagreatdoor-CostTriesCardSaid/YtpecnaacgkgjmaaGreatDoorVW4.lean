/-
  Part of the proof of a law: what the functions compute. Conditions: none.
-/
import Derived.Test.YtpecnaacgkgjmaaGreatDoorVW3
import Derived.Test.YtpecnaacgkgjmaaGreatDoorVW1
set_option linter.unusedVariables false
set_option linter.unusedSectionVars false
set_option linter.unusedSimpArgs false
set_option linter.deprecated false
namespace Go.AM
open Go Go.Proofs.YtpecnaacgkgjmaaGreatDoor
def jsk (q:Req) (i:Int):List Int×Int:=if j7c q≠0 then ([],j7c q) else if 0<=i/\i<=q.batch-1 then (jsl q i,0) else ([],1)
theorem jsm {q:Req} (h:j7c q=0) {i:Int} (hi:0<=i/\i < q.batch):((jsl q i).length:Int)=nV q.axes/\(i+1)*nV q.axes<=q.X.length:=by
 obtain ⟨q1,q2,q3,q4,q5⟩:=j7d h
 have hn:=jxs q2
 have h1:(i+1)*nV q.axes<=q.batch*nV q.axes:=Int.mul_le_mul_of_nonneg_right (by omega) (by omega)
 rw [Int.mul_comm q.batch,<- q3] at h1
 have h2:(i+1)*nV q.axes=i*nV q.axes+nV q.axes:=by rw [Int.add_mul,Int.one_mul]
 have h3:0<=i*nV q.axes:=Int.mul_nonneg hi.1 (by omega)
 refine ⟨?_,h1⟩
 unfold jsl
 rw [List.length_take,List.length_drop]
 rw [h2] at h1
 generalize i*nV q.axes=B at h1 h3 ⊢
 omega
set_option maxRecDepth 20000 in
theorem jsn {S:St} {q:Req} {a1 a4 a5:Option Addr} {c1 c4 c5:Nat} (h:QA S q a1 a4 a5) (hc:q.X.length<=c4) (i:Int) :
 Sp (jl5 [qv q a1 c1 a4 c4 a5 c5,vI i]) S λ v S'=>∃ a c,v=vT [.slice a (jsk q i).1.length c,vI (jsk q i).2]/\Ar S' a (jsk q i).1.length 1 eU (jsk q i).1:=by
 unfold Sp
 rw [jl6]
 have hp:=List.prefix_append S [j00.cells (qc q a1 c1 a4 c4 a5 c5) 62 none]
 have z:=jek (S:=S) (o:=j00.cells (qc q a1 c1 a4 c4 a5 c5) 62 none)
 simp only [wps]
 generalize S++[j00.cells (qc q a1 c1 a4 c4 a5 c5) 62 none]=Y at hp z ⊢
 refine (j7f (c1:=c1) (c4:=c4) (c5:=c5) (h.mono hp)).use ?_
 rintro _ S1 k1 rfl
 have z1:=z1w k1 z
 have p1:=hp.trans k1
 unfold jsk
 simp only [wps,j6u z1,gcz,gcs,j5z]
 refine ⟨λ e=>?_,λ e=>?_⟩
 ·rw [if_pos e]; exact ⟨p1,none,0,rfl,.nil⟩
 rw [if_neg (λ n=>n e)]
 obtain ⟨q1,q2,q3,q4,q5⟩:=j7d e
 have hn:=jxs q2
 rw [wI_ (n:=q.batch-1) (by omega) (by omega)]
 refine ⟨λ e2=>?_,λ e2=>?_⟩
 ·rw [if_neg e2]; exact ⟨p1,none,0,rfl,.nil⟩
 rw [if_pos e2]
 obtain ⟨l1,l2⟩:=jsm e (i:=i) ⟨e2.1,by omega⟩
 have hb2:=h.b2
 have hdiv:((q.X.length:Int)).tdiv q.batch=nV q.axes:=by
  rw [q3,Int.mul_tdiv_cancel _ (by omega)]
 have hin:0<=i*nV q.axes:=Int.mul_nonneg e2.1 (by omega)
 have l3:i*nV q.axes+nV q.axes<=q.X.length:=by rw [Int.add_mul,Int.one_mul] at l2;exact l2
 rw [hdiv,wI_ (n:=nV q.axes) (by omega) (by omega),wI_ (n:=i*nV q.axes) (by omega) (by omega)]
 refine ⟨by omega,?_⟩
 refine j8e (h.x.mono p1) (λ _=>rfl) (by decide) hin (by omega) (Int.le_refl _) hc ?_
 intro a k hk ha
 dsimp only
 refine j8e ha (λ _=>rfl) (by decide) (Int.le_refl 0) (by omega) (by omega) hk ?_
 intro a2 k2 hk2 ha2
 have hit:jsl q i=((List.take ((q.X.length:Int).toNat-(i*nV q.axes).toNat) (q.X.drop (i*nV q.axes).toNat)).drop (0:Int).toNat).take ((nV q.axes).toNat-(0:Int).toNat):=by
  unfold jsl
  rw [show (0:Int).toNat=0 from rfl,List.drop_zero,Nat.sub_zero,List.take_take,Nat.min_eq_left (by omega)]
 rw [<- hit] at ha2
 have hnl:(nV q.axes).toNat-(0:Int).toNat=(jsl q i).length:=by rw [show (0:Int).toNat=0 from rfl]; omega
 rw [hnl] at ha2 hk2 ⊢
 dsimp only
 refine (j7l (c:=k2) ha2 (by omega)).mono ?_
 rintro _ S2 ⟨a3,rfl,ho⟩
 simp only [wps]
 exact ⟨p1.trans ho.1,a3,_,rfl,ho.ar⟩
theorem zct {S:St} {la ca:Option Addr} {ln lc cc:Nat} {l:List Ev} {c:List Int} {it tr words:Int} (hl:Ar S la ln 6 Ev.cells l) (hln:ln<=900) (hlk:∀ x∈l,Go.Proofs.YtpecnaacgkgjmaaGreatDoor.u64r x.ma) (hlt:∀ x∈l,x.ti<=9223372036854775807)
 (hc:Ar S ca c.length 1 eU c) (hcu:∀ y∈c,Go.Proofs.YtpecnaacgkgjmaaGreatDoor.u64r y) (hw:1<=words/\words<=16384) (hcw:(c.length:Int)<=words) :
 WP (jp7 [vI words,.slice ca c.length cc,vI it,vI tr,.slice la ln lc]) S λ v S'=>∃ rb b T,v=vT [.pointer (some ⟨rb,0,none⟩),vI 0]/\S <+: S'/\S.length<=rb/\(∀ i∈T,S.length<=i) /\
  RS la ln lc it tr S' (fpR rb T none none) S' rb b T ⟨(juh ⟨List.replicate words.toNat 0,ofS l it tr 0,0,0⟩ c 0).2,0,[],[],[]⟩ none none none:=by
 have hln0:=hl.1
 rw [jp8]
 simp only [wps]
 refine (jya (c:=lc) (it:=it) (tr:=tr) (wi:=0) hl hln).mono ?_
 rintro _ S1 ⟨oa,rfl,ho⟩
 have hoa:=ho.ar (λ _=>rfl) (by decide)
 have hol:=jy9 l it tr 0
 simp only [wps]
 refine (jy0 (c:=(ofS l it tr 0).length) hoa (by omega) (λ x hx=>hlk x (jws hx)) (λ x hx=>hlt x (jws hx)) hw).mono ?_
 rintro _ S2 ⟨b,rfl,k2,m2⟩
 simp only [wps]
 have hT:∀ i∈jxy S1 S2,S.length<=i:=λ i hi=>by have:=(jxz.1 hi).2;have:=ho.pre.length_le;omega
 have hp3:=List.prefix_append S2 [j00.cells (rC false none 0 none 0 none 0 0 b la ln lc it tr 0) 172 none]
 have z3:=jek (S:=S2) (o:=j00.cells (rC false none 0 none 0 none 0 0 b la ln lc it tr 0) 172 none)
 have m3:=m2.pre hp3
 have hp:=(ho.pre.trans k2).trans hp3
 have hS2:=(ho.pre.trans k2).length_le
 refine WP.mono (m:=jpv [vP (some ⟨b,0,none⟩),vS ca c.length cc,vI 0]) (S:=S2++[j00.cells (rC false none 0 none 0 none 0 0 b la ln lc it tr 0) 172 none]) ?_ ?_ (Q:=λ v S'=>v=vI 0/\Kp (jxy S1 S2) (S2++[j00.cells (rC false none 0 none 0 none 0 0 b la ln lc it tr 0) 172 none]) S'/\MS S' b (juh ⟨List.replicate words.toNat 0,ofS l it tr 0,0,0⟩ c 0).2 (jxy S1 S2))
 ·refine (juq (m:=⟨List.replicate words.toNat 0,ofS l it tr 0,0,0⟩) (a:=0) m3 (hc.mono hp) (λ y e hne hm=>?_) hcu ⟨Int.le_refl _,by show (0:Int) < _;omega⟩ (by omega)).mono ?_
  ·have h1:y.block < S.length:=hc.low (λ x=>⟨_,rfl⟩) hne y e
   have:=hT _ hm;omega
  ·rintro _ S4 ⟨rfl,k4,m4⟩
   refine ⟨?_,k4,m4⟩
   rw [(jup (m:=⟨List.replicate words.toNat 0,ofS l it tr 0,0,0⟩) (l:=c) (a:=0) (jra (w:=words.toNat) (by simp) ⟨by omega,by omega,by omega⟩)).1]
 ·rintro _ S4 ⟨rfl,k4,m4⟩
  simp only [wps]
  have hn:S2.length∉jxy S1 S2:=λ hm=>by have:=(jxz.1 hm).1;omega
  have z4:=k4.get z3 hn
  exact ⟨S2.length,b,jxy S1 S2,rfl,k4.low hT hp (Nat.le_refl _),hS2,hT,⟨.refl,z4,m4,.nil,λ e=>absurd rfl e,.nil,.nil,hn,λ i hi=>(by cases hi),λ i hi=>(by cases hi),λ x hx=>(by cases hx)⟩⟩
theorem j2n {S:St} {b:Nat} {m:Mm} {T:List Nat} (h:MS S b m T) (ht:0<=m.t/\m.t < 4611686018427387904) (hah:0<=m.ah/\m.ah < 4611686018427387904):Gv (jjn [.pointer (some ⟨b,0,none⟩)]) S (vI (m.ah+m.t)):=by
 obtain ⟨bw,ba,aq,q,g,e1,e2,_⟩:=h.ex
 refine .of ?_
 rw [jjo]
 simp only [wps,j6u e1,gcz,gcs,Option.isNone_some]
 rw [wI_ (by omega) (by omega)]
abbrev trC (t:Tr) (ya fa sa:Option Addr):List Value:=[vB t.ok,.slice ya t.Y.length t.Y.length,.slice fa t.fx.length t.fx.length,.slice sa t.sl.length t.sl.length,vI t.ticks]
structure TrA (S:St) (it tr:Int) (t:Tr) (ya fa sa:Option Addr):Prop where
 y:Ar S ya t.Y.length 1 eU t.Y
 fx:Ar S fa t.fx.length 6 (jah it tr) t.fx
 sl:Ar S sa t.sl.length 4 (jai it tr) t.sl
 ne:∀ x∈t.fx,x.2.bad≠x.2.good
theorem TrA.mono {S S':St} {it tr:Int} {t:Tr} {ya fa sa:Option Addr} (h:TrA S it tr t ya fa sa) (k:S <+: S'):TrA S' it tr t ya fa sa:=⟨h.y.mono k,h.fx.mono k,h.sl.mono k,h.ne⟩
structure TrS (t:Tr):Prop where
 y:t.Y.length<=4096
 fx:t.fx.length<=1000000
 sl:t.sl.length<=1000000
 tk:0<=t.ticks/\t.ticks<=100000000000
theorem TrA.nil {S:St} {it tr:Int}:TrA S it tr ⟨false,[],[],[],0⟩ none none none:=⟨.nil,.nil,.nil,λ x hx=>by cases hx⟩
set_option maxHeartbeats 4000000 in
set_option maxRecDepth 20000 in
theorem zdp {S:St} {q:Req} {a1 a4 a5 la:Option Addr} {c1 c4 c5 ln lc:Nat} {it tr:Int} {l:List Ev} (h:QA S q a1 a4 a5) (hc4:q.X.length<=c4) (hX:∀ x∈q.X,0<=x)
 (hl:Ar S la ln 6 Ev.cells l) (hln:ln<=900\/1024 < ln) (hlk:∀ x∈l,Go.Proofs.YtpecnaacgkgjmaaGreatDoor.u64r x.ma) (hlt:∀ x∈l,x.ti<=9223372036854775807) :
 WP (jp1 [qv q a1 c1 a4 c4 a5 c5,vI it,vI tr,.slice la ln lc]) S λ v S'=>S <+: S'/\∃ ya fa sa,v=vT [vA (trC (zdr q it tr l) ya fa sa),vI (zdq q it tr ln)]/\TrA S' it tr (zdr q it tr l) ya fa sa/\TrS (zdr q it tr l):=by
 have hln0:=hl.1
 rw [jp2]
 have hp:S <+: S++[j00.cells (qc q a1 c1 a4 c4 a5 c5) 62 none,j00.cells [vB false,.slice none 0 0,.slice none 0 0,.slice none 0 0,vI 0] 70 none]:=List.prefix_append _ _
 have z:(S++[j00.cells (qc q a1 c1 a4 c4 a5 c5) 62 none,j00.cells [vB false,.slice none 0 0,.slice none 0 0,.slice none 0 0,vI 0] 70 none])[S.length]? = some (j00.cells (qc q a1 c1 a4 c4 a5 c5) 62 none):=gA0
 have y:(S++[j00.cells (qc q a1 c1 a4 c4 a5 c5) 62 none,j00.cells [vB false,.slice none 0 0,.slice none 0 0,.slice none 0 0,vI 0] 70 none])[S.length+1]? = some (j00.cells [vB false,.slice none 0 0,.slice none 0 0,.slice none 0 0,vI 0] 70 none):=gA1
 simp only [wps,List.append_assoc,List.cons_append,List.nil_append,List.length_append,List.length_cons,List.length_nil,Nat.zero_add,Nat.reduceAdd,j6u z,j6u y,gcz,gcs]
 generalize S++[j00.cells (qc q a1 c1 a4 c4 a5 c5) 62 none,j00.cells [vB false,.slice none 0 0,.slice none 0 0,.slice none 0 0,vI 0] 70 none]=Y at hp z y ⊢
 refine (j7f (c1:=c1) (c4:=c4) (c5:=c5) (h.mono hp)).use ?_
 rintro _ S1 k1 rfl
 have z1:=z1w k1 z
 have y1:=z1w k1 y
 have p1:=hp.trans k1
 have y1l:=z1y y1
 have bad:∀ e:Int,zdq q it tr ln=e->e≠0->∀ S',S <+: S'->(S <+: S'/\∃ ya fa sa,vT [vA [vB false,.slice none 0 0,.slice none 0 0,.slice none 0 0,vI 0],vI e]=vT [vA (trC (zdr q it tr l) ya fa sa),vI (zdq q it tr ln)]/\TrA S' it tr (zdr q it tr l) ya fa sa/\TrS (zdr q it tr l)):=by
  intro e he hne S' hS
  have : zdr q it tr l=⟨false,[],[],[],0⟩:=by unfold zdr;rw [<- hln0,if_neg (by rw [he]; exact hne)]
  rw [this,he]
  exact ⟨hS,none,none,none,rfl,TrA.nil,⟨by simp,by simp,by simp,by simp⟩⟩
 have setp:∀ (S':St) (o:j00),S <+: S'->S.length+1 < S'.length->S <+: S'.set (S.length+1) o:=λ S' o k hl=>z24 k (by omega)
 simp only [wps,y1,j6u z1,gcz,gcs,List.drop_succ_cons,List.drop_zero,List.drop_nil]
 have kbad:∀ (a:Sl) (S':St),S'[S.length+1]? = some (j00.cells [vB false,.slice none 0 0,.slice none 0 0,.slice none 0 0,vI 0] 70 none)->S <+: S'->zdq q it tr ln=1 ->
  WP (jtv it tr la ln lc S.length (S.length+1) a (1,[vI 1])) (S'.set (S.length+1) (j00.cells [vB false,.slice none 0 0,.slice none 0 0,.slice none 0 0,vI 0] 70 none)) λ a S'=>WP (jzc a) S' λ v S'=>S <+: S'/\∃ ya fa sa,v=vT [vA (trC (zdr q it tr l) ya fa sa),vI (zdq q it tr ln)]/\TrA S' it tr (zdr q it tr l) ya fa sa/\TrS (zdr q it tr l):=by
  intro a S' hy hS he
  have hl':=z1y hy
  unfold jtv
  simp only [wps,j6u (List.getElem?_set_self hl'),gcz,gcs]
  exact bad 1 he (by decide) _ (setp S' _ hS hl')
 refine ⟨λ e=>?_,λ e=>?_⟩
 ·simp only [wps,j6u (List.getElem?_set_self y1l),gcz,gcs]
  exact bad _ (by unfold zdq;rw [if_pos e]) e _ (setp S1 _ p1 y1l)
 refine (jsn (c1:=c1) (c4:=c4) (c5:=c5) (h.mono p1) hc4 it).use ?_
 rintro _ S2 k2 ⟨xa,xc,rfl,hx⟩
 have p2:=p1.trans k2
 have z2:=z1w k2 z1
 have y2:=z1w k2 y1
 have hE:zdq q it tr ln=if 0<=it/\it < q.batch/\0<=tr/\tr<=q.again/\ln<=1024 then 0 else 1:=by unfold zdq;rw [if_neg (λ n=>n e)]
 have hI:jsk q it=if 0<=it/\it<=q.batch-1 then (jsl q it,0) else ([],1):=by unfold jsk;rw [if_neg (λ n=>n e)]
 simp only [wps,y2,j6u z2,gcz,gcs,List.drop_succ_cons,List.drop_zero,List.drop_nil,z7m.wp]
 obtain ⟨q1,q2,q3,q4,q5⟩:=j7d e
 by_cases hit:0<=it/\it<=q.batch-1
 rotate_left
 ·rw [if_neg hit] at hI
  rw [hI] at hx ⊢
  have he:zdq q it tr ln=1:=by rw [hE,if_neg (by omega)]
  exact ⟨λ _=>kbad _ S2 y2 p2 he,λ e=>absurd e (by decide)⟩
 rw [if_pos hit] at hI
 rw [hI] at hx ⊢
 refine ⟨λ e=>absurd rfl e,λ _=>⟨λ e3=>kbad _ S2 y2 p2 (by rw [hE,if_neg (by omega)]),λ e3=>⟨λ e4=>kbad _ S2 y2 p2 (by rw [hE,if_neg (by omega)]),λ e4=>⟨λ e5=>kbad _ S2 y2 p2 (by rw [hE,if_neg (λ h=>e5 (by rw [if_neg (by omega)]))]),λ e5=>?_⟩⟩⟩⟩
 have hl1024:ln<=1024:=by
  refine Decidable.byContradiction λ hn=>?_
  rw [if_pos (by omega)] at e5;exact absurd e5 (by decide)
 have hln9:ln<=900:=by omega
 have he0:zdq q it tr ln=0:=by rw [hE,if_pos ⟨hit.1,by omega,by omega,by omega,hl1024⟩]
 have hTR:zdr q it tr l=⟨(zds q it tr l).1,(zds q it tr l).2.Y,(zds q it tr l).2.fx,(zds q it tr l).2.sl,(zds q it tr l).2.m.ah+(zds q it tr l).2.m.t⟩:=by unfold zdr;rw [<- hln0,if_pos he0]
 obtain ⟨f1,f2,f3,f4⟩:=j83 q2
 obtain ⟨hk,hal,hall⟩:=jqn q2
 obtain ⟨hst,hsl⟩:=zb4 (λ a ha=>(hall a ha).1) q.inv
 have hn:=jxs q2
 have hmk:=jx8 (p:=q.P) (l:=q.axes) q.inv q2 (zau q.inv 0 q.axes) 0 hst (by omega) (by omega)
 have hmg:=jx9 (p:=q.P) (l:=q.axes) (inv:=q.inv) (zau q.inv 0 q.axes) 0
 have hM:jwd q.P q.axes q.inv=(⟨nV q.axes,jx7 q.P q.axes q.inv 0 (zau q.inv 0 q.axes),2*(nV q.axes+6)+jx7 q.P q.axes q.inv 0 (zau q.inv 0 q.axes),zau q.inv 0 q.axes⟩,0):=by unfold jwd;rw [if_pos q2]
 have hT0:zds q it tr l=j2g (zdk q) (ofS l it tr) (zau q.inv 0 q.axes) 0 0 (nV q.axes+6) ⟨m0T q.P (2*(nV q.axes+6)+jx7 q.P q.axes q.inv 0 (zau q.inv 0 q.axes)) (jsl q it) (ofS l it tr 0),0,[],[],[]⟩:=by unfold zds;rw [hM]
 obtain ⟨il,il2⟩:=jsm e (i:=it) ⟨hit.1,by omega⟩
 have hinP:∀ y∈jsl q it,inP q.P y:=λ y hy=>by
  have hm:y∈q.X:=List.mem_of_mem_drop (List.mem_of_mem_take hy)
  refine ⟨hX y hm,?_⟩
  unfold inV at q4
  rw [Bool.and_eq_true] at q4
  simpa using List.all_eq_true.1 q4.1 y hm
 have hkp:=jt7 hk
 unfold jtv
 simp only [wps,j6u z2,gcz,gcs]
 refine (jwf (c:=c1) (h.ax.mono p2) h.b1 q.inv).use ?_
 rintro _ S3 k3 ⟨ta,rfl,hG⟩
 have p3:=p2.trans k3
 have z3:=z1w k3 z2
 have y3:=z1w k3 y2
 rw [hM] at hG ⊢
 generalize hmm:jx7 q.P q.axes q.inv 0 (zau q.inv 0 q.axes)=mm at hmk hmg hT0 hG ⊢
 generalize hGG:zau q.inv 0 q.axes=G at hst hsl hmg hT0 hG f3 ⊢
 dsimp only at hG ⊢
 have hp4:=List.prefix_append S3 [j00.cells [vI (nV q.axes),vI mm,vI (2*(nV q.axes+6)+mm),.slice ta G.length G.length] 90 none]
 have w4:=jek (S:=S3) (o:=j00.cells [vI (nV q.axes),vI mm,vI (2*(nV q.axes+6)+mm),.slice ta G.length G.length] 90 none)
 simp only [wps]
 generalize S3++[j00.cells [vI (nV q.axes),vI mm,vI (2*(nV q.axes+6)+mm),.slice ta G.length G.length] 90 none]=S4 at hp4 w4 ⊢
 have p4:=p3.trans hp4
 have z4:=z1w hp4 z3
 have y4:=z1w hp4 y3
 simp only [wps,j6u z4,List.getElem?_cons_zero]
 refine (j7o (c:=xc) hk (hx.mono (k3.trans hp4)) (by dsimp only;omega) (by dsimp only;omega) hinP).mono ?_
 rintro _ S5 ⟨cb,rfl,nw⟩
 have p5:=p4.trans nw.p
 have z5:=z1w nw.p z4
 have y5:=z1w nw.p y4
 have w5:=z1w nw.p w4
 have hcl:(jsl q it++z97 (zbu q.P (jsl q it))).length=(jsl q it).length+6:=by rw [List.length_append]; rfl
 have hca:=nw.ar
 have hs6:=zbw hk (jsl q it)
 simp only [wps,j6u w5,gcz,gcs]
 rw [<- hcl]
 refine (zct (cc:=(jsl q it++z97 (zbu q.P (jsl q it))).length) (it:=it) (tr:=tr) (words:=2*(nV q.axes+6)+mm) (hl.mono p5) hln9 hlk hlt hca (λ y hy=>?_) ⟨by omega,by omega⟩ (by rw [hcl]; omega)).mono ?_
 ·rcases List.mem_append.1 hy with hy | hy
  ·have:=hinP y hy;exact ⟨this.1,by have:=this.2;omega⟩
  ·have h1:=hs6.1;have h2:=hs6.2
   unfold z97 at hy
   simp only [List.mem_cons,List.not_mem_nil,or_false] at hy
   rcases hy with rfl | rfl | rfl | rfl | rfl | rfl
   all_goals first | exact ⟨h1.1,by have:=h1.2;omega⟩ | exact ⟨h2.1,by have:=h2.2;omega⟩
 rintro _ S6 ⟨rb,b,T,rfl,k6,hrb,hTb,hrs⟩
 have p6:=p5.trans k6
 have z6:=z1w k6 z5
 have y6:=z1w k6 y5
 have w6:=z1w k6 w5
 have low6:∀ j,j < S5.length->j∉fpR rb T none none:=λ j hj hm=>by
  rcases List.mem_cons.1 hm with rfl | hm
  ·omega
  ·rcases List.mem_append.1 hm with hm | hm
   ·have:=hTb _ hm;omega
   ·cases hm
 have hl5:=p5.length_le
 have sl:∀ {β:Type} {e:β->List Value} {m:List β} {pp:Option Addr} {n w:Nat},Ar S5 pp n w e m->(∀ x,∃ v,(e x)[0]? = some v)->m≠[]->∀ y,pp=some y->y.block∉fpR rb T none none:=λ ha hf hne y hy=>low6 _ (ha.low hf hne y hy)
 simp only [wps,j6u z6,j6u w6,gcz,gcs]
 have hlt0:(juh ⟨List.replicate (2*(nV q.axes+6)+mm).toNat 0,ofS l it tr 0,0,0⟩ (jsl q it++z97 (zbu q.P (jsl q it))) 0).2=m0T q.P (2*(nV q.axes+6)+mm) (jsl q it) (ofS l it tr 0):=rfl
 have hla:=jup (m:=⟨List.replicate (2*(nV q.axes+6)+mm).toNat 0,ofS l it tr 0,0,0⟩) (l:=jsl q it++z97 (zbu q.P (jsl q it))) (a:=0) (jra (w:=(2*(nV q.axes+6)+mm).toNat) (by simp) ⟨by omega,by omega,by omega⟩)
 have hlah:=jui ⟨List.replicate (2*(nV q.axes+6)+mm).toNat 0,ofS l it tr 0,0,0⟩ (jsl q it++z97 (zbu q.P (jsl q it))) 0
 rw [hlt0] at hrs hla hlah
 have hla3:=hla.2.2
 have hla2:=hla.2.1
 dsimp only at hla3 hlah
 rw [List.length_replicate] at hla2
 refine (j2r (w:=(2*(nV q.axes+6)+mm).toNat) (tc:=G.length) (c1:=c1) (c4:=c4) (c5:=c5) (a4:=a4) (a5:=a5) (TT:=mm) (W:=2*(nV q.axes+6)+mm) hrs (hl.mono p6) (sl (hl.mono p5) (λ x=>⟨_,rfl⟩)) hln9 hlk hlt (h.ax.mono p6) (λ y e hne=>sl (h.ax.mono p5) (λ x=>⟨_,rfl⟩) hne y e) h.b1 (hG.mono ((hp4.trans nw.p).trans k6)) (sl (hG.mono (hp4.trans nw.p)) (λ x=>⟨_,rfl⟩))
  (λ st hs=>⟨zao _ _ _ q2 (hst st hs),by have:=hmg.2 st hs;omega⟩) hk hn (by omega) ⟨by omega,by omega⟩ rfl ⟨⟨by dsimp only;omega,by dsimp only;omega⟩,⟨by dsimp only;omega,by dsimp only;omega⟩,Int.le_refl _,by simp,by simp,Nat.zero_le _⟩ hla2 (by dsimp only;omega)).mono ?_
 rintro _ S7 ⟨rfl,T7,ya,fa,sa,ke,hB,hw7,hwin7⟩
 rw [<- hT0] at ke hB hw7 hwin7
 rw [hTR,he0]
 generalize zds q it tr l=V at ke hB hw7 hwin7 ⊢
 obtain ⟨bt1,bt2⟩:=hB.t
 obtain ⟨ba1,ba2⟩:=hB.ah
 have hl6:=k6.length_le
 have y5l:=z1y y5
 have z5l:=z1y z5
 have ny1:S.length+1∉fpR rb T none none:=low6 _ y5l
 have y7:=ke.mo.get y6 ny1
 have hny:S.length+1∉fpR rb T7 fa sa:=ke.mo.out ny1 (by omega)
 have hyb:V.2.Y≠[]->∀ y,ya=some y->y.block≠S.length+1:=by
  intro hne y e hb
  obtain ⟨bb,o,e2⟩:=ke.y.spot (λ _=>rfl) (by decide) hne
  rw [e2] at e;cases e
  dsimp only at hb
  subst hb
  obtain ⟨a,g1,g2⟩:=ke.y.2 0 (List.length_pos_iff.2 hne)
  rw [e2] at g1;cases g1
  have g3:=g2 0 _ rfl
  simp only [j23,Nat.zero_mul,Nat.add_zero] at g3
  rw [j6u y7] at g3
  match o,g3 with
  | 0,g3=>cases g3
  | 1,g3=>cases g3
  | 2,g3=>cases g3
  | 3,g3=>cases g3
  | 4,g3=>cases g3
  | n+5,g3=>cases g3
 have hr7:=ke.r
 have r7l:=z1y hr7
 have y7l:=z1y y7
 have hne:rb≠S.length+1:=by omega
 have hS7:S <+: S7:=ke.mo.low p6 λ i hi=>by
  rcases List.mem_cons.1 hi with rfl | hi
  ·omega
  ·rcases List.mem_append.1 hi with hi | hi
   ·have:=hTb _ hi;omega
   ·cases hi
 simp only [wps,j6u hr7,z3w,(j2n ke.ms ⟨bt1,by omega⟩ ⟨ba1,by omega⟩).wp,hr7,z41,z45,Nat.reduceAdd,Nat.reduceLeDiff]
 have w7:(S7.set rb (j00.cells (rC V.1 ya V.2.Y.length fa V.2.fx.length sa V.2.sl.length (V.2.m.ah+V.2.m.t) b la ln lc it tr V.2.win) 172 none))[rb]? = _:=List.getElem?_set_self r7l
 have v7:(S7.set rb (j00.cells (rC V.1 ya V.2.Y.length fa V.2.fx.length sa V.2.sl.length (V.2.m.ah+V.2.m.t) b la ln lc it tr V.2.win) 172 none))[S.length+1]? = _:=(List.getElem?_set_ne hne).trans y7
 have x7:=λ o:j00=>List.getElem?_set_self (l:=S7.set rb (j00.cells (rC V.1 ya V.2.Y.length fa V.2.fx.length sa V.2.sl.length (V.2.m.ah+V.2.m.t) b la ln lc it tr V.2.win) 172 none)) (i:=S.length+1) (a:=o) (by rw [List.length_set]; exact y7l)
 simp only [wps,j6u w7,z3r,z3s,z3t,z3u,z3v,v7,List.drop_succ_cons,List.drop_zero,List.drop_nil,j6u (x7 _),gcz,gcs]
 have kp:∀ (o o':j00) (j:Nat),j≠rb->j≠S.length+1->((S7.set rb o).set (S.length+1) o')[j]? = S7[j]?:=λ o o' j h1 h2=>by rw [List.getElem?_set_ne (Ne.symm h2),List.getElem?_set_ne (Ne.symm h1)]
 have oF:∀ (o o':j00),Own 0 ((S7.set rb o).set (S.length+1) o') fa 80 6 (V.2.fx.flatMap (jah it tr)):=λ o o'=>ke.fx.keep λ i e=>by
  have hi:=jwp.2 ⟨_,e,rfl⟩
  refine kp o o' i (ke.nf i hi).2 λ e2=>hny ?_
  rw [<- e2]; exact List.mem_cons_of_mem _ (List.mem_append_right _ (List.mem_append_left _ hi))
 have oS:∀ (o o':j00),Own 0 ((S7.set rb o).set (S.length+1) o') sa 76 4 (V.2.sl.flatMap (jai it tr)):=λ o o'=>ke.sl.keep λ i e=>by
  have hi:=jwp.2 ⟨_,e,rfl⟩
  refine kp o o' i (ke.ns i hi).2.1 λ e2=>hny ?_
  rw [<- e2]; exact List.mem_cons_of_mem _ (List.mem_append_right _ (List.mem_append_right _ hi))
 refine ⟨z24 (z24 hS7 (by omega)) (by omega),ya,fa,sa,rfl,⟨?_,(oF _ _).ar (λ _=>rfl) (by decide),(oS _ _).ar (λ _=>rfl) (by decide),ke.ne⟩,⟨hB.yl,by have:=hB.fx;dsimp only;omega,by have:=hB.sl;dsimp only;omega,by dsimp only;omega⟩⟩
 by_cases hY:V.2.Y=[]
 ·show Ar _ ya V.2.Y.length 1 eU V.2.Y
  rw [hY]; exact ⟨rfl,λ i hi=>absurd hi (by simp)⟩
 ·exact ke.y.keepL λ y e=>kp _ _ _ (λ e2=>ke.ny hY y e (by rw [e2]; exact List.mem_cons_self)) (hyb hY y e)
theorem z30 {p:Int} {inv tw:Bool} {src dst tab:Int}:∀ (gs:List GrN) (st:Mm×List Int),st.1.ok->(gs.foldl (z0f p inv tw src dst tab) st).1.ok
 | [], st, h => h
 | g :: gs, st, h => by
   rw [List.foldl_cons]
   refine z30 gs _ ?_
   unfold z0f
   dsimp only
   refine Mm.ok.wrs _ (Mm.ok.rds _ (Mm.ok.rds _ h).1).1 λ x hx=>?_
   have h2:=(List.of_mem_zip hx).2
   rw [List.mem_iff_getElem] at h2
   obtain ⟨i,hi,e⟩:=h2
   rw [List.getElem_zipWith] at e
   rw [<- e]
   have:=jxh p
   exact ⟨(this _ _).1,by have:=(this ((gyV p inv tw ((st.1.rds (jyb src g.i)).1.map (red p)))[i]'(by simp at hi;omega)) (((st.1.rds (jyb src g.i)).2.rds (jyb tab g.f)).1[i]'(by simp at hi;omega))).2;omega⟩
theorem z0o {m:Mm} (h:m.ok) (p:Int) (l:List Ax) (inv:Bool) (s:Stp) (src dst tab:Int):(z0h m p l inv s src dst tab).2.ok:=by
 have hf:=z0j (m:=m) (p:=p) (l:=l) (inv:=inv) (s:=s) (src:=src) (dst:=dst) (tab:=tab)
 unfold z0h at hf ⊢
 split
 ·rename_i hs
  rw [if_pos hs] at hf
  split
  ·rename_i hc
   rw [if_pos hc] at hf
   dsimp only at hf ⊢
   rcases hf with hf | hf
   ·exact absurd rfl hf.1
   ·obtain ⟨_,_,_,i1,i2,_⟩:=hf
    have hk:=zaq hs
    refine Mm.ok.wrs _ (z30 _ _ h) λ x hx=>?_
    have h2:=(List.of_mem_zip hx).2
    unfold z97 at h2
    simp only [List.mem_cons,List.not_mem_nil,or_false] at h2
    rcases h2 with e | e | e | e | e | e <;> rw [e] <;> first | exact zei hk i1 | exact zei hk i2
  ·exact h
 ·exact h
theorem z7t {m:Mm} (h:m.ok) (p n a:Int):(z7o m p n a).2.ok:=by
 unfold z7o
 split
 ·exact h
 ·rename_i hk
  have hk:jt3 p=true:=by simpa using hk
  split
  ·exact h
  ·dsimp only
   obtain ⟨r1,r2⟩:=Mm.ok.rds (z6b a (n.toNat+6)) h
   split
   ·exact r1
   ·rename_i hz
    refine Mm.ok.wrs _ r1 λ x hx=>?_
    obtain ⟨f,hf,rfl⟩:=List.mem_map.1 hx
    obtain ⟨g,hg,rfl⟩:=List.mem_map.1 hf
    have hz0:(jcg p (m.rds (z6b a (n.toNat+6))).1).2=0:=by
     refine Decidable.byContradiction λ hn=>hz hn
    obtain ⟨x,_,g1,g2,g3,g4,g5,g6,g7,g8⟩:=jcl (p:=p) (c:=(m.rds (z6b a (n.toNat+6))).1) (λ y hy=>(r2 y hy).1) (good:=(jcg p (m.rds (z6b a (n.toNat+6))).1).1.1) (fx:=(jcg p (m.rds (z6b a (n.toNat+6))).1).1.2) (Prod.ext rfl hz0)
    exact zei hk (g7 g hg).2.2
theorem jun {m:Mm} (h:m.ok) {l:List Int} (hl:∀ y∈l,Go.Proofs.YtpecnaacgkgjmaaGreatDoor.u64r y) (a:Int):(juh m l a).2.ok:=by
 unfold juh
 split
 ·exact Mm.ok.wrs _ h λ x hx=>hl _ (List.of_mem_zip hx).2
 ·exact h
theorem z9p {m:Mm} (h:m.ok) (p n a:Int) (s:Int×Int):(z9m m p n a s).2.ok:=by
 unfold z9m
 split
 ·exact h
 ·split
  ·exact h
  ·exact (Mm.ok.rds _ h).1
theorem jrj {m:Mm} (h:m.ok) (l:List Int) (a:Int):(jrg m l a).2.ok:=by
 unfold jrg
 split
 ·exact (Mm.ok.rds _ h).1
 ·exact h
theorem ze7 {m:Mm} (h:m.ok) (p:Int) (l:List Ax) (inv:Bool) (s:Stp) (src dst tab:Int):(ze2 m p l inv s src dst tab).2.ok:=by
 unfold ze2
 split
 ·exact h
 ·rename_i hs
  have hk:=zaq (Decidable.byContradiction λ hn=>hs hn)
  split
  ·dsimp only
   split
   ·exact z7t h _ _ _
   ·exact z9p (jrj (z9p (z0o (jun (z7t h _ _ _) (λ y hy=>zei hk (zcf hk y hy)) _) _ _ _ _ _ _ _) _ _ _ _) _ _) _ _ _ _
  ·exact h
theorem jzs {m:Mm} (hL:m.L=[]) (hm:m.ok) {p:Int} {d n:Nat} {x:List Int} (hk:jt3 p=true) (hn:1<=n/\n<=4096) (hl:d+n+6<=m.W.length) (hc:(m.W.drop d).take (n+6)=x++sx (zbu p x)) (hxi:∀ y∈x,inP p y) (hxl:x.length=n) :
 (jzo m p n d).1=((x,(true,[])),0):=by
 have hf:=jck hk hxi (by omega)
 rw [<- hc] at hf
 obtain ⟨s1,s2,s3,s4,s5⟩:=z7s hL hk hn hl (λ y hy=>(hm.w y hy).1) hf
 have hx3:(x++sx (zbu p x)).getD n 0=(zbu p x).1/\(x++sx (zbu p x)).getD (n+3) 0=(zbu p x).2:=by
  rw [List.getD_eq_getElem?_getD,List.getD_eq_getElem?_getD,List.getElem?_append_right (by omega),List.getElem?_append_right (by omega),show n-x.length=0 by omega,show n+3-x.length=3 by omega]
  exact ⟨rfl,rfl⟩
 rw [hc,hx3.1,hx3.2] at s1
 unfold jzo
 dsimp only
 rw [s1]
 dsimp only
 rw [if_neg (by decide),if_neg (by decide),Int.toNat_natCast,z6g s2 (by omega)]
 have hw:((z7o m p n d).2.W.drop d).take n=x:=by
  have:=congrArg (List.take n) s4
  rw [List.take_take,Nat.min_eq_left (by omega),hc,List.take_left' hxl] at this
  exact this
 dsimp only
 rw [hw,if_pos (by
  unfold j2a
  rw [hk,decide_eq_true rfl,decide_eq_true (show x.length<=4096 by omega),decide_eq_true (λ y hy=>(hxi y hy).2)]; rfl)]
 rfl
def doV (c:TP) (x:List Int) (st:Stp):List Int:=doG c.p c.inv st.tw (nV c.ax).toNat (jqs c.ax st) (zcd c.p c.ax c.inv st) x
structure QT (c:TP) (w src:Nat) (x:List Int) (s:Ts):Prop where
 L:s.m.L=[]
 ok:s.m.ok
 len:s.m.W.length=w
 win:(s.m.W.drop src).take ((nV c.ax).toNat+6)=x++sx (zbu c.p x)
 xi:∀ y∈x,inP c.p y
 xl:x.length=(nV c.ax).toNat
theorem jy7 (m:Mm) (hL:m.L=[]):m.nxt []=⟨m.W,[],0,m.ah+m.t⟩:=by unfold Mm.nxt;rw [hL]; rfl
structure PQ (c:TP) (w:Nat) (st:Stp) (src dst:Nat):Prop where
 s0:zam c.p c.ax st=0
 s1:src+(nV c.ax).toNat+6<=w
 d1:dst+(nV c.ax).toNat+6<=w
 dj:dst+(nV c.ax).toNat+6<=src\/src+(nV c.ax).toNat+6<=dst
 s2:src+(nV c.ax).toNat+6<=2*((nV c.ax).toNat+6)
 d2:dst+(nV c.ax).toNat+6<=2*((nV c.ax).toNat+6)
 tb:2*((nV c.ax).toNat+6)+(zcd c.p c.ax c.inv st).length<=w
theorem z3i {c:TP} {w src dst:Nat} {st:Stp} {x:List Int} {s:Ts} (h:QT c w src x s) (hp:PQ c w st src dst) {of:Int->List Ev} (hof:∀ w,of w=[]) {i:Int} {k:Nat} :
 ∃ s1,zf4 (doF c st src dst) of i (k+1) s=(true,s1)/\QT c w dst (doV c x st) s1/\s1.Y=[]/\s1.fx=s.fx/\s1.sl=s.sl/\s1.m.ah+s1.m.t=s.m.ah+s.m.t+j82 c st:=by
 obtain ⟨kk,dd,inner,nn,mm,hS⟩:=zas hp.s0
 have hnn:=hS.nn
 have hnt:(nV c.ax).toNat=nn:=by omega
 obtain ⟨p0,p1,p2,p3,p4,p5,p6⟩:=hp
 obtain ⟨q1,q2,q3,q4,q5,q6⟩:=h
 rw [hnt] at p1 p2 p3 p4 p5 p6 q4 q6
 have hk:=zaq p0
 have hn1:=hS.n1
 have hf:=jck hk q5 (by omega)
 rw [<- q4] at hf
 have hm:=jy7 s.m q1
 have hqt:=ze9 (m:=⟨s.m.W,[],0,s.m.ah+s.m.t⟩) rfl (p:=c.p) (l:=c.ax) (inv:=c.inv) (s:=st) (sr:=src) (d:=dst) (tb:=2*(nn+6)) (n:=nn) (good:=x++sx (zbu c.p x)) (fx:=[]) (x:=x) p0 hnn (λ y hy=>(q2.w y hy).1) (by dsimp only;omega) (by dsimp only;omega) (by dsimp only;omega) p3 (.inl (by omega)) (.inl (by omega)) (by rw [q4] at hf ⊢; exact hf) rfl q5 q6
 have hmok:Mm.ok ⟨s.m.W,[],0,s.m.ah+s.m.t⟩:=⟨q2.w,λ x hx=>(by cases hx),λ x hx=>(by cases hx)⟩
 have hto:=ze7 hmok c.p c.ax c.inv st src dst (2*(nn+6):Nat)
 have hah:=ze4 ⟨s.m.W,[],0,s.m.ah+s.m.t⟩ c.p c.ax c.inv st src dst (2*(nn+6):Nat)
 have htk:=zea (m:=⟨s.m.W,[],0,s.m.ah+s.m.t⟩) (inv:=c.inv) (src:=src) (dst:=dst) (tab:=((2*(nn+6):Nat):Int)) p0 (jra (w:=w) q3 ⟨by omega,by omega,by omega⟩) (jra (w:=w) q3 ⟨by omega,by omega,by omega⟩) (jra (w:=w) q3 ⟨by omega,by omega,by omega⟩)
 have hfe:s.next (doF c st src dst) of=(((ze2 ⟨s.m.W,[],0,s.m.ah+s.m.t⟩ c.p c.ax c.inv st src dst (2*(nn+6):Nat)).1.1.1,(ze2 ⟨s.m.W,[],0,s.m.ah+s.m.t⟩ c.p c.ax c.inv st src dst (2*(nn+6):Nat)).1.1.2,[]),(ze2 ⟨s.m.W,[],0,s.m.ah+s.m.t⟩ c.p c.ax c.inv st src dst (2*(nn+6):Nat)).2):=by
  unfold Ts.next doF
  rw [hof,hm,show (2*(nV c.ax+6):Int)=((2*(nn+6):Nat):Int) by omega]
 generalize ze2 ⟨s.m.W,[],0,s.m.ah+s.m.t⟩ c.p c.ax c.inv st src dst (2*(nn+6):Nat)=V at hqt hto hah htk hfe
 obtain ⟨v1,v2,v3,v4⟩:=hqt
 rw [v1] at hfe htk
 have hd:doV c x st=doG c.p c.inv st.tw nn (jqs c.ax st) (zcd c.p c.ax c.inv st) x:=by unfold doV;rw [hnt]
 refine ⟨s.on (s.next (doF c st src dst) of) [],?_,⟨?_,?_,?_,?_,?_,?_⟩,?_,?_,?_,?_⟩
 ·show (if (s.next (doF c st src dst) of).1.1=true then _ else _)=_
  rw [hfe,if_pos rfl]
 ·rw [hfe]; exact v2
 ·rw [hfe]; exact hto
 ·rw [hfe]; exact v3.trans q3
 ·rw [hfe,hnt,hd]; exact v4
 ·rw [hd]; exact ja2 hk
 ·rw [hd,hnt]; exact ja3 _ _ _ _ _ _ _
 ·rw [hfe]; rfl
 ·rw [hfe]; exact List.append_nil _
 ·rw [hfe]; exact List.append_nil _
 ·rw [hfe]
  show V.2.ah+V.2.t=_
  obtain ⟨t1,t2,t3,t4⟩:=htk
  rw [hah]
  unfold j82
  rcases t4 with t4 | t4
  ·exact absurd t4.1 (by simp)
  ·rw [t4,hnn]; simp only [List.map_nil,List.length_nil]; omega
theorem z3j {c:TP} {w src:Nat} {x:List Int} {s:Ts} (h:QT c w src x s) (hk:jt3 c.p=true) (hn:1<=nV c.ax/\nV c.ax<=4096) (hp:src+(nV c.ax).toNat+6<=w) {of:Int->List Ev} (hof:∀ w,of w=[]) {i:Int} {k:Nat} :
 ∃ s1,zf4 (jzj c src) of i (k+1) s=(true,s1)/\s1.Y=x/\s1.fx=s.fx/\s1.sl=s.sl/\s1.m.ah+s1.m.t=s.m.ah+s.m.t+(2*nV c.ax+6):=by
 obtain ⟨nn,hnn⟩:=Int.eq_ofNat_of_zero_le (show 0<=nV c.ax by omega)
 have hnt:(nV c.ax).toNat=nn:=by omega
 obtain ⟨q1,q2,q3,q4,q5,q6⟩:=h
 rw [hnt] at hp q4 q6
 have hm:=jy7 s.m q1
 have hmok:Mm.ok ⟨s.m.W,[],0,s.m.ah+s.m.t⟩:=⟨q2.w,λ x hx=>(by cases hx),λ x hx=>(by cases hx)⟩
 have ho:=jzs (m:=⟨s.m.W,[],0,s.m.ah+s.m.t⟩) rfl hmok (d:=src) (n:=nn) hk (by omega) (by dsimp only;omega) q4 q5 q6
 have ht:=jzu (m:=⟨s.m.W,[],0,s.m.ah+s.m.t⟩) (p:=c.p) (a:=src) (n:=nn) hk (by omega) (jra (w:=w) q3 ⟨by omega,by omega,by omega⟩)
 have hah:=(jzt (m:=⟨s.m.W,[],0,s.m.ah+s.m.t⟩) (p:=c.p) (a:=src) (n:=nn) hk (by omega) (jra (w:=w) q3 ⟨by omega,by omega,by omega⟩)).2.2
 have hfe:s.next (jzj c src) of=(((jzo ⟨s.m.W,[],0,s.m.ah+s.m.t⟩ c.p nn src).1.1.2.1,(jzo ⟨s.m.W,[],0,s.m.ah+s.m.t⟩ c.p nn src).1.1.2.2,(jzo ⟨s.m.W,[],0,s.m.ah+s.m.t⟩ c.p nn src).1.1.1),(jzo ⟨s.m.W,[],0,s.m.ah+s.m.t⟩ c.p nn src).2):=by
  unfold Ts.next jzj
  rw [hof,hm,hnn]
 generalize jzo ⟨s.m.W,[],0,s.m.ah+s.m.t⟩ c.p nn src=O at ho ht hah hfe
 rw [ho] at hfe ht
 refine ⟨s.on (s.next (jzj c src) of) [],?_,?_,?_,?_,?_⟩
 ·show (if (s.next (jzj c src) of).1.1=true then _ else _)=_
  rw [hfe,if_pos rfl]
 ·rw [hfe]; rfl
 ·rw [hfe]; exact List.append_nil _
 ·rw [hfe]; exact List.append_nil _
 ·rw [hfe]
  show O.2.ah+O.2.t=_
  obtain ⟨t1,t2,t3,t4⟩:=ht
  rw [hah]
  rcases t4 with t4 | t4
  ·exact absurd (congrArg (λ z=>z.2.1) t4.1) (by simp)
  ·rw [t4.1,hnn]; simp only [List.length_nil]; omega
theorem z3h {c:TP} {w:Nat} (hk:jt3 c.p=true) (hn:1<=nV c.ax/\nV c.ax<=4096) (ht:1<=c.times) {of:Int->List Ev} (hof:∀ w,of w=[]):∀ (l:List Stp) (i:Int) (src dst:Nat) (x:List Int) (s:Ts),QT c w src x s->(∀ st∈l,PQ c w st src dst/\PQ c w st dst src)->src+(nV c.ax).toNat+6<=w->dst+(nV c.ax).toNat+6<=w ->
 ∃ s1,j2g c of l i src dst s=(true,s1)/\s1.Y=l.foldl (doV c) x/\s1.fx=s.fx/\s1.sl=s.sl/\s1.m.ah+s1.m.t=s.m.ah+s.m.t+(l.map (j82 c)).sum+(2*nV c.ax+6)
 | [], i, src, dst, x, s, h, _, h1, h2 => by
   obtain ⟨k,hkk⟩:∃ k,c.times=k+1:=⟨c.times-1,by omega⟩
   obtain ⟨s1,e1,e2,e3,e4,e5⟩:=z3j (i:=i) (k:=k) h hk hn h1 hof
   refine ⟨s1,?_,e2,e3,e4,by rw [e5]; simp⟩
   unfold j2g
   rw [hkk]; exact e1
 | st :: l, i, src, dst, x, s, h, hp, h1, h2 => by
   obtain ⟨k,hkk⟩:∃ k,c.times=k+1:=⟨c.times-1,by omega⟩
   obtain ⟨s1,e1,e2,e3,e4,e5,e6⟩:=z3i (i:=i) (k:=k) h (hp st (by simp)).1 hof
   obtain ⟨s2,g1,g2,g3,g4,g5⟩:=z3h hk hn ht hof l (i+1) dst src _ s1 e2 (λ t ht=>(hp t (by simp [ht])).symm) h2 h1
   refine ⟨s2,?_,g2,g3.trans e4,g4.trans e5,?_⟩
   ·unfold j2g
    rw [hkk,e1,if_pos rfl]
    exact g1
   ·rw [g5,e6,List.map_cons,List.sum_cons]; omega
theorem z3k {q:Req} (h:j7c q=0) (hX:∀ x∈q.X,0<=x) {it tr:Int} (hit:0<=it/\it < q.batch) {l:List Ev} (hl:∀ w,ofS l it tr w=[]) :
 ∃ s1,zds q it tr l=(true,s1)/\s1.Y=(zau q.inv 0 q.axes).foldl (doV (zdk q)) (jsl q it)/\s1.fx=[]/\s1.sl=[]/\s1.m.ah+s1.m.t=nV q.axes+6+((zau q.inv 0 q.axes).map (j82 (zdk q))).sum+(2*nV q.axes+6):=by
 obtain ⟨q1,q2,q3,q4,q5⟩:=j7d h
 obtain ⟨f1,f2,f3,f4⟩:=j83 q2
 obtain ⟨hk,hal,hall⟩:=jqn q2
 obtain ⟨hst,hsl⟩:=zb4 (λ a ha=>(hall a ha).1) q.inv
 have hn:=jxs q2
 have hmk:=jx8 (p:=q.P) (l:=q.axes) q.inv q2 (zau q.inv 0 q.axes) 0 hst (by omega) (by omega)
 have hmg:=(jx9 (p:=q.P) (l:=q.axes) (inv:=q.inv) (zau q.inv 0 q.axes) 0).2
 have hM:(jwd q.P q.axes q.inv).1.W=2*(nV q.axes+6)+jx7 q.P q.axes q.inv 0 (zau q.inv 0 q.axes):=by unfold jwd;rw [if_pos q2]
 obtain ⟨il,il2⟩:=jsm h hit
 have hinP:∀ y∈jsl q it,inP q.P y:=λ y hy=>by
  have hm:y∈q.X:=List.mem_of_mem_drop (List.mem_of_mem_take hy)
  refine ⟨hX y hm,?_⟩
  unfold inV at q4
  rw [Bool.and_eq_true] at q4
  simpa using List.all_eq_true.1 q4.1 y hm
 unfold zds
 rw [hM]
 generalize jx7 q.P q.axes q.inv 0 (zau q.inv 0 q.axes)=mm at hmk hmg ⊢
 generalize zau q.inv 0 q.axes=G at hst hmg ⊢
 obtain ⟨nn,hnn⟩:=Int.eq_ofNat_of_zero_le (show 0<=nV q.axes by omega)
 have hnt:(nV q.axes).toNat=nn:=by omega
 have hs6:=zbw hk (jsl q it)
 have hcl:(jsl q it++z97 (zbu q.P (jsl q it))).length=nn+6:=by
  rw [List.length_append]; show _+6=_;omega
 have hcu:∀ y∈jsl q it++z97 (zbu q.P (jsl q it)),Go.Proofs.YtpecnaacgkgjmaaGreatDoor.u64r y:=λ y hy=>by
  rcases List.mem_append.1 hy with hy | hy
  ·exact zei hk (hinP y hy)
  ·unfold z97 at hy
   simp only [List.mem_cons,List.not_mem_nil,or_false] at hy
   rcases hy with e | e | e | e | e | e <;> rw [e] <;> first | exact zei hk hs6.1 | exact zei hk hs6.2
 have hok0:Mm.ok ⟨List.replicate (2*(nV q.axes+6)+mm).toNat 0,ofS l it tr 0,0,0⟩:=by
  rw [hl]
  refine ⟨λ y hy=>?_,λ x hx=>(by cases hx),λ x hx=>(by cases hx)⟩
  rw [(List.mem_replicate.1 hy).2]; exact ⟨by omega,by omega⟩
 have hla:=jup (m:=⟨List.replicate (2*(nV q.axes+6)+mm).toNat 0,ofS l it tr 0,0,0⟩) (l:=jsl q it++z97 (zbu q.P (jsl q it))) (a:=0) (jra (w:=(2*(nV q.axes+6)+mm).toNat) (by simp) ⟨by omega,by omega,by omega⟩)
 have hlo:=jun hok0 hcu 0
 have hlah:=jui ⟨List.replicate (2*(nV q.axes+6)+mm).toNat 0,ofS l it tr 0,0,0⟩ (jsl q it++z97 (zbu q.P (jsl q it))) 0
 have hlw:(juh ⟨List.replicate (2*(nV q.axes+6)+mm).toNat 0,ofS l it tr 0,0,0⟩ (jsl q it++z97 (zbu q.P (jsl q it))) 0).2=⟨zh9 (List.replicate (2*(nV q.axes+6)+mm).toNat 0) ((z6b ((0:Nat):Int) (jsl q it++z97 (zbu q.P (jsl q it))).length).zip (jsl q it++z97 (zbu q.P (jsl q it)))),[],(nn:Int)+6,0⟩:=by
  unfold juh
  rw [if_pos (jra (w:=(2*(nV q.axes+6)+mm).toNat) (by simp) ⟨by omega,by omega,by omega⟩)]
  dsimp only
  rw [zh5 _ _ (hl 0)]
  dsimp only
  rw [List.length_zip,z6d,Nat.min_self,hcl]
  congr 1
  omega
 have hwin:=zfg (d:=0) (l:=jsl q it++z97 (zbu q.P (jsl q it))) (W:=List.replicate (2*(nV q.axes+6)+mm).toNat 0) (by rw [hcl]; simp;omega)
 have hQ:QT (zdk q) (2*(nV q.axes+6)+mm).toNat 0 (jsl q it) ⟨m0T q.P (2*(nV q.axes+6)+mm) (jsl q it) (ofS l it tr 0),0,[],[],[]⟩:=by
  refine ⟨?_,hlo,hla.2.1.trans (by simp),?_,hinP,by show (jsl q it).length=(nV q.axes).toNat;omega⟩
  ·show (juh _ _ _).2.L=[]
   rw [hlw]
  ·show (((juh _ _ _).2.W).drop 0).take ((nV q.axes).toNat+6)=_
   rw [hlw,hnt,<- hcl]
   exact hwin
 obtain ⟨s1,e1,e2,e3,e4,e5⟩:=z3h (c:=zdk q) (w:=(2*(nV q.axes+6)+mm).toNat) hk hn (by show 1<=(q.retry+1).toNat;omega) hl G 0 0 (nn+6) _ _ hQ
  (λ st hs=>by
    have h1:=zao _ _ _ q2 (hst st hs)
    have h2:=hmg st hs
    have hc:(nV (zdk q).ax).toNat=nn:=hnt
    refine ⟨⟨h1,?_,?_,?_,?_,?_,?_⟩,⟨h1,?_,?_,?_,?_,?_,?_⟩⟩ <;> rw [hc]
    all_goals first | omega | (show _+(zcd q.P q.axes q.inv st).length<=_;omega))
  (by show 0+(nV q.axes).toNat+6<=_;omega) (by show nn+6+(nV q.axes).toNat+6<=_;omega)
 refine ⟨s1,?_,e2,e3,e4,?_⟩
 ·rw [show ((0:Nat):Int)=0 from rfl,show ((nn+6:Nat):Int)=nV q.axes+6 by omega] at e1
  exact e1
 ·rw [e5]
  show (juh _ _ _).2.ah+(juh _ _ _).2.t+_+_=_
  rw [hlw]
  show 0+((nn:Int)+6)+_+(2*nV q.axes+6)=_
  omega
abbrev jvi:Req:=⟨998244353,[⟨2,false⟩],false,1,[3,5],[1],0,0⟩
theorem jvj:j7c jvi=0:=by decide +kernel
theorem jvk:zau false 0 [⟨2,false⟩]=[⟨0,false,⟨2,1,1⟩⟩]:=by decide +kernel
theorem jvl:zdr jvi 0 0 []=⟨true,[8,998244351],[],[],46⟩:=by
 obtain ⟨s1,e1,e2,e3,e4,e5⟩:=z3k (q:=jvi) jvj (λ x hx=>by
  simp only [List.mem_cons,List.not_mem_nil,or_false] at hx
  rcases hx with rfl | rfl <;> decide) (it:=0) (tr:=0) ⟨by decide,by decide⟩ (l:=[]) (λ w=>rfl)
 have hE:zdq jvi 0 0 ([]:List Ev).length=0:=by unfold zdq;rw [jvj]; rfl
 have hi:jsl jvi 0=[3,5]:=by unfold jsl;rw [show nV jvi.axes=((2:Nat):Int) from jvn]; rfl
 rw [show zau jvi.inv 0 jvi.axes=[⟨0,false,⟨2,1,1⟩⟩] from jvk] at e2 e5
 have h2:doV (zdk jvi) [3,5] ⟨0,false,⟨2,1,1⟩⟩=[8,998244351]:=by
  unfold doV
  rw [show (nV (zdk jvi).ax).toNat=2 by rw [show nV (zdk jvi).ax=((2:Nat):Int) from jvn]; rfl]
  exact jvm
 have h3:j82 (zdk jvi) ⟨0,false,⟨2,1,1⟩⟩=28:=by
  unfold j82
  rw [show nV (zdk jvi).ax=((2:Nat):Int) from jvn,show zcd (zdk jvi).p (zdk jvi).ax (zdk jvi).inv ⟨0,false,⟨2,1,1⟩⟩=[1,1] from jvq]; rfl
 rw [hi,List.foldl_cons,List.foldl_nil,h2] at e2
 rw [List.map_cons,List.map_nil,h3,show nV jvi.axes=((2:Nat):Int) from jvn] at e5
 unfold zdr
 rw [if_pos hE,e1]
 dsimp only
 rw [e2,e3,e4,e5]
 rfl
set_option maxRecDepth 20000 in
set_option maxHeartbeats 1000000 in
theorem jvg {S:St}:Sp (jjb []) S λ v _=>v=vB true:=by
 unfold Sp
 rw [jjc]
 have hp:S <+: S++[j00.cells [vI 2,vB false] 113 none,j00.cells [vU 3,vU 5] 24 none,j00.cells [vU 1] 24 none,j00.cells (qc jvi (some ⟨S.length,0,none⟩) 1 (some ⟨S.length+1,0,none⟩) 2 (some ⟨S.length+2,0,none⟩) 1) 62 none]:=List.prefix_append _ _
 have z0:(S++[j00.cells [vI 2,vB false] 113 none,j00.cells [vU 3,vU 5] 24 none,j00.cells [vU 1] 24 none,j00.cells (qc jvi (some ⟨S.length,0,none⟩) 1 (some ⟨S.length+1,0,none⟩) 2 (some ⟨S.length+2,0,none⟩) 1) 62 none])[S.length]? = some (j00.cells [vI 2,vB false] 113 none):=gA0
 have z1:(S++[j00.cells [vI 2,vB false] 113 none,j00.cells [vU 3,vU 5] 24 none,j00.cells [vU 1] 24 none,j00.cells (qc jvi (some ⟨S.length,0,none⟩) 1 (some ⟨S.length+1,0,none⟩) 2 (some ⟨S.length+2,0,none⟩) 1) 62 none])[S.length+1]? = some (j00.cells [vU 3,vU 5] 24 none):=gA1
 have z2:(S++[j00.cells [vI 2,vB false] 113 none,j00.cells [vU 3,vU 5] 24 none,j00.cells [vU 1] 24 none,j00.cells (qc jvi (some ⟨S.length,0,none⟩) 1 (some ⟨S.length+1,0,none⟩) 2 (some ⟨S.length+2,0,none⟩) 1) 62 none])[S.length+2]? = some (j00.cells [vU 1] 24 none):=gA2
 have z3:(S++[j00.cells [vI 2,vB false] 113 none,j00.cells [vU 3,vU 5] 24 none,j00.cells [vU 1] 24 none,j00.cells (qc jvi (some ⟨S.length,0,none⟩) 1 (some ⟨S.length+1,0,none⟩) 2 (some ⟨S.length+2,0,none⟩) 1) 62 none])[S.length+3]? = some (j00.cells (qc jvi (some ⟨S.length,0,none⟩) 1 (some ⟨S.length+1,0,none⟩) 2 (some ⟨S.length+2,0,none⟩) 1) 62 none):=gA
 simp only [wps,List.append_assoc,List.cons_append,List.nil_append,List.length_append,List.length_cons,List.length_nil,Nat.zero_add,Nat.add_assoc,Nat.reduceAdd,gA,sA,List.set_cons_succ,List.set_cons_zero,List.getElem?_cons_succ,List.getElem?_cons_zero,j6u z3]
 generalize S++[j00.cells [vI 2,vB false] 113 none,j00.cells [vU 3,vU 5] 24 none,j00.cells [vU 1] 24 none,j00.cells (qc jvi (some ⟨S.length,0,none⟩) 1 (some ⟨S.length+1,0,none⟩) 2 (some ⟨S.length+2,0,none⟩) 1) 62 none]=Y at hp z0 z1 z2 z3 ⊢
 have hQ:QA Y jvi (some ⟨S.length,0,none⟩) (some ⟨S.length+1,0,none⟩) (some ⟨S.length+2,0,none⟩):=⟨Ar.blk (l:=jvi.axes) z0 (λ _ _=>rfl) rfl,Ar.blk (l:=jvi.X) z1 (λ _ _=>rfl) rfl,Ar.blk (l:=jvi.seeds) z2 (λ _ _=>rfl) rfl,by decide,by decide,by decide⟩
 refine (zfk (c1:=1) (c4:=2) (c5:=1) hQ).use ?_
 rintro _ S1 k1 rfl
 have z31:=z1w k1 z3
 have hw:zfj jvi=(3,0):=by unfold zfj;rw [if_pos jvj,show zau jvi.inv 0 jvi.axes=[⟨0,false,⟨2,1,1⟩⟩] from jvk]; rfl
 rw [hw]
 simp only [wps,j6u z31,gcz,gcs]
 refine (zdp (q:=jvi) (c1:=1) (c4:=2) (c5:=1) (it:=0) (tr:=0) (la:=none) (ln:=0) (lc:=0) (l:=[]) (hQ.mono k1) (by decide) (λ x hx=>?_) .nil (.inl (by omega)) (λ x hx=>by cases hx) (λ x hx=>by cases hx)).mono ?_
 ·simp only [List.mem_cons,List.not_mem_nil,or_false] at hx
  rcases hx with rfl | rfl <;> decide
 rintro _ S2 ⟨k2,ya,fa,sa,rfl,hA,_⟩
 have hE:zdq jvi 0 0 0=0:=by unfold zdq;rw [jvj]; rfl
 rw [jvl] at hA ⊢
 rw [hE]
 have hp3:S2 <+: S2++[j00.cells (trC ⟨true,[8,998244351],[],[],46⟩ ya fa sa) 70 none,j00.cells [vU 8,vU 998244351] 24 none]:=List.prefix_append _ _
 have z4:(S2++[j00.cells (trC ⟨true,[8,998244351],[],[],46⟩ ya fa sa) 70 none,j00.cells [vU 8,vU 998244351] 24 none])[S2.length]? = some (j00.cells (trC ⟨true,[8,998244351],[],[],46⟩ ya fa sa) 70 none):=gA0
 have z5:(S2++[j00.cells (trC ⟨true,[8,998244351],[],[],46⟩ ya fa sa) 70 none,j00.cells [vU 8,vU 998244351] 24 none])[S2.length+1]? = some (j00.cells [vU 8,vU 998244351] 24 none):=gA1
 have hy:=hA.mono hp3
 have hw2:Ar (S2++[j00.cells (trC ⟨true,[8,998244351],[],[],46⟩ ya fa sa) 70 none,j00.cells [vU 8,vU 998244351] 24 none]) (some ⟨S2.length+1,0,none⟩) 2 1 eU [8,998244351]:=Ar.blk (l:=[8,998244351]) z5 (λ _ _=>rfl) rfl
 have hs:=z3l (c:=2) (d:=2) hy.y hw2 (by decide)
 have pS:=(hp.trans k1).trans (k2.trans hp3)
 simp only [wps,List.append_assoc,List.cons_append,List.nil_append,List.length_append,Nat.zero_add,Nat.reduceAdd,j6u z4,gcz,gcs]
 refine Eq.mpr (hs.wp _) ?_
 simp only [wps,j6u z4,gcz,gcs]
 exact ⟨pS,rfl⟩
theorem jby {S:St} {q:Req} {a1 a4 a5:Option Addr} {c1 c4 c5 n c:Nat} {p:Option Addr} {m:Int} (h:QA S q a1 a4 a5) (hm:0<=m/\m<=1000) :
 Sp (jj8 [qv q a1 c1 a4 c4 a5 c5,.slice p n c,vI m]) S λ v S'=>v=vB (jbx q m && decide (n<=40)):=by
 unfold Sp
 rw [jj9]
 have hp:=List.prefix_append S [j00.cells (qc q a1 c1 a4 c4 a5 c5) 62 none]
 simp only [wps]
 refine (z3p (c1:=c1) (c4:=c4) (c5:=c5) (h.mono hp) hm).use ?_
 rintro _ S1 k1 rfl
 simp only [wps]
 refine ⟨λ e=>⟨hp.trans k1,?_⟩,λ e=>⟨hp.trans k1,?_⟩⟩
 ·rw [e,Bool.true_and]; congr 1;rw [decide_eq_decide]; omega
 ·rw [e]; rfl
structure Lab (g:Ev->Ev):Prop where
 ti:∀ x,(g x).ti=x.ti
 ad:∀ x,(g x).ad=x.ad
 ma:∀ x,(g x).ma=x.ma
section
variable {g:Ev->Ev} (hg:Lab g)
include hg
end
theorem je6 {α:Type} {f1 f2 f3 f4 f5 f6:α->Int} {S:St} {p:Option Addr} {n:Nat} {l:List α} (h:Ar S p n 6 (λ x=>[vI (f1 x),vI (f2 x),vI (f3 x),vI (f4 x),vU (f5 x),vU (f6 x)]) l) {i:Nat} (hi:i < l.length) :
 ∃ a,p=some a/\S.cell (a.add (i*6))=some (vI (f1 l[i]))/\S.cell ((a.add (i*6)).add 1)=some (vI (f2 l[i]))/\S.cell ((a.add (i*6)).add 2)=some (vI (f3 l[i])) /\
  S.cell ((a.add (i*6)).add 3)=some (vI (f4 l[i]))/\S.cell ((a.add (i*6)).add 4)=some (vU (f5 l[i]))/\S.cell ((a.add (i*6)).add 5)=some (vU (f6 l[i])):=by
 obtain ⟨a,h1,h2⟩:=h.2 i hi
 exact ⟨a,h1,by have:=h2 0 _ rfl;rwa [j25] at this,h2 1 _ rfl,h2 2 _ rfl,h2 3 _ rfl,h2 4 _ rfl,h2 5 _ rfl⟩
theorem je5 {α:Type} {f1 f2 f3 f4:α->Int} {S:St} {p:Option Addr} {n:Nat} {l:List α} (h:Ar S p n 4 (λ x=>[vI (f1 x),vI (f2 x),vI (f3 x),vI (f4 x)]) l) {i:Nat} (hi:i < l.length) :
 ∃ a,p=some a/\S.cell (a.add (i*4))=some (vI (f1 l[i]))/\S.cell ((a.add (i*4)).add 1)=some (vI (f2 l[i]))/\S.cell ((a.add (i*4)).add 2)=some (vI (f3 l[i]))/\S.cell ((a.add (i*4)).add 3)=some (vI (f4 l[i])):=by
 obtain ⟨a,h1,h2⟩:=h.2 i hi
 exact ⟨a,h1,by have:=h2 0 _ rfl;rwa [j25] at this,h2 1 _ rfl,h2 2 _ rfl,h2 3 _ rfl⟩
theorem z5b {α:Type} {f1 f2 f3 f4 f5 f6:α->Int} {S:St} {p r:Option Addr} {n m c d:Nat} {l:List α} (h:Ar S p n 6 (λ x=>[vI (f1 x),vI (f2 x),vI (f3 x),vI (f4 x),vU (f5 x),vU (f6 x)]) l) (k:Ar S r m 6 (λ x=>[vI (f1 x),vI (f2 x),vI (f3 x),vI (f4 x),vU (f5 x),vU (f6 x)]) l) (hn:n<=140737488355328) :
 Gv (jm7 [.slice p n c,.slice r m d]) S (vB true):=by
 have h1:=h.1
 have k1:=k.1
 refine .of ?_
 rw [jm8]
 simp only [wps]
 refine ⟨λ e=>absurd (by rw [h1,k1]) e,λ e=>?_⟩
 refine zgd (λ st S' t=>∃ j:Nat,st=[vI j]/\j<=n/\t=n-j/\S'=S) ?_ n _ _ ⟨0,rfl,by omega,by omega,rfl⟩
 rintro st S' t ⟨j,rfl,hj,rfl,rfl⟩
 simp only [wps]
 intro h3
 refine ⟨h3,?_⟩
 have hx:j < l.length:=by omega
 obtain ⟨a,rfl,c0,c1,c2,c3,c4,c5⟩:=je6 h hx
 obtain ⟨b,rfl,d0,d1,d2,d3,d4,d5⟩:=je6 k hx
 simp only [wps,c0,c1,c2,c3,c4,c5,d0,d1,d2,d3,d4,d5]
 rw [wI_ (n:=(j:Int)+1) (by omega) (by omega)]
 refine ⟨by omega,λ e3=>?_,λ e3=>⟨n-(j+1),by omega,j+1,rfl,by omega,rfl⟩⟩
 simp [eqL] at e3
theorem z9b {α:Type} {f1 f2 f3 f4:α->Int} {S:St} {p r:Option Addr} {n m c d:Nat} {l:List α} (h:Ar S p n 4 (λ x=>[vI (f1 x),vI (f2 x),vI (f3 x),vI (f4 x)]) l) (k:Ar S r m 4 (λ x=>[vI (f1 x),vI (f2 x),vI (f3 x),vI (f4 x)]) l) (hn:n<=140737488355328) :
 Gv (jma [.slice p n c,.slice r m d]) S (vB true):=by
 have h1:=h.1
 have k1:=k.1
 refine .of ?_
 rw [jmb]
 simp only [wps]
 refine ⟨λ e=>absurd (by rw [h1,k1]) e,λ e=>?_⟩
 refine zgd (λ st S' t=>∃ j:Nat,st=[vI j]/\j<=n/\t=n-j/\S'=S) ?_ n _ _ ⟨0,rfl,by omega,by omega,rfl⟩
 rintro st S' t ⟨j,rfl,hj,rfl,rfl⟩
 simp only [wps]
 intro h3
 refine ⟨h3,?_⟩
 have hx:j < l.length:=by omega
 obtain ⟨a,rfl,c0,c1,c2,c3⟩:=je5 h hx
 obtain ⟨b,rfl,d0,d1,d2,d3⟩:=je5 k hx
 simp only [wps,c0,c1,c2,c3,d0,d1,d2,d3]
 rw [wI_ (n:=(j:Int)+1) (by omega) (by omega)]
 refine ⟨by omega,λ e3=>?_,λ e3=>⟨n-(j+1),by omega,j+1,rfl,by omega,rfl⟩⟩
 simp [eqL] at e3
theorem z3q {S:St} {it tr:Int} {t:Tr} {ya fa sa yb fb sb:Option Addr} (h:TrA S it tr t ya fa sa) (k:TrA S it tr t yb fb sb) (hs:TrS t) :
 Sp (jm5 [vA (trC t ya fa sa),vA (trC t yb fb sb)]) S λ v _=>v=vB true:=by
 unfold Sp
 rw [zib]
 have hp:S <+: S++[j00.cells (trC t ya fa sa) 70 none,j00.cells (trC t yb fb sb) 70 none]:=List.prefix_append _ _
 have z0:(S++[j00.cells (trC t ya fa sa) 70 none,j00.cells (trC t yb fb sb) 70 none])[S.length]? = some (j00.cells (trC t ya fa sa) 70 none):=gA0
 have z1:(S++[j00.cells (trC t ya fa sa) 70 none,j00.cells (trC t yb fb sb) 70 none])[S.length+1]? = some (j00.cells (trC t yb fb sb) 70 none):=gA1
 have h':=h.mono hp
 have k':=k.mono hp
 have e1:=λ c d=>z3l (c:=c) (d:=d) h'.y k'.y (by have:=hs.y;omega)
 have e2:=λ c d=>z5b (c:=c) (d:=d) h'.fx k'.fx (by have:=hs.fx;omega)
 have e3:=λ c d=>z9b (c:=c) (d:=d) h'.sl k'.sl (by have:=hs.sl;omega)
 simp only [wps,List.append_assoc,List.cons_append,List.nil_append,List.length_append,List.length_cons,List.length_nil,Nat.zero_add,Nat.reduceAdd,j6u z0,j6u z1,gcz,gcs]
 refine ⟨λ _=>?_,λ e=>by simp at e⟩
 refine Eq.mpr ((e1 _ _).wp _) ?_
 simp only [wps,j6u z0,j6u z1,gcz,gcs]
 refine Eq.mpr ((e2 _ _).wp _) ?_
 simp only [wps,j6u z0,j6u z1,gcz,gcs]
 refine Eq.mpr ((e3 _ _).wp _) ?_
 simp only [wps,j6u z0,j6u z1,gcz,gcs]
 exact ⟨hp,by simp⟩
theorem zf7 {f:j1j} {of of':Int->List Ev} {step:Int}:∀ (k:Nat) (s:Ts),(∀ w,s.win < w->w<=s.win+k->of w=of' w)->zf4 f of step k s=zf4 f of' step k s/\(zf4 f of step k s).2.win<=s.win+k
 | 0, s, _ => ⟨rfl, by show s.win <= _; omega⟩
 | k + 1, s, h => by
   have e:s.next f of=s.next f of':=by unfold Ts.next;rw [h _ (by omega) (by omega)]
   unfold zf4
   rw [e]
   split
   ·exact ⟨rfl,by show s.win+1<=_;omega⟩
   ·obtain ⟨h1,h2⟩:=zf7 k (s.on (s.next f of') [(s.win+1,step)]) λ w h1 h2=>h w (by have : (s.on (s.next f of') [(s.win+1,step)]).win=s.win+1:=rfl;omega) (by have : (s.on (s.next f of') [(s.win+1,step)]).win=s.win+1:=rfl;omega)
    refine ⟨h1,?_⟩
    have : (s.on (s.next f of') [(s.win+1,step)]).win=s.win+1:=rfl
    omega
theorem j2l {c:TP} {of of':Int->List Ev}:∀ (l:List Stp) (i src dst:Int) (s:Ts),(∀ w,s.win < w->w<=s.win+(l.length+1)*(c.times:Int)->of w=of' w)->j2g c of l i src dst s=j2g c of' l i src dst s
 | [], i, src, dst, s, h => by
   unfold j2g
   exact (zf7 _ _ λ w h1 h2=>h w h1 (by simp only [List.length_nil]; omega)).1
 | st :: l, i, src, dst, s, h => by
   have hl:(((st :: l).length:Int)+1)*(c.times:Int)=((l.length:Int)+1)*(c.times:Int)+c.times:=by
    rw [List.length_cons,show ((l.length+1:Nat):Int)+1=((l.length:Int)+1)+1 by omega,Int.add_mul _ 1,Int.one_mul]
   have hnn:0<=((l.length:Int)+1)*(c.times:Int):=Int.mul_nonneg (by omega) (by omega)
   rw [hl] at h
   obtain ⟨h1,h2⟩:=zf7 (f:=doF c st src dst) (of:=of) (of':=of') (step:=i) c.times s λ w g1 g2=>h w g1 (by omega)
   unfold j2g
   rw [<- h1]
   split
   ·exact j2l l _ _ _ _ λ w g1 g2=>by
     by_cases hw:s.win < w
     ·exact h w hw (by omega)
     ·have hge:s.win<=(zf4 (doF c st src dst) of i c.times s).2.win:=by
       have key:∀ (k:Nat) (s:Ts),s.win<=(zf4 (doF c st src dst) of i k s).2.win:=by
        intro k
        induction k with
        | zero=>intro s;exact Int.le_refl _
        | succ k ih=>
          intro s
          unfold zf4
          split
          ·show s.win<=s.win+1;omega
          ·have:=ih (s.on (s.next (doF c st src dst) of) [(s.win+1,i)])
           have e:(s.on (s.next (doF c st src dst) of) [(s.win+1,i)]).win=s.win+1:=rfl
           omega
       exact key _ _
      omega
   ·rfl
theorem zdw {q:Req} (h:j7c q=0) {it tr:Int} {l m:List Ev} (he:∀ w,0<=w->w < (zfj q).1->ofS l it tr w=ofS m it tr w):zds q it tr l=zds q it tr m:=by
 obtain ⟨q1,_⟩:=j7d h
 have hw:(zfj q).1=1+(q.retry+1)*(((zau q.inv 0 q.axes).length:Int)+1):=by unfold zfj;rw [if_pos h]
 have hm:0<=(q.retry+1)*(((zau q.inv 0 q.axes).length:Int)+1):=Int.mul_nonneg (by omega) (by omega)
 have ht:((zdk q).times:Int)=q.retry+1:=by show ((q.retry+1).toNat:Int)=_;omega
 unfold zds
 rw [he 0 (Int.le_refl _) (by omega)]
 refine j2l _ _ _ _ _ λ w h1 h2=>he w ?_ ?_
 ·have : (0:Int) < w:=h1;omega
 ·have h2:w<=0+(((zau q.inv 0 q.axes).length:Int)+1)*((zdk q).times:Int):=h2
  rw [ht,Int.mul_comm] at h2
  omega
def j2s (it tr n:Int) (x:Ev):Bool:=decide (x.it=it) && (decide (x.tr=tr) && (decide (0<=x.wi) && decide (x.wi < n)))
theorem j2t {l:List Ev} {it tr n w:Int} (h0:0<=w) (h1:w < n):ofS l it tr w=ofS (l.filter (j2s it tr n)) it tr w:=by
 unfold ofS
 rw [List.filter_filter]
 congr 1
 refine List.filter_congr λ x _=>?_
 unfold jzw j2s
 by_cases e1:x.it=it
 ·by_cases e2:x.tr=tr
  ·by_cases e3:x.wi=w
   ·simp [e1,e2,e3,h0,h1]
   ·simp [e1,e2,e3]
  ·simp [e1,e2]
 ·simp [e1]
theorem zdt {q:Req} {it tr:Int} {l:List Ev} (hl:l.length<=1024):zdr q it tr l=zdr q it tr (l.filter (j2s it tr (zfj q).1))/\zdq q it tr l.length=zdq q it tr (l.filter (j2s it tr (zfj q).1)).length:=by
 have hf:=List.length_filter_le (j2s it tr (zfj q).1) l
 have he:zdq q it tr l.length=zdq q it tr (l.filter (j2s it tr (zfj q).1)).length:=by
  unfold zdq
  by_cases hc:j7c q≠0
  ·rw [if_pos hc,if_pos hc]
  ·rw [if_neg hc,if_neg hc]
   by_cases h2:0<=it/\it < q.batch/\0<=tr/\tr<=q.again
   ·rw [if_pos ⟨h2.1,h2.2.1,h2.2.2.1,h2.2.2.2,hl⟩,if_pos ⟨h2.1,h2.2.1,h2.2.2.1,h2.2.2.2,by omega⟩]
   ·rw [if_neg (by omega),if_neg (by omega)]
 refine ⟨?_,he⟩
 unfold zdr
 rw [<- he]
 split
 ·rename_i h0
  have hc:j7c q=0:=by
   refine Decidable.byContradiction λ hn=>?_
   unfold zdq at h0;rw [if_pos hn] at h0;exact hn h0
  rw [zdw hc (l:=l) (m:=l.filter (j2s it tr (zfj q).1)) λ w h1 h2=>j2t h1 h2]
 ·rfl
def Ts.all (s:Ts):Int:=s.m.ah+s.m.t
theorem zj4 {f:j1j} {w:Nat} {cost:Int} (hf:j1e f w cost) {s:Ts} (hw:s.m.W.length=w) (of:Int->List Ev) (sl:List (Int×Int)):(s.on (s.next f of) sl).m.W.length=w/\(s.on (s.next f of) sl).all<=s.all+cost+3/\(s.on (s.next f of) sl).sl.length=s.sl.length+sl.length /\
 ((s.next f of).1.1=true->(s.on (s.next f of) sl).all=s.all+cost+((s.on (s.next f of) sl).fx.length-s.fx.length)):=by
 have hW:(s.m.nxt (of (s.win+1))).W.length=w:=(Mm.nxt_len _ _).trans hw
 have t0:(s.m.nxt (of (s.win+1))).t=0:=rfl
 have a0:(s.m.nxt (of (s.win+1))).ah=s.m.ah+s.m.t:=rfl
 have h3:=hf.fx _ hW
 have h1:=(hf.t _ hW).2
 have h2:=hf.ah (s.m.nxt (of (s.win+1)))
 refine ⟨hf.len _ hW,?_,List.length_append,λ e=>?_⟩
 ·show (f (s.m.nxt (of (s.win+1)))).2.ah+(f (s.m.nxt (of (s.win+1)))).2.t<=s.m.ah+s.m.t+cost+3
  omega
 ·have h4:=hf.te _ hW e
  show (f (s.m.nxt (of (s.win+1)))).2.ah+(f (s.m.nxt (of (s.win+1)))).2.t=s.m.ah+s.m.t+cost+(((s.fx++(f (s.m.nxt (of (s.win+1)))).1.2.1.map _).length:Int)-s.fx.length)
  rw [List.length_append,List.length_map]; omega
theorem zjd {f:j1j} {w:Nat} {cost step:Int} (hf:j1e f w cost) (hc:0<=cost+3) (of:Int->List Ev):∀ (k:Nat) (s:Ts),s.m.W.length=w ->
 (zf4 f of step k s).2.m.W.length=w/\(zf4 f of step k s).2.all<=s.all+k*(cost+3)/\s.sl.length<=(zf4 f of step k s).2.sl.length /\
 ((zf4 f of step k s).2.sl.length=s.sl.length->1<=k->(zf4 f of step k s).1=true/\(zf4 f of step k s).2.all=s.all+cost+(((zf4 f of step k s).2.fx.length:Int)-s.fx.length))
 | 0, s, hw => ⟨hw, by simp [zf4], Nat.le_refl _, λ _ h => absurd h (by decide)⟩
 | k + 1, s, hw => by
   have hk:((k+1:Nat):Int)*(cost+3)=(k:Int)*(cost+3)+(cost+3):=by rw [Int.natCast_add,Int.add_mul,show ((1:Nat):Int)=1 from rfl,Int.one_mul]
   have hkn:0<=(k:Int)*(cost+3):=Int.mul_nonneg (by omega) hc
   unfold zf4
   by_cases hb:(s.next f of).1.1=true
   ·rw [if_pos hb]
    obtain ⟨o1,o2,o3,o4⟩:=zj4 hf hw of []
    refine ⟨o1,by dsimp only;omega,by dsimp only;omega,λ _ _=>⟨rfl,o4 hb⟩⟩
   ·rw [if_neg hb]
    obtain ⟨o1,o2,o3,_⟩:=zj4 hf hw of [(s.win+1,step)]
    obtain ⟨r1,r2,r3,_⟩:=zjd hf hc of k _ o1
    rw [List.length_singleton] at o3
    refine ⟨r1,by omega,by omega,λ e=>?_⟩
    omega
theorem zii {c:TP} {of:Int->List Ev} {w:Nat} (hk:jt3 c.p=true) (hn:1<=nV c.ax/\nV c.ax<=4096) (ht:1<=c.times):∀ (l:List Stp) (i src dst:Int) (s:Ts),(PlT (nV c.ax) w src dst/\∀ st∈l,zam c.p c.ax st=0/\2*(nV c.ax+6)+((zcd c.p c.ax c.inv st).length:Int)<=w)->s.m.W.length=w ->
 (j2g c of l i src dst s).2.all<=s.all+c.times*((l.map (j82 c)).sum+3*l.length+(2*nV c.ax+9))/\s.sl.length<=(j2g c of l i src dst s).2.sl.length /\
 ((j2g c of l i src dst s).2.sl.length=s.sl.length->(j2g c of l i src dst s).1=true/\(j2g c of l i src dst s).2.all=s.all+(l.map (j82 c)).sum+(2*nV c.ax+6)+(((j2g c of l i src dst s).2.fx.length:Int)-s.fx.length))
 | [], i, src, dst, s, hp, hw => by
   obtain ⟨o1,o2,o3,o4⟩:=zjd (step:=i) (jzk (c:=c) (src:=src) (w:=w) hk hn ⟨hp.1.1,hp.1.2.2.1⟩) (by omega) of c.times s hw
   unfold j2g
   refine ⟨?_,o3,λ e=>?_⟩
   ·rw [show (([]:List Stp).map (j82 c)).sum+3*(([]:List Stp).length:Int)+(2*nV c.ax+9)=2*nV c.ax+6+3 by simp;omega]; exact o2
   ·obtain ⟨u1,u2⟩:=o4 e ht
    exact ⟨u1,by rw [u2]; simp⟩
 | st :: l, i, src, dst, s, hp, hw => by
   obtain ⟨p1,p2⟩:=hp
   have hst:=p2 st (by simp)
   have htb:=zcj (inv:=c.inv) hst.1
   have hcs:j82 c st=6*nV c.ax+12+2*((zcd c.p c.ax c.inv st).length:Int):=rfl
   obtain ⟨o1,o2,o3,o4⟩:=zjd (step:=i) (ja1 hst.1 p1 hst.2) (by omega) of c.times s hw
   have hsum:((st :: l).map (j82 c)).sum+3*((st :: l).length:Int)+(2*nV c.ax+9)=(j82 c st+3)+((l.map (j82 c)).sum+3*(l.length:Int)+(2*nV c.ax+9)):=by
    rw [List.map_cons,List.sum_cons,List.length_cons]; omega
   have hnn:0<=(l.map (j82 c)).sum:=by
    have key:∀ L:List Stp,0<=(L.map (j82 c)).sum:=by
     intro L
     induction L with
     | nil=>simp
     | cons x L ih=>
       rw [List.map_cons,List.sum_cons]
       have : j82 c x=6*nV c.ax+12+2*((zcd c.p c.ax c.inv x).length:Int):=rfl
       omega
    exact key l
   have hm:0<=(c.times:Int)*((l.map (j82 c)).sum+3*(l.length:Int)+(2*nV c.ax+9)):=Int.mul_nonneg (by omega) (by omega)
   have eA:j2g c of (st :: l) i src dst s=if (zf4 (doF c st src dst) of i c.times s).1=true then j2g c of l (i+1) dst src (zf4 (doF c st src dst) of i c.times s).2 else zf4 (doF c st src dst) of i c.times s:=rfl
   rw [eA]
   by_cases hb:(zf4 (doF c st src dst) of i c.times s).1=true
   ·rw [if_pos hb]
    obtain ⟨r1,r2,r3⟩:=zii (of:=of) hk hn ht l (i+1) dst src _ ⟨⟨p1.2.1,p1.1,p1.2.2.2,p1.2.2.1⟩,λ t ht=>p2 t (by simp [ht])⟩ o1
    refine ⟨?_,by omega,λ e=>?_⟩
    ·rw [hsum,Int.mul_add]; omega
    ·obtain ⟨v1,v2⟩:=r3 (by omega)
     obtain ⟨u1,u2⟩:=o4 (by omega) ht
     refine ⟨v1,?_⟩
     rw [v2,u2,List.map_cons,List.sum_cons]; omega
   ·rw [if_neg hb]
    refine ⟨?_,o3,λ e=>absurd (o4 e ht).1 hb⟩
    rw [hsum,Int.mul_add]; omega
theorem zjc {q:Req} {it tr:Int} {l:List Ev} (h:zdq q it tr l.length=0):j7c q=0/\(zdr q it tr l).ticks<=nV q.axes+6+(q.retry+1)*zje q /\
 ((zdr q it tr l).sl=[]->(zdr q it tr l).ok=true/\(zdr q it tr l).ticks=(zdo q.P q.axes q.inv).1+((zdr q it tr l).fx.length:Int)):=by
 have hc:j7c q=0:=by
  refine Decidable.byContradiction λ hn=>?_
  unfold zdq at h;rw [if_pos hn] at h;exact hn h
 obtain ⟨q1,q2,q3,q4,q5⟩:=j7d hc
 obtain ⟨f1,f2,f3,f4⟩:=j83 q2
 obtain ⟨hk,hal,hall⟩:=jqn q2
 obtain ⟨hst,hsl⟩:=zb4 (λ a ha=>(hall a ha).1) q.inv
 have hn:=jxs q2
 have hmk:=jx8 (p:=q.P) (l:=q.axes) q.inv q2 (zau q.inv 0 q.axes) 0 hst (by omega) (by omega)
 have hmg:=(jx9 (p:=q.P) (l:=q.axes) (inv:=q.inv) (zau q.inv 0 q.axes) 0).2
 have hM:(jwd q.P q.axes q.inv).1.W=2*(nV q.axes+6)+jx7 q.P q.axes q.inv 0 (zau q.inv 0 q.axes):=by unfold jwd;rw [if_pos q2]
 have hit:0<=it/\it < q.batch:=by
  have h':=h
  unfold zdq at h'
  rw [if_neg (λ n=>n hc)] at h'
  refine Decidable.byContradiction λ hn=>?_
  rw [if_neg (by omega)] at h'; exact absurd h' (by decide)
 obtain ⟨il,il2⟩:=jsm hc hit
 have hcl:(jsl q it++z97 (zbu q.P (jsl q it))).length=(jsl q it).length+6:=by rw [List.length_append]; rfl
 refine ⟨hc,?_⟩
 unfold zdr
 rw [if_pos h]
 have hT:zds q it tr l=j2g (zdk q) (ofS l it tr) (zau q.inv 0 q.axes) 0 0 (nV q.axes+6) ⟨m0T q.P (jwd q.P q.axes q.inv).1.W (jsl q it) (ofS l it tr 0),0,[],[],[]⟩:=rfl
 rw [hM] at hT
 have hcL:j80 q.P q.axes q.inv (zau q.inv 0 q.axes)=(zau q.inv 0 q.axes).map (j82 (zdk q)):=rfl
 have hwV:zje q=((zau q.inv 0 q.axes).map (j82 (zdk q))).sum+3*((zau q.inv 0 q.axes).length:Int)+(2*nV q.axes+9):=by unfold zje;rw [hcL]
 rw [f4,hcL,hwV]
 generalize jx7 q.P q.axes q.inv 0 (zau q.inv 0 q.axes)=mm at hmk hmg hT
 have hla:=jup (m:=⟨List.replicate (2*(nV q.axes+6)+mm).toNat 0,ofS l it tr 0,0,0⟩) (l:=jsl q it++z97 (zbu q.P (jsl q it))) (a:=0) (jra (w:=(2*(nV q.axes+6)+mm).toNat) (by simp) ⟨by omega,by omega,by omega⟩)
 have hlah:=jui ⟨List.replicate (2*(nV q.axes+6)+mm).toNat 0,ofS l it tr 0,0,0⟩ (jsl q it++z97 (zbu q.P (jsl q it))) 0
 have hla3:=hla.2.2
 dsimp only at hla3 hlah
 have h0:Ts.all ⟨m0T q.P (2*(nV q.axes+6)+mm) (jsl q it) (ofS l it tr 0),0,[],[],[]⟩=nV q.axes+6:=by
  show (juh _ _ _).2.ah+(juh _ _ _).2.t=_
  rw [hlah,hla3]; omega
 have ha:=zii (c:=zdk q) (of:=ofS l it tr) (w:=(2*(nV q.axes+6)+mm).toNat) hk hn (by show 1<=(q.retry+1).toNat;omega) (zau q.inv 0 q.axes) 0 0 (nV q.axes+6) ⟨m0T q.P (2*(nV q.axes+6)+mm) (jsl q it) (ofS l it tr 0),0,[],[],[]⟩
  ⟨⟨by omega,by show 0<=nV q.axes+6;omega,by show 0+nV q.axes+6<=_;omega,by show nV q.axes+6+nV q.axes+6<=_;omega⟩,λ st hs=>⟨zao _ _ _ q2 (hst st hs),by have:=hmg st hs;show 2*(nV q.axes+6)+((zcd q.P q.axes q.inv st).length:Int)<=_;omega⟩⟩
  (hla.2.1.trans (by simp))
 rw [<- hT,h0,show ((zdk q).times:Int)=q.retry+1 by show ((q.retry+1).toNat:Int)=_;omega] at ha
 obtain ⟨a1,a2,a3⟩:=ha
 have hnv:nV (zdk q).ax=nV q.axes:=rfl
 rw [hnv] at a1 a3
 refine ⟨a1,λ e=>?_⟩
 have e':(zds q it tr l).2.sl=[]:=e
 obtain ⟨u1,u2⟩:=a3 (by rw [e'])
 refine ⟨u1,?_⟩
 show (zds q it tr l).2.all=_
 rw [u2]
 dsimp only
 simp only [List.length_nil]
 omega
theorem zin {S:St} {q:Req} {a1 a4 a5:Option Addr} {c1 c4 c5 n c:Nat} {p:Option Addr} {m:Int} (h:QA S q a1 a4 a5) (hm:0<=m/\m<=1000) :
 Sp (jjh [qv q a1 c1 a4 c4 a5 c5,.slice p n c,vI m]) S λ v S'=>v=vB (jbx q m && decide ((q.X.length:Int)<=3*m) && decide (n<=40)):=by
 unfold Sp
 rw [jji]
 simp only [wps]
 have hp:S <+: S++[j00.cells (qc q a1 c1 a4 c4 a5 c5) 62 none]:=List.prefix_append _ _
 refine (z3p (c1:=c1) (c4:=c4) (c5:=c5) (h.mono hp) hm).use ?_
 rintro _ S1 h1 rfl
 have hb1:=z1w h1 jek
 simp only [wps,j6u hb1,gcz,gcs]
 rw [wI_ (n:=3*m) (by omega) (by omega)]
 refine ⟨λ e1=>⟨λ e2=>⟨hp.trans h1,?_⟩,λ e2=>⟨hp.trans h1,?_⟩⟩,λ e1=>⟨hp.trans h1,?_⟩⟩
 ·simp [e1,e2]; omega
 ·simp [e1,e2]
 ·simp [e1]
set_option maxHeartbeats 4000000 in
set_option maxRecDepth 20000 in
theorem zjb {S:St} {q:Req} {a1 a4 a5 la:Option Addr} {c1 c4 c5 ln lc:Nat} {it tr:Int} {l:List Ev} (h:QA S q a1 a4 a5) (hc4:q.X.length<=c4) (hX:∀ x∈q.X,0<=x)
 (hl:Ar S la ln 6 Ev.cells l) (hlk:∀ x∈l,Go.Proofs.YtpecnaacgkgjmaaGreatDoor.u64r x.ma) (hlt:∀ x∈l,x.ti<=9223372036854775807) :
 Sp (jje [qv q a1 c1 a4 c4 a5 c5,vI it,vI tr,.slice la ln lc]) S λ v _=>v=vB true:=by
 unfold Sp
 have hln0:=hl.1
 rw [jjf]
 have hp:=List.prefix_append S [j00.cells (qc q a1 c1 a4 c4 a5 c5) 62 none]
 have z:=jek (S:=S) (o:=j00.cells (qc q a1 c1 a4 c4 a5 c5) 62 none)
 simp only [wps]
 generalize S++[j00.cells (qc q a1 c1 a4 c4 a5 c5) 62 none]=Y at hp z ⊢
 refine zj2.use ?_
 rintro _ S1 k1 rfl
 have z1:=z1w k1 z
 have p1:=hp.trans k1
 simp only [wps,j6u z1,gcz,gcs]
 refine (zin (c1:=c1) (c4:=c4) (c5:=c5) (c:=lc) (p:=la) (n:=ln) (m:=10) (h.mono p1) (by omega)).use ?_
 rintro _ S2 k2 rfl
 have z2:=z1w k2 z1
 have p2:=p1.trans k2
 simp only [wps,j6u z2,gcz,gcs]
 refine ⟨λ _=>p2,λ hf=>?_⟩
 have hln:ln<=40:=by
  rw [Bool.and_eq_true] at hf;exact of_decide_eq_true hf.2
 refine (zdp (c1:=c1) (c4:=c4) (c5:=c5) (it:=it) (tr:=tr) (lc:=lc) (h.mono p2) hc4 hX (hl.mono p2) (.inl (by omega)) hlk hlt).mono ?_
 rintro _ S5 ⟨k5,ya,fa,sa,rfl,hA5,hs5⟩
 have p5:=p2.trans k5
 have hp6:=List.prefix_append S5 [j00.cells (trC (zdr q it tr l) ya fa sa) 70 none]
 have w6:=jek (S:=S5) (o:=j00.cells (trC (zdr q it tr l) ya fa sa) 70 none)
 have z6:=z1w (k5.trans hp6) z2
 have p6:=p5.trans hp6
 simp only [wps,j6u z6,gcz,gcs]
 generalize S5++[j00.cells (trC (zdr q it tr l) ya fa sa) 70 none]=S6 at hp6 w6 z6 p6 ⊢
 refine (zij (c1:=c1) (c4:=c4) (c5:=c5) (h.mono p6)).use ?_
 rintro _ S7 k7 rfl
 have z7:=z1w k7 z6
 have w7:=z1w k7 w6
 have p7:=p6.trans k7
 simp only [wps,j6u z7,gcz,gcs]
 refine (zim (c:=c1) (h.mono p7).ax (h.mono p7).b1 q.inv).use ?_
 rintro _ S8 k8 rfl
 have z8:=z1w k8 z7
 have w8:=z1w k8 w7
 have p8:=p7.trans k8
 have fs:=hs5.fx
 have ft:=hs5.tk
 simp only [wps,j6u z8,j6u w8,gcz,gcs]
 refine ⟨λ e=>?_,λ e=>?_⟩
 ·have : zdr q it tr l=⟨false,[],[],[],0⟩:=by unfold zdr;rw [<- hln0,if_neg e]
  rw [this]
  exact ⟨p8,rfl⟩
 obtain ⟨hc,t1,t2⟩:=zjc (l:=l) (by rw [<- hln0]; exact e)
 obtain ⟨q1,q2,q3,q4,q5⟩:=j7d hc
 obtain ⟨f1,f2,f3,f4⟩:=j83 q2
 have hn:=jxs q2
 have hmv:zj3 q=(q.batch*(q.again+1)*(nV q.axes+6+(q.retry+1)*zje q),0):=by unfold zj3;rw [if_pos hc]
 have htv:(zdo q.P q.axes q.inv).2=0:=by rw [f4]
 have htv1:(zdo q.P q.axes q.inv).1<=2000000000/\0<=(zdo q.P q.axes q.inv).1:=by rw [f4]; dsimp only;omega
 have hle:(zdr q it tr l).ticks*q.batch*(q.again+1)<=(zj3 q).1:=by
  rw [hmv,Int.mul_assoc,Int.mul_comm (zdr q it tr l).ticks]
  exact Int.mul_le_mul_of_nonneg_left t1 (Int.mul_nonneg (by omega) (by omega))
 obtain ⟨b1,b2⟩:=jxl (a:=(zdr q it tr l).ticks) (A:=100000000000) (b:=q.batch) (B:=16) ft.1 ft.2 (by omega) (by omega)
 obtain ⟨b3,b4⟩:=jxl (a:=(zdr q it tr l).ticks*q.batch) (A:=1600000000000) (b:=q.again+1) (B:=9) b1 (by omega) (by omega) (by omega)
 rw [wI_ (n:=(zdr q it tr l).ticks*q.batch) (by omega) (by omega),wI_ (n:=q.again+1) (by omega) (by omega),wI_ (n:=(zdr q it tr l).ticks*q.batch*(q.again+1)) (by omega) (by omega)]
 refine ⟨λ e2=>absurd (by rw [hmv]) e2,λ _=>⟨λ e2=>absurd htv e2,λ _=>⟨λ e2=>absurd e2 (by omega),λ _=>?_⟩⟩⟩
 unfold jth
 simp only [wps,j6u w8,gcz,gcs]
 refine ⟨λ _=>p8,λ hz=>?_⟩
 have hs0:(zdr q it tr l).sl=[]:=List.eq_nil_of_length_eq_zero (by omega)
 obtain ⟨u1,u2⟩:=t2 hs0
 rw [wI_ (n:=(zdo q.P q.axes q.inv).1+((zdr q it tr l).fx.length:Int)) (by omega) (by omega)]
 refine ⟨λ _=>⟨p8,by rw [u2]; simp⟩,λ e2=>?_⟩
 rw [u1] at e2;cases e2
end Go.AM
