/-
  The law CostTries of brackenlaw22 is true for every input: a try by itself never has more than its share of the most.
  Conditions: none. (Its two listed variables are tied to the program's text by the card.)
-/
import Derived.Test.YtpecnaacgkgjmaaGreatDoorVL1
import Derived.Test.YtpecnaacgkgjmaaGreatDoorVR1
import Derived.Test.YtpecnaacgkgjmaaGreatDoorRows
import Derived.Test.YtpecnaacgkgjmaaGreatDoorTie
import Derived.Test.YtpecnaacgkgjmaaGreatDoorCards
import Derived.SevenTiedAt
import Derived.Handed
import Derived.ChangeSame
import Derived.ChangeVars
import Derived.JoinedOf
import Derived.RowKit
import Derived.LaidLaws
import Derived.LaidHandle
import Derived.ProofKit
import Derived.ChangeOld
import Derived.KernelRfl
import Derived.Test.YtpecnaacgkgjmaaGreatDoorVX1
import Derived.Test.YtpecnaacgkgjmaaGreatDoorVW4
set_option linter.unusedVariables false
set_option linter.unusedSectionVars false
set_option linter.unusedSimpArgs false
set_option linter.deprecated false
namespace Go.Proofs.YtpecnaacgkgjmaaGreatDoor
open Go.ChangeShapes Go.WideShapes Go.ChangeAt Go.RowKit Go.AM
theorem jzx:ownKnob Tryz.prog.godebug=none:=by kernel_rfl
theorem jtz:laidOutB Tryz.prog=true:=by kernel_rfl
theorem jvf:(Rows.laid_math_bits_deBruijn64tab:DataW Unit) = .agg (Lib.deBruijn64tab.map λ n:Nat=>.lit (.int .u8 (n:Int))):=by kernel_rfl
theorem jem : Tryz.prog.globalNamed "math/bits.deBruijn64tab" = some 3 := by kernel_rfl
theorem jqz:((Tryz.prog.globals[3]?).map (·.type)).bind Tryz.prog.underlying=some (.array 64 5):=by kernel_rfl
theorem j75:Tryz.prog.cellsOf 5=1:=by kernel_rfl
theorem u8_:Tryz.prog.underlying 5=some (.int .u8):=by kernel_rfl
theorem jds:∀ t,(Tryz.prog.globals[3]?).map (·.type)=some t->Tryz.prog.cellsOf t=64:=by
 intro t ht
 have h:((Tryz.prog.globals[3]?).map (·.type)).map Tryz.prog.cellsOf=some 64:=by kernel_rfl
 rw [ht] at h
 exact Option.some.inj h
theorem zci {W : World} (h : laidMet Tryz.prog [("math/bits.deBruijn32tab", Rows.laid_math_bits_deBruijn32tab), ("math/bits.deBruijn64tab", Rows.laid_math_bits_deBruijn64tab)] W) :
 ∃ cs e z,W.heap[3]? = some (.cells cs e z)/\(∀ v∈cs,∃ n,v=Value.int .u8 n)/\Tab W:=by
 obtain ⟨ps,⟨_,_,_,_,_,_,_,_,_,_,hr,_⟩,_⟩:=h
 obtain ⟨g,t,cs,fuel,p,q,hg,ht,hvar,hd,_,_⟩:=hr
 obtain rfl:=Option.some.inj (jem.symm.trans hg)
 have hu:=jqz
 rw [ht] at hu
 simp only [Option.bind_some] at hu
 rw [jvf] at hd
 obtain ⟨xs,m,rfl,hx,hlen,hxl,hat⟩:=DataW.trod_array hu hd
 injection hx with hx1 hx2
 injection hx1 with hx1
 rw [jds t ht] at hlen
 have hcell:∀ j,j < 64->∃ n,cs.toList[j]? = some (.int .u8 n)/\n=((Lib.deBruijn64tab.getD j 0:Nat):Int):=by
  intro j hj
  have hi:=hat j hj
  rw [j75,List.getElem?_eq_getElem (by omega)] at hi
  have e1:(xs.map (·.1))[j]? = some (xs[j]'(by omega)).1:=by rw [List.getElem?_map,List.getElem?_eq_getElem (by omega)]; rfl
  rw [<- hx1,List.getElem?_map] at e1
  have e2:Lib.deBruijn64tab[j]? = some (Lib.deBruijn64tab.getD j 0):=by
   rw [List.getD_eq_getElem?_getD,List.getElem?_eq_getElem (show j < Lib.deBruijn64tab.length from hj)]; rfl
  rw [e2] at e1
  simp only [Option.map_some,Option.some.injEq] at e1
  obtain ⟨n,hc,hy,_⟩:=DataW.trod_int u8_ hi
  rw [hy] at e1
  simp only [DataW.lit.injEq,Lit.int.injEq,true_and] at e1
  have : ((cs.toList.drop (j*1)).take 1)[0]? = some (.int .u8 n):=by rw [hc]; rfl
  rw [List.getElem?_take,if_pos (by omega),List.getElem?_drop] at this
  simp only [Nat.mul_one,Nat.add_zero] at this
  exact ⟨n,this,e1.symm⟩
 obtain ⟨e,z,hheap⟩:∃ e z,W.heap[3]? = some (.cells cs e z):=by
  simp only [World.var?,hg,Option.bind_some] at hvar
  split at hvar
  ·rename_i e z hh;cases hvar;exact ⟨_,_,hh⟩
  ·cases hvar
 refine ⟨cs,e,z,hheap,λ v hv=>?_,λ j hj=>?_⟩
 ·obtain ⟨j,hj⟩:=List.getElem?_of_mem (Array.mem_toList_iff.2 hv)
  have hj64:j < 64:=by rw [<- hlen]; exact (List.getElem?_eq_some_iff.1 hj).1
  obtain ⟨n,h1,_⟩:=hcell j hj64
  rw [hj] at h1;exact ⟨n,Option.some.inj h1⟩
 ·obtain ⟨n,h1,h2⟩:=hcell j hj
  rw [World.var?_cell hg hvar j,<- Array.getElem?_toList,h1,h2]
theorem zce {W:World} {cs:Array Value} {e:TypeId} {z:Nat×Nat} (hh:W.heap[3]? = some (.cells cs e z)) (hT:Tab W):GT [(3,Obj.cells cs e z)]:=by
 intro w hw j hj
 have h1:=hw _ (List.mem_singleton.2 rfl)
 have h2:=hT j hj
 unfold World.cell? at h2 ⊢
 rw [hh] at h2
 dsimp only at h1 ⊢
 rw [h1]; exact h2
def zcc (l:List Nat):Array Value:=(l.map λ n:Nat=>Value.int .u8 (n:Int)).toArray
def jug (l:List Nat):Obj->Obj
 | .cells _ t frozen => .cells (zcc l) t frozen
 | o => o
noncomputable def ju0 (os:Os):World:=
 { World.holding Tryz.prog os ⟨#[],#[],[]⟩ with heap:=((World.holding Tryz.prog os ⟨#[],#[],[]⟩).heap.modify 2 (jug Lib.deBruijn32tab)).modify 3 (jug Lib.deBruijn64tab) }
set_option maxRecDepth 100000 in
theorem jzf {H:Type} {enc:TypeId×Value->H} {w:World} {base b0:Nat} {r:Reach} {spare:Nat->Bool} {held:Bool} {G:List (Nat×Obj)} (hU:U8 G) (hG:∀ p∈G,w.heap[p.1]? = some p.2)
 {k:Nat} {t e:TypeId} {es:List Fl} {B:Nat} {v:Value} {d:DataW H} {p:List MemPlace} (hu:Tryz.prog.underlying t=some (.slice e)) (hval:Value.okWide Tryz.prog w r b0 t v)
 (hl:juv Tryz.prog k t=some [.sl es B]) (hc:Tryz.prog.cellsOf t=1) (h:DataW.Trod enc Tryz.prog w base spare held t v d p) (hfit:j0f Tryz.prog t d) :
 ∃ u,VR (T0 G w) u v/\LV (S0 G w) (.sl es B) u:=by
 obtain ⟨a,n,c,rfl⟩:=okWide_slice hu hval
 obtain ⟨us,h1,h2,h3⟩:=jzd (enc:=enc) (w:=w) hU hG (ls:=[.sl es B]) hl hc h hfit
 match us,h2 with
 | [u], _ =>
   obtain ⟨u',e,h4⟩:=h3 0 _ rfl
   cases e
   cases h1 with
   | cons x y=>exact ⟨u,x,h4⟩
def evL:List Fl:=[some .i64,some .i64,some .i64,some .i64,some .i64,some .u64]
structure EvR (x:Ev):Prop where
 it:jrm x.it
 tr:jrm x.tr
 wi:jrm x.wi
 ti:jrm x.ti
 ad:jrm x.ad
 ma:zek x.ma
theorem j9p {c:List Value} (hc:c.length=evL.length) (hat:∀ (j:Nat) l v,evL[j]? = some l->c[j]? = some v->j0h l v):∃ x:Ev,EvR x/\x.cells=c:=by
 match c,hc with
 | [v0, v1, v2, v3, v4, v5], _ =>
   obtain ⟨x0,rfl,h0⟩:=hat 0 _ _ rfl rfl
   obtain ⟨x1,rfl,h1⟩:=hat 1 _ _ rfl rfl
   obtain ⟨x2,rfl,h2⟩:=hat 2 _ _ rfl rfl
   obtain ⟨x3,rfl,h3⟩:=hat 3 _ _ rfl rfl
   obtain ⟨x4,rfl,h4⟩:=hat 4 _ _ rfl rfl
   obtain ⟨x5,rfl,h5⟩:=hat 5 _ _ rfl rfl
   exact ⟨⟨x0,x1,x2,x3,x4,x5⟩,⟨zfb h0,zfb h1,zfb h2,zfb h3,zfb h4,zfc h5⟩,rfl⟩
theorem j0q {S:St} {B:Nat} {u:Value} (h:LV S (.sl evL B) u):∃ a c l,u = .slice a l.length c/\l.length<=c/\l.length*B<=reachBytes/\Ar S a l.length 6 Ev.cells l/\∀ x∈l,EvR x:=
 h.listC Ev.cells EvR (λ _=>rfl) λ c hc hat=>j9p hc hat
theorem j0r {S:St} {B:Nat} {u:Value} (h:LV S (.sl [some .u64] B) u):∃ a c l,u = .slice a l.length c/\l.length<=c/\l.length*B<=reachBytes/\Ar S a l.length 1 eU l/\∀ x∈l,zek x:=
 h.listC eU zek (λ _=>rfl) λ c hc hat=>by
  match c,hc with
  | [v],_=>
    obtain ⟨n,rfl,hw⟩:=hat 0 _ _ rfl rfl
    exact ⟨n,zfc hw,rfl⟩
end Go.Proofs.YtpecnaacgkgjmaaGreatDoor
namespace Go.Proofs.YtpecnaacgkgjmaaGreatDoor
open Go.AM Go.RowKit
theorem jze {S:St} {us:List Value} (hl:us.length=z5o.length) (h:∀ (j:Nat) l,z5o[j]? = some l->∃ u,us[j]? = some u/\LV S l u) :
 ∃ (q:Req) (a1:Option Addr) (c1:Nat) (a4:Option Addr) (c4:Nat) (a5:Option Addr) (c5:Nat),us=qc q a1 c1 a4 c4 a5 c5/\QA S q a1 a4 a5/\j14 q/\q.X.length<=c4/\q.seeds.length<=c5:=by
 match us,hl with
 | [u0, u1, u2, u3, u4, u5, u6, u7], _ =>
   obtain ⟨_,e,h0⟩:=h 0 _ rfl;cases e
   obtain ⟨_,e,h1⟩:=h 1 _ rfl;cases e
   obtain ⟨_,e,h2⟩:=h 2 _ rfl;cases e
   obtain ⟨_,e,h3⟩:=h 3 _ rfl;cases e
   obtain ⟨_,e,h4⟩:=h 4 _ rfl;cases e
   obtain ⟨_,e,h5⟩:=h 5 _ rfl;cases e
   obtain ⟨_,e,h6⟩:=h 6 _ rfl;cases e
   obtain ⟨_,e,h7⟩:=h 7 _ rfl;cases e
   obtain ⟨P,rfl,hP⟩:=h0.u64
   obtain ⟨a1,c1,l1,rfl,b1,r1,k1⟩:=h1.axes
   obtain ⟨inv,rfl⟩:=h2.bool
   obtain ⟨bt,rfl,hb⟩:=h3.i64
   obtain ⟨a4,c4,l4,rfl,e4,b4,r4,k4⟩:=j0r h4
   obtain ⟨a5,c5,l5,rfl,e5,b5,r5,k5⟩:=j0r h5
   obtain ⟨rt,rfl,hr⟩:=h6.i64
   obtain ⟨ag,rfl,hg⟩:=h7.i64
   have hr47:=reachBytes_lt
   exact ⟨⟨P,l1,inv,bt,l4,l5,rt,ag⟩,a1,c1,a4,c4,a5,c5,rfl,⟨r1,r4,r5,by dsimp only;omega,by dsimp only;omega,by dsimp only;omega⟩,⟨hP,k1,hb,k4,k5,hr,hg⟩,e4,e5⟩
end Go.Proofs.YtpecnaacgkgjmaaGreatDoor
namespace Go.Proofs.YtpecnaacgkgjmaaGreatDoor
open Go.ChangeShapes Go.WideShapes Go.ChangeAt Go.RowKit Go.AM
set_option maxRecDepth 100000 in
theorem costTries_lifted (os:Os) (started:os.Started) (H:Type) (enc:TypeId×Value->H) :
 ReturnsInHanded {} Tryz.checked os 11 .any (λ w args=>(Rows.costTriesSpec.pre enc Tryz.prog Tryz.f11 [] false w args/\laidMetH Tryz.prog Rows.costTriesRow.laid w)/\sizedMet enc Tryz.prog Tryz.f11 (OpenSpec.ofChange Rows.costTriesSpec) false w args)
  (Rows.costTriesSpec.post enc Tryz.prog Tryz.f11 false true false false):=by
 refine returnsInHanded_of_change_and (C:=Tryz.checked) (X:=λ w _=>laidMetH Tryz.prog Rows.costTriesRow.laid w) (λ _ _ _ hh h=>h.of_heap hh) jzx started (by kernel_rfl) Tryz.func11
  (ChangeSpec.witness_at (enc:=enc) (C:=Tryz.checked) (os:=os) (X:=λ w _=>laidMetH Tryz.prog Rows.costTriesRow.laid w) false (ju0 os) #[.agg #[.int .u64 0,.slice none 0 0,.bool false,.int .i64 0,.slice none 0 0,.slice none 0 0,.int .i64 0,.int .i64 0],.int .i64 0,.int .i64 0,.slice none 0 0] 8 rfl (by kernel_rfl) (by kernel_rfl) (by kernel_rfl) (by kernel_rfl) (by kernel_rfl)
    (laidMetH_of_parts (laidMet_of_run' 8 (by kernel_rfl) (by kernel_rfl)) (by kernel_rfl))) ?_
 intro W base args ds gs before hval0 hW hcnd hsz0 hL _
 have hsz:(DataW.weightsEach Tryz.prog (Tryz.f11.params.toList++Rows.costTriesSpec.plain.varTypes Tryz.prog) (ds++gs)).all (·<=reachBytes)=true:=hsz0
 have hval:∀ (j:Nat) t v,Tryz.f11.params[j]? = some t->args[j]? = some v->Value.okWide Tryz.prog W .any base t v:=hval0
 have hW':=hW
 obtain ⟨p,q,hA0,hV,rfl,hfz,hnd⟩:=hW
 have hA:DataW.TrodAll enc Tryz.prog W 0 (λ _=>true) true Tryz.f11.params.toList args.toList ds p:=hA0
 rw [Tryz.params11] at hA hval hsz
 obtain ⟨v0,vs0,d0,ds0,p0,q0,hargs,rfl,rfl,h0,r0⟩:=trodAll_cons hA
 obtain ⟨v1,vs1,d1,ds1,p1,q1,rfl,rfl,rfl,h1,r1⟩:=trodAll_cons r0
 obtain ⟨v2,vs2,d2,ds2,p2,q2,rfl,rfl,rfl,h2,r2⟩:=trodAll_cons r1
 obtain ⟨v3,vs3,d3,ds3,p3,q3,rfl,rfl,rfl,h3,r3⟩:=trodAll_cons r2
 obtain ⟨rfl,rfl,rfl⟩:=trodAll_nil r3
 obtain rfl:args = #[v0,v1,v2,v3]:=by cases args;simp_all
 obtain ⟨rfl,rfl⟩:=trodVars_none hV
 have lt0:∀ x∈p0,x.block < W.heap.size:=by obtain ⟨m,hm⟩:=h0;exact DataW.trod_lt m _ _ _ hm
 have lt1:∀ x∈p1,x.block < W.heap.size:=by obtain ⟨m,hm⟩:=h1;exact DataW.trod_lt m _ _ _ hm
 have lt2:∀ x∈p2,x.block < W.heap.size:=by obtain ⟨m,hm⟩:=h2;exact DataW.trod_lt m _ _ _ hm
 have lt3:∀ x∈p3,x.block < W.heap.size:=by obtain ⟨m,hm⟩:=h3;exact DataW.trod_lt m _ _ _ hm
 have walk:Calls Tryz.prog 11 #[v0,v1,v2,v3] W λ en w'=>en = .returned (.bool true)/\Below W.heap.size W w':=by
  obtain ⟨cs,e,z,hh,hU,hT⟩:=zci (W:=W) hL
  have hG:∀ p∈[(3,Obj.cells cs e z)],W.heap[p.1]? = some p.2:=λ p hp=>by rw [List.mem_singleton] at hp;subst hp;exact hh
  have hU8:U8 [(3,Obj.cells cs e z)]:=λ p hp=>by rw [List.mem_singleton] at hp;subst hp;exact ⟨_,_,_,rfl,hU⟩
  have fit:∀ (j:Nat) t d,[62,3,3,23][j]? = some t->[d0,d1,d2,d3][j]? = some d->j0f Tryz.prog t d:=λ j t d ht hd n hn=>by
   have:=List.all_eq_true.1 hsz _ (DataW.weights_mem_each (j:=j) (by rw [List.getElem?_append_left (List.getElem?_eq_some_iff.1 ht).1]; exact ht) (by rw [List.getElem?_append_left (List.getElem?_eq_some_iff.1 hd).1]; exact hd) n hn)
   simpa using this
  obtain ⟨k0,rfl,_⟩:=okWide_struct Tryz.underlying62 (hval 0 62 v0 rfl rfl)
  obtain ⟨u0,rr0,n0,g0⟩:=jzd hU8 hG (k:=4) (ls:=z5o) (by kernel_rfl) (by kernel_rfl) h0 (fit 0 _ _ rfl rfl)
  obtain ⟨q0,a1_0,c1_0,a4_0,c4_0,a5_0,c5_0,rfl,hq0,hqR0,hc4_0,hc5_0⟩:=jze n0 g0
  obtain ⟨z1,rfl,_,_,hz1⟩:=open_int Tryz.underlying3 (hval 1 3 v1 rfl rfl) h1
  obtain ⟨z2,rfl,_,_,hz2⟩:=open_int Tryz.underlying3 (hval 2 3 v2 rfl rfl) h2
  obtain ⟨u3,rr3,g3⟩:=jzf (b0:=base) hU8 hG (k:=4) (es:=evL) (B:=48) Tryz.underlying23 (hval 3 23 v3 rfl rfl) (by kernel_rfl) (by kernel_rfl) h3 (fit 3 _ _ rfl rfl)
  obtain ⟨a3,c3,l3,rfl,hc3,hb3,ha3,hr3⟩:=j0q g3
  refine jud (jjg (zce hh hT)) hG (.cons (.agg rr0) (.cons (.flat rfl) (.cons (.flat rfl) (.cons rr3 .nil)))) ?_
  obtain ⟨v,S',h1,h2,rfl⟩:=zjb (c1:=c1_0) (c4:=c4_0) (c5:=c5_0) (lc:=c3) (it:=z1) (tr:=z2) hq0 hc4_0 (λ x hx=>(hqR0.X x hx).1) ha3 (λ x hx=>⟨((hr3 x hx).ma).1,by have:=((hr3 x hx).ma).2;omega⟩) (λ x hx=>by have:=((hr3 x hx).ti).2;omega)
  exact ⟨S',h1,h2⟩
 refine walk.mono λ e W' ⟨he,bel⟩=>?_
 subst he
 exact ⟨_,rfl,_,_,_,[],_,[],hW',trodAll_mk1 (shut_bool Tryz.underlying4 _),(trodAll_cons_mk (Below.trod jtz (by kernel_rfl) (of_decide_eq_true (by kernel_rfl)) h0 bel lt0) (trodAll_cons_mk (Below.trod jtz (by kernel_rfl) (of_decide_eq_true (by kernel_rfl)) h1 bel lt1) (trodAll_cons_mk (Below.trod jtz (by kernel_rfl) (of_decide_eq_true (by kernel_rfl)) h2 bel lt2) (trodAll_cons_mk (Below.trod jtz (by kernel_rfl) (of_decide_eq_true (by kernel_rfl)) h3 bel lt3) trodAll_mk0)))),rfl,bel.frame _,λ h=>by cases h⟩
set_option maxHeartbeats 8000000 in
theorem costTries_holds:Rows.CostTriesSaid:=
 OpenClaim.holds_of_wide 11 Tryz.f11 rfl rfl rfl rfl rfl rfl rfl ⟨rfl,rfl,rfl,rfl,rfl⟩ rfl rfl rfl rfl rfl (by kernel_rfl) Tryz.func11 (by unfold joinedFacts;simp only [Bool.and_eq_true]; (repeat' apply And.intro) <;> (as_aux_lemma=>kernel_rfl))
  (of_decide_eq_true (by kernel_rfl)) (by unfold Func.isWrapper;first | (rw [if_pos (by decide +kernel)]; kernel_rfl) | (rw [if_neg (by decide +kernel)]; exact ⟨rfl,rfl⟩))
  (λ os started H enc _=>costTries_lifted os started H enc)
set_option maxHeartbeats 8000000 in
theorem costTries_card:Rows.CostTriesCardSaid:=
 Claim7.holds_tied_plain_at .later [] [.data, .data] true (true, "50421443ed03684a1a74ea7b08b4f622b7ca57c0161bf614025a3e15efc885e6") true
  costTries_holds (λ _ h=>by cases h) (by as_aux_lemma=>kernel_rfl) (λ _ h=>by cases h) costTries_row_tie rfl ⟨rfl,rfl⟩ (by as_aux_lemma=>kernel_rfl) rfl
  (λ f fn hf hfn=>by
    obtain rfl : f = 11 := Option.some.inj ((show Tryz.prog.funcNamed "bracken/brackenlaw22.CostTries" = some 11 by as_aux_lemma => kernel_rfl).symm.trans hf) |>.symm
    obtain rfl:fn=Tryz.f11:=(Option.some.inj (Tryz.func11.symm.trans hfn)).symm
    exact ⟨by as_aux_lemma=>kernel_rfl,λ j t ht=>by
     rw [Tryz.params11] at ht
     have hm:t∈[62,3,3,23]:=List.mem_of_getElem? (by simpa using ht)
     have hall:∀ t∈[62,3,3,23],Tryz.prog.wantsStandIn t=false:=by
      have : ([62,3,3,23].all λ t=>!Tryz.prog.wantsStandIn t)=true:=by as_aux_lemma=>kernel_rfl
      intro t ht
      simpa using List.all_eq_true.1 this t ht
     exact hall t hm⟩)
  (by as_aux_lemma=>kernel_rfl)
#print axioms costTries_card
end Go.Proofs.YtpecnaacgkgjmaaGreatDoor
