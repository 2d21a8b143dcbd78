/-
  The law TurnOnce of brackenlaw19 is true for every input: whatever one event does in a window, the step is done, or can be done once more.
  Conditions: none. (Its two listed variables are tied to the program's text by the card.)
-/
import Derived.Test.YtackinampfgklaaGreatDoorVL1
import Derived.Test.YtackinampfgklaaGreatDoorVR1
import Derived.Test.YtackinampfgklaaGreatDoorRows
import Derived.Test.YtackinampfgklaaGreatDoorTie
import Derived.Test.YtackinampfgklaaGreatDoorCards
import Derived.SevenTiedAt
import Derived.Handed
import Derived.ChangeSame
import Derived.ChangeVars
import Derived.JoinedOf
import Derived.RowKit
import Derived.LaidLaws
import Derived.LaidHandle
import Derived.ProofKit
import Derived.ChangeOld
import Derived.KernelRfl
import Derived.Test.YtackinampfgklaaGreatDoorVX1
import Derived.Test.YtackinampfgklaaGreatDoorVW2
import Derived.Test.YtackinampfgklaaGreatDoorVW3
set_option linter.unusedVariables false
set_option linter.unusedSectionVars false
set_option linter.unusedSimpArgs false
set_option linter.deprecated false
set_option linter.unusedVariables false
set_option linter.unusedSectionVars false
set_option linter.unusedSimpArgs false
namespace Go.Proofs.YtackinampfgklaaGreatDoor
open Go.ChangeShapes Go.WideShapes Go.ChangeAt Go.RowKit Go.AM

theorem own_:ownKnob Tryz.prog.godebug=none:=by kernel_rfl
theorem laidOut_:laidOutB Tryz.prog=true:=by kernel_rfl
theorem lits64:(Rows.laid_math_bits_deBruijn64tab:DataW Unit) = .agg (Lib.deBruijn64tab.map fun n:Nat=>.lit (.int .u8 (n:Int))):=by kernel_rfl
theorem gnum64 : Tryz.prog.globalNamed "math/bits.deBruijn64tab" = some 3 := by kernel_rfl
theorem gtype64:((Tryz.prog.globals[3]?).map (·.type)).bind Tryz.prog.underlying=some (.array 64 5):=by kernel_rfl
theorem cells_u8:Tryz.prog.cellsOf 5=1:=by kernel_rfl
theorem u8_:Tryz.prog.underlying 5=some (.int .u8):=by kernel_rfl
theorem gcells64:∀ t,(Tryz.prog.globals[3]?).map (·.type)=some t→Tryz.prog.cellsOf t=64:=by
  intro t ht
  have h:((Tryz.prog.globals[3]?).map (·.type)).map Tryz.prog.cellsOf=some 64:=by kernel_rfl
  rw [ht] at h
  exact Option.some.inj h

theorem tab_obj {W : World} (h : laidMet Tryz.prog [("math/bits.deBruijn32tab", Rows.laid_math_bits_deBruijn32tab), ("math/bits.deBruijn64tab", Rows.laid_math_bits_deBruijn64tab)] W) :
    ∃ cs e z,W.heap[3]? = some (.cells cs e z)∧(∀ v∈cs,∃ n,v=Value.int .u8 n)∧Tab W:=by
  obtain ⟨ps,⟨_,_,_,_,_,_,_,_,_,_,hr,_⟩,_⟩:=h
  obtain ⟨g,t,cs,fuel,p,q,hg,ht,hvar,hd,_,_⟩:=hr
  obtain rfl:=Option.some.inj (gnum64.symm.trans hg)
  have hu:=gtype64
  rw [ht] at hu
  simp only [Option.bind_some] at hu
  rw [lits64] at hd
  obtain ⟨xs,m,rfl,hx,hlen,hxl,hat⟩:=DataW.trod_array hu hd
  injection hx with hx1 hx2
  injection hx1 with hx1
  rw [gcells64 t ht] at hlen
  have hcell:∀ j,j < 64→∃ n,cs.toList[j]? = some (.int .u8 n)∧n=((Lib.deBruijn64tab.getD j 0:Nat):Int):=by
    intro j hj
    have hi:=hat j hj
    rw [cells_u8,List.getElem?_eq_getElem (by omega)] at hi
    have e1:(xs.map (·.1))[j]? = some (xs[j]'(by omega)).1:=by rw [List.getElem?_map,List.getElem?_eq_getElem (by omega)]; rfl
    rw [← hx1,List.getElem?_map] at e1
    have e2:Lib.deBruijn64tab[j]? = some (Lib.deBruijn64tab.getD j 0):=by
      rw [List.getD_eq_getElem?_getD,List.getElem?_eq_getElem (show j < Lib.deBruijn64tab.length from hj)]; rfl
    rw [e2] at e1
    simp only [Option.map_some,Option.some.injEq] at e1
    obtain ⟨n,hc,hy,_⟩:=DataW.trod_int u8_ hi
    rw [hy] at e1
    simp only [DataW.lit.injEq,Lit.int.injEq,true_and] at e1
    have : ((cs.toList.drop (j*1)).take 1)[0]? = some (.int .u8 n):=by rw [hc]; rfl
    rw [List.getElem?_take,if_pos (by omega),List.getElem?_drop] at this
    simp only [Nat.mul_one,Nat.add_zero] at this
    exact ⟨n,this,e1.symm⟩
  obtain ⟨e,z,hheap⟩:∃ e z,W.heap[3]? = some (.cells cs e z):=by
    simp only [World.var?,hg,Option.bind_some] at hvar
    split at hvar
    · rename_i e z hh;cases hvar;exact ⟨_,_,hh⟩
    · cases hvar
  refine ⟨cs,e,z,hheap,fun v hv=>?_,fun j hj=>?_⟩
  · obtain ⟨j,hj⟩:=List.getElem?_of_mem (Array.mem_toList_iff.2 hv)
    have hj64:j < 64:=by rw [← hlen]; exact (List.getElem?_eq_some_iff.1 hj).1
    obtain ⟨n,h1,_⟩:=hcell j hj64
    rw [hj] at h1;exact ⟨n,Option.some.inj h1⟩
  · obtain ⟨n,h1,h2⟩:=hcell j hj
    rw [World.var?_cell hg hvar j,← Array.getElem?_toList,h1,h2]
theorem tab_gt {W:World} {cs:Array Value} {e:TypeId} {z:Nat×Nat} (hh:W.heap[3]? = some (.cells cs e z)) (hT:Tab W):GT [(3,Obj.cells cs e z)]:=by
  intro w hw j hj
  have h1:=hw _ (List.mem_singleton.2 rfl)
  have h2:=hT j hj
  unfold World.cell? at h2 ⊢
  rw [hh] at h2
  dsimp only at h1 ⊢
  rw [h1]; exact h2

def tabCells (l:List Nat):Array Value:=(l.map fun n:Nat=>Value.int .u8 (n:Int)).toArray
def layTab (l:List Nat):Obj→Obj
  | .cells _ t frozen => .cells (tabCells l) t frozen
  | o => o
noncomputable def laidWorld (os:Os):World:=
  { World.holding Tryz.prog os ⟨#[],#[],[]⟩ with heap:=((World.holding Tryz.prog os ⟨#[],#[],[]⟩).heap.modify 2 (layTab Lib.deBruijn32tab)).modify 3 (layTab Lib.deBruijn64tab) }
end Go.Proofs.YtackinampfgklaaGreatDoor
set_option linter.unusedVariables false
set_option linter.unusedSectionVars false
set_option linter.unusedSimpArgs false
namespace Go.Proofs.YtackinampfgklaaGreatDoor
open Go.ChangeShapes Go.WideShapes Go.ChangeAt Go.RowKit Go.AM

set_option maxRecDepth 100000 in
theorem open_sl0 {H:Type} {enc:TypeId×Value→H} {w:World} {base b0:Nat} {r:Reach} {spare:Nat→Bool} {held:Bool} {G:List (Nat×Obj)} (hU:U8 G) (hG:∀ p∈G,w.heap[p.1]? = some p.2)
    {k:Nat} {t e:TypeId} {es:List Fl} {B:Nat} {v:Value} {d:DataW H} {p:List MemPlace} (hu:Tryz.prog.underlying t=some (.slice e)) (hval:Value.okWide Tryz.prog w r b0 t v)
    (hl:leafsL Tryz.prog k t=some [.sl es B]) (hc:Tryz.prog.cellsOf t=1) (h:DataW.Trod enc Tryz.prog w base spare held t v d p) (hfit:Fits Tryz.prog t d) :
    ∃ u,VR (T0 G w) u v∧LV (S0 G w) (.sl es B) u:=by
  obtain ⟨a,n,c,rfl⟩:=okWide_slice hu hval
  obtain ⟨us,h1,h2,h3⟩:=open_cells0 (enc:=enc) (w:=w) hU hG (ls:=[.sl es B]) hl hc h hfit
  match us,h2 with
  | [u], _ =>
    obtain ⟨u',e,h4⟩:=h3 0 _ rfl
    cases e
    cases h1 with
    | cons x y=>exact ⟨u,x,h4⟩
def evL:List Fl:=[some .i64,some .i64,some .i64,some .i64,some .i64,some .u64]
structure EvR (x:Ev):Prop where
  it:i64p x.it
  tr:i64p x.tr
  wi:i64p x.wi
  ti:i64p x.ti
  ad:i64p x.ad
  ma:u64p x.ma
theorem dec_ev {c:List Value} (hc:c.length=evL.length) (hat:∀ (j:Nat) l v,evL[j]? = some l→c[j]? = some v→FlOk l v):∃ x:Ev,EvR x∧x.cells=c:=by
  match c,hc with
  | [v0, v1, v2, v3, v4, v5], _ =>
    obtain ⟨x0,rfl,h0⟩:=hat 0 _ _ rfl rfl
    obtain ⟨x1,rfl,h1⟩:=hat 1 _ _ rfl rfl
    obtain ⟨x2,rfl,h2⟩:=hat 2 _ _ rfl rfl
    obtain ⟨x3,rfl,h3⟩:=hat 3 _ _ rfl rfl
    obtain ⟨x4,rfl,h4⟩:=hat 4 _ _ rfl rfl
    obtain ⟨x5,rfl,h5⟩:=hat 5 _ _ rfl rfl
    exact ⟨⟨x0,x1,x2,x3,x4,x5⟩,⟨wf_i64 h0,wf_i64 h1,wf_i64 h2,wf_i64 h3,wf_i64 h4,wf_u64 h5⟩,rfl⟩
def evF:List Lf:=evL.map .fl
theorem open_evS {S:St} {us:List Value} (hl:us.length=evF.length) (h:∀ (j:Nat) l,evF[j]? = some l→∃ u,us[j]? = some u∧LV S l u):∃ x:Ev,EvR x∧us=x.cells:=by
  obtain ⟨x,h1,h2⟩:=dec_ev (c:=us) (by simpa [evF] using hl) (fun j l v hj hv=>by
    obtain ⟨u,h3,h4⟩:=h j (.fl l) (by simp [evF,hj])
    rw [hv] at h3;cases h3;exact h4)
  exact ⟨x,h1,h2.symm⟩
theorem LV_words {S:St} {B:Nat} {u:Value} (h:LV S (.sl [some .u64] B) u):∃ a c l,u = .slice a l.length c∧l.length≤c∧l.length*B≤reachBytes∧Ar S a l.length 1 eU l∧∀ x∈l,u64p x:=
  h.listC eU u64p (fun _=>rfl) fun c hc hat=>by
    match c,hc with
    | [v],_=>
      obtain ⟨n,rfl,hw⟩:=hat 0 _ _ rfl rfl
      exact ⟨n,wf_u64 hw,rfl⟩
theorem LV_axes {S:St} {B:Nat} {u:Value} (h:LV S (.sl [some .i64,none] B) u):∃ a c l,u = .slice a l.length c∧l.length≤c∧l.length*B≤reachBytes∧Ar S a l.length 2 eAx l∧∀ x∈l,axR x:=
  h.listC eAx axR (fun _=>rfl) fun c hc hat=>by
    match c,hc with
    | [v0,v1],_=>
      obtain ⟨n,rfl,hw⟩:=hat 0 _ _ rfl rfl
      obtain ⟨b,rfl⟩:=hat 1 _ _ rfl rfl
      exact ⟨⟨n,b⟩,wf_i64 hw,rfl⟩
end Go.Proofs.YtackinampfgklaaGreatDoor
set_option linter.unusedVariables false
set_option linter.unusedSectionVars false
set_option linter.unusedSimpArgs false
namespace Go.Proofs.YtackinampfgklaaGreatDoor
open Go.ChangeShapes Go.WideShapes Go.ChangeAt Go.RowKit Go.AM
def stpL:List Lf:=[.fl (some .i64),.fl none,.fl (some .i64),.fl (some .i64),.fl (some .i64)]
theorem open_stp {S:St} {us:List Value} (hl:us.length=stpL.length) (h:∀ (j:Nat) l,stpL[j]? = some l→∃ u,us[j]? = some u∧LV S l u):∃ s:Stp,us=spC s:=by
  match us,hl with
  | [u5, u6, u7, u8, u9], _ =>
    obtain ⟨_,e,h5⟩:=h 0 _ rfl;cases e
    obtain ⟨_,e,h6⟩:=h 1 _ rfl;cases e
    obtain ⟨_,e,h7⟩:=h 2 _ rfl;cases e
    obtain ⟨_,e,h8⟩:=h 3 _ rfl;cases e
    obtain ⟨_,e,h9⟩:=h 4 _ rfl;cases e
    obtain ⟨x5,rfl,-⟩:=h5.i64
    obtain ⟨x6,rfl⟩:=h6.bool
    obtain ⟨x7,rfl,-⟩:=h7.i64
    obtain ⟨x8,rfl,-⟩:=h8.i64
    obtain ⟨x9,rfl,-⟩:=h9.i64
    exact ⟨⟨x5,x6,⟨x7,x8,x9⟩⟩,rfl⟩
end Go.Proofs.YtackinampfgklaaGreatDoor
set_option linter.unusedVariables false
set_option linter.unusedSectionVars false
set_option linter.unusedSimpArgs false
namespace Go.Proofs.YtackinampfgklaaGreatDoor
open Go.ChangeShapes Go.WideShapes Go.ChangeAt Go.RowKit Go.AM
set_option maxRecDepth 100000 in
theorem turnOnce_lifted (os:Os) (started:os.Started) (H:Type) (enc:TypeId×Value→H) :
    ReturnsInHanded {} Tryz.checked os 14 .any (fun w args=>(Rows.turnOnceSpec.pre enc Tryz.prog Tryz.f14 [] false w args∧laidMetH Tryz.prog Rows.turnOnceRow.laid w)∧sizedMet enc Tryz.prog Tryz.f14 (OpenSpec.ofChange Rows.turnOnceSpec) false w args)
      (Rows.turnOnceSpec.post enc Tryz.prog Tryz.f14 false true false false):=by
  refine returnsInHanded_of_change_and (C:=Tryz.checked) (X:=fun w _=>laidMetH Tryz.prog Rows.turnOnceRow.laid w) (fun _ _ _ hh h=>h.of_heap hh) own_ started (by kernel_rfl) Tryz.func14
    (ChangeSpec.witness_at (enc:=enc) (C:=Tryz.checked) (os:=os) (X:=fun w _=>laidMetH Tryz.prog Rows.turnOnceRow.laid w) false (laidWorld os) #[.int .u64 0,.slice none 0 0,.bool false,.agg #[.int .i64 0,.bool false,.int .i64 0,.int .i64 0,.int .i64 0],.slice none 0 0,.agg #[.int .i64 0,.int .i64 0,.int .i64 0,.int .i64 0,.int .i64 0,.int .u64 0]] 8 rfl (by kernel_rfl) (by kernel_rfl) (by kernel_rfl) (by kernel_rfl) (by kernel_rfl)
      (laidMetH_of_parts (laidMet_of_run' 8 (by kernel_rfl) (by kernel_rfl)) (by kernel_rfl))) ?_
  intro W base args ds gs before hval0 hW hcnd hsz0 hL _
  have hsz:(DataW.weightsEach Tryz.prog (Tryz.f14.params.toList++Rows.turnOnceSpec.plain.varTypes Tryz.prog) (ds++gs)).all (·≤reachBytes)=true:=hsz0
  have hval:∀ (j:Nat) t v,Tryz.f14.params[j]? = some t→args[j]? = some v→Value.okWide Tryz.prog W .any base t v:=hval0
  have hW':=hW
  obtain ⟨p,q,hA0,hV,rfl,hfz,hnd⟩:=hW
  have hA:DataW.TrodAll enc Tryz.prog W 0 (fun _=>true) true Tryz.f14.params.toList args.toList ds p:=hA0
  rw [Tryz.params14] at hA hval hsz
  obtain ⟨v0,vs0,d0,ds0,p0,q0,hargs,rfl,rfl,h0,r0⟩:=trodAll_cons hA
  obtain ⟨v1,vs1,d1,ds1,p1,q1,rfl,rfl,rfl,h1,r1⟩:=trodAll_cons r0
  obtain ⟨v2,vs2,d2,ds2,p2,q2,rfl,rfl,rfl,h2,r2⟩:=trodAll_cons r1
  obtain ⟨v3,vs3,d3,ds3,p3,q3,rfl,rfl,rfl,h3,r3⟩:=trodAll_cons r2
  obtain ⟨v4,vs4,d4,ds4,p4,q4,rfl,rfl,rfl,h4,r4⟩:=trodAll_cons r3
  obtain ⟨v5,vs5,d5,ds5,p5,q5,rfl,rfl,rfl,h5,r5⟩:=trodAll_cons r4
  obtain ⟨rfl,rfl,rfl⟩:=trodAll_nil r5
  obtain rfl:args = #[v0,v1,v2,v3,v4,v5]:=by cases args;simp_all
  obtain ⟨rfl,rfl⟩:=trodVars_none hV
  have lt0:∀ x∈p0,x.block < W.heap.size:=by obtain ⟨m,hm⟩:=h0;exact DataW.trod_lt m _ _ _ hm
  have lt1:∀ x∈p1,x.block < W.heap.size:=by obtain ⟨m,hm⟩:=h1;exact DataW.trod_lt m _ _ _ hm
  have lt2:∀ x∈p2,x.block < W.heap.size:=by obtain ⟨m,hm⟩:=h2;exact DataW.trod_lt m _ _ _ hm
  have lt3:∀ x∈p3,x.block < W.heap.size:=by obtain ⟨m,hm⟩:=h3;exact DataW.trod_lt m _ _ _ hm
  have lt4:∀ x∈p4,x.block < W.heap.size:=by obtain ⟨m,hm⟩:=h4;exact DataW.trod_lt m _ _ _ hm
  have lt5:∀ x∈p5,x.block < W.heap.size:=by obtain ⟨m,hm⟩:=h5;exact DataW.trod_lt m _ _ _ hm
  have walk:Calls Tryz.prog 14 #[v0,v1,v2,v3,v4,v5] W fun en w'=>en = .returned (.bool true)∧Below W.heap.size W w':=by
    obtain ⟨cs,e,z,hh,hU,hT⟩:=tab_obj (W:=W) hL
    have hG:∀ p∈[(3,Obj.cells cs e z)],W.heap[p.1]? = some p.2:=fun p hp=>by rw [List.mem_singleton] at hp;subst hp;exact hh
    have hU8:U8 [(3,Obj.cells cs e z)]:=fun p hp=>by rw [List.mem_singleton] at hp;subst hp;exact ⟨_,_,_,rfl,hU⟩
    have fit:∀ (j:Nat) t d,[24,25,4,29,22,56][j]? = some t→[d0,d1,d2,d3,d4,d5][j]? = some d→Fits Tryz.prog t d:=fun j t d ht hd n hn=>by
      have:=List.all_eq_true.1 hsz _ (DataW.weights_mem_each (j:=j) (by rw [List.getElem?_append_left (List.getElem?_eq_some_iff.1 ht).1]; exact ht) (by rw [List.getElem?_append_left (List.getElem?_eq_some_iff.1 hd).1]; exact hd) n hn)
      simpa using this
    obtain ⟨z0,rfl,_,_,hz0⟩:=open_int Tryz.underlying24 (hval 0 24 v0 rfl rfl) h0
    obtain ⟨u1,rr1,g1⟩:=open_sl0 (b0:=base) hU8 hG (k:=4) (es:=[some .i64,none]) (B:=16) Tryz.underlying25 (hval 1 25 v1 rfl rfl) (by kernel_rfl) (by kernel_rfl) h1 (fit 1 _ _ rfl rfl)
    obtain ⟨a1,c1,l1,rfl,hc1,hb1,ha1,hr1⟩:=LV_axes g1
    obtain ⟨z2,rfl,_⟩:=open_bool Tryz.underlying4 (hval 2 4 v2 rfl rfl) h2
    obtain ⟨k3,rfl,_⟩:=okWide_struct Tryz.underlying29 (hval 3 29 v3 rfl rfl)
    obtain ⟨u3,rr3,n3,g3⟩:=open_cells0 hU8 hG (k:=5) (ls:=stpL) (by kernel_rfl) (by kernel_rfl) h3 (fit 3 _ _ rfl rfl)
    obtain ⟨s3,rfl⟩:=open_stp n3 g3
    obtain ⟨u4,rr4,g4⟩:=open_sl0 (b0:=base) hU8 hG (k:=4) (es:=[some .u64]) (B:=8) Tryz.underlying22 (hval 4 22 v4 rfl rfl) (by kernel_rfl) (by kernel_rfl) h4 (fit 4 _ _ rfl rfl)
    obtain ⟨a4,c4,l4,rfl,hc4,hb4,ha4,hr4⟩:=LV_words g4
    obtain ⟨k5,rfl,_⟩:=okWide_struct Tryz.underlying56 (hval 5 56 v5 rfl rfl)
    obtain ⟨u5,rr5,n5,g5⟩:=open_cells0 hU8 hG (k:=4) (ls:=evF) (by kernel_rfl) (by kernel_rfl) h5 (fit 5 _ _ rfl rfl)
    obtain ⟨x5,hx5,rfl⟩:=open_evS n5 g5
    refine law_of (g_l19_TurnOnce_ok (tab_gt hh hT)) hG (.cons (.flat rfl) (.cons rr1 (.cons (.flat rfl) (.cons (.agg rr3) (.cons rr4 (.cons (.agg rr5) .nil)))))) ?_
    obtain ⟨v,S',h1,h2,rfl⟩:=(once19_law (p:=z0) ha1 (by have:=hb1;unfold reachBytes at this;omega) ha4 (fun y hy=>⟨(hr4 y hy).1,by have:=(hr4 y hy).2;omega⟩) (by have:=hx5.ma;exact ⟨this.1,by have:=this.2;omega⟩) (by have:=hx5.ti;exact (by have:=this.2;omega)))
    exact ⟨S',h1,h2⟩
  refine walk.mono fun e W' ⟨he,bel⟩=>?_
  subst he
  exact ⟨_,rfl,_,_,_,[],_,[],hW',trodAll_mk1 (shut_bool Tryz.underlying4 _),(trodAll_cons_mk (Below.trod laidOut_ (by kernel_rfl) (of_decide_eq_true (by kernel_rfl)) h0 bel lt0) (trodAll_cons_mk (Below.trod laidOut_ (by kernel_rfl) (of_decide_eq_true (by kernel_rfl)) h1 bel lt1) (trodAll_cons_mk (Below.trod laidOut_ (by kernel_rfl) (of_decide_eq_true (by kernel_rfl)) h2 bel lt2) (trodAll_cons_mk (Below.trod laidOut_ (by kernel_rfl) (of_decide_eq_true (by kernel_rfl)) h3 bel lt3) (trodAll_cons_mk (Below.trod laidOut_ (by kernel_rfl) (of_decide_eq_true (by kernel_rfl)) h4 bel lt4) (trodAll_cons_mk (Below.trod laidOut_ (by kernel_rfl) (of_decide_eq_true (by kernel_rfl)) h5 bel lt5) trodAll_mk0)))))),rfl,bel.frame _,fun h=>by cases h⟩

theorem turnOnce_holds:Rows.TurnOnceSaid:=
  OpenClaim.holds_of_wide 14 Tryz.f14 rfl rfl rfl rfl rfl rfl rfl ⟨rfl,rfl,rfl,rfl,rfl⟩ rfl rfl rfl rfl rfl (by kernel_rfl) Tryz.func14 (by kernel_rfl)
    (of_decide_eq_true (by kernel_rfl)) (by unfold Func.isWrapper;first | (rw [if_pos (by decide +kernel)]; kernel_rfl) | (rw [if_neg (by decide +kernel)]; exact ⟨rfl,rfl⟩))
    (fun os started H enc _=>turnOnce_lifted os started H enc)

theorem turnOnce_card:Rows.TurnOnceCardSaid:=
  Claim7.holds_tied_plain_at .later [] [.data, .data] true (true, "201aeff565d29d2380bb8b07c0f8e255d85d5935231db5185a59d90e18f96d6e") true
    turnOnce_holds (fun _ h=>by cases h) (by kernel_rfl) (fun _ h=>by cases h) turnOnce_row_tie rfl ⟨rfl,rfl⟩ (by kernel_rfl) rfl
    (fun f fn hf hfn=>by
      obtain rfl : f = 14 := Option.some.inj ((show Tryz.prog.funcNamed "bracken/brackenlaw19.TurnOnce" = some 14 by kernel_rfl).symm.trans hf) |>.symm
      obtain rfl:fn=Tryz.f14:=(Option.some.inj (Tryz.func14.symm.trans hfn)).symm
      exact ⟨by kernel_rfl,fun j t ht=>by
        rw [Tryz.params14] at ht
        have hm:t∈[24,25,4,29,22,56]:=List.mem_of_getElem? (by simpa using ht)
        have hall:∀ t∈[24,25,4,29,22,56],Tryz.prog.wantsStandIn t=false:=by
          have : ([24,25,4,29,22,56].all fun t=>!Tryz.prog.wantsStandIn t)=true:=by kernel_rfl
          intro t ht
          simpa using List.all_eq_true.1 this t ht
        exact hall t hm⟩)
    (by kernel_rfl)
#print axioms turnOnce_card
end Go.Proofs.YtackinampfgklaaGreatDoor
