/-
  The law TurnTicks of brackenlaw19 is true for every input: whatever strikes, how many accesses a step has.
  Conditions: none. (Its two listed variables are tied to the program's text by the card.)
-/
import Derived.Test.YtackinampfgklaaGreatDoorVL1
import Derived.Test.YtackinampfgklaaGreatDoorVR1
import Derived.Test.YtackinampfgklaaGreatDoorRows
import Derived.Test.YtackinampfgklaaGreatDoorTie
import Derived.Test.YtackinampfgklaaGreatDoorCards
import Derived.SevenTiedAt
import Derived.Handed
import Derived.ChangeSame
import Derived.ChangeVars
import Derived.JoinedOf
import Derived.RowKit
import Derived.LaidLaws
import Derived.LaidHandle
import Derived.ProofKit
import Derived.ChangeOld
import Derived.KernelRfl
import Derived.Test.YtackinampfgklaaGreatDoorVX1
import Derived.Test.YtackinampfgklaaGreatDoorVW2
import Derived.Test.YtackinampfgklaaGreatDoorVW3
set_option linter.unusedVariables false
set_option linter.unusedSectionVars false
set_option linter.unusedSimpArgs false
set_option linter.deprecated false
set_option linter.unusedVariables false
set_option linter.unusedSectionVars false
set_option linter.unusedSimpArgs false
namespace Go.Proofs.YtackinampfgklaaGreatDoor
open Go.ChangeShapes Go.WideShapes Go.ChangeAt Go.RowKit Go.AM

theorem own_:ownKnob Tryz.prog.godebug=none:=by kernel_rfl
theorem laidOut_:laidOutB Tryz.prog=true:=by kernel_rfl
theorem lits64:(Rows.laid_math_bits_deBruijn64tab:DataW Unit) = .agg (Lib.deBruijn64tab.map fun n:Nat=>.lit (.int .u8 (n:Int))):=by kernel_rfl
theorem gnum64 : Tryz.prog.globalNamed "math/bits.deBruijn64tab" = some 3 := by kernel_rfl
theorem gtype64:((Tryz.prog.globals[3]?).map (·.type)).bind Tryz.prog.underlying=some (.array 64 5):=by kernel_rfl
theorem cells_u8:Tryz.prog.cellsOf 5=1:=by kernel_rfl
theorem u8_:Tryz.prog.underlying 5=some (.int .u8):=by kernel_rfl
theorem gcells64:∀ t,(Tryz.prog.globals[3]?).map (·.type)=some t→Tryz.prog.cellsOf t=64:=by
  intro t ht
  have h:((Tryz.prog.globals[3]?).map (·.type)).map Tryz.prog.cellsOf=some 64:=by kernel_rfl
  rw [ht] at h
  exact Option.some.inj h

theorem tab_obj {W : World} (h : laidMet Tryz.prog [("math/bits.deBruijn32tab", Rows.laid_math_bits_deBruijn32tab), ("math/bits.deBruijn64tab", Rows.laid_math_bits_deBruijn64tab)] W) :
    ∃ cs e z,W.heap[3]? = some (.cells cs e z)∧(∀ v∈cs,∃ n,v=Value.int .u8 n)∧Tab W:=by
  obtain ⟨ps,⟨_,_,_,_,_,_,_,_,_,_,hr,_⟩,_⟩:=h
  obtain ⟨g,t,cs,fuel,p,q,hg,ht,hvar,hd,_,_⟩:=hr
  obtain rfl:=Option.some.inj (gnum64.symm.trans hg)
  have hu:=gtype64
  rw [ht] at hu
  simp only [Option.bind_some] at hu
  rw [lits64] at hd
  obtain ⟨xs,m,rfl,hx,hlen,hxl,hat⟩:=DataW.trod_array hu hd
  injection hx with hx1 hx2
  injection hx1 with hx1
  rw [gcells64 t ht] at hlen
  have hcell:∀ j,j < 64→∃ n,cs.toList[j]? = some (.int .u8 n)∧n=((Lib.deBruijn64tab.getD j 0:Nat):Int):=by
    intro j hj
    have hi:=hat j hj
    rw [cells_u8,List.getElem?_eq_getElem (by omega)] at hi
    have e1:(xs.map (·.1))[j]? = some (xs[j]'(by omega)).1:=by rw [List.getElem?_map,List.getElem?_eq_getElem (by omega)]; rfl
    rw [← hx1,List.getElem?_map] at e1
    have e2:Lib.deBruijn64tab[j]? = some (Lib.deBruijn64tab.getD j 0):=by
      rw [List.getD_eq_getElem?_getD,List.getElem?_eq_getElem (show j < Lib.deBruijn64tab.length from hj)]; rfl
    rw [e2] at e1
    simp only [Option.map_some,Option.some.injEq] at e1
    obtain ⟨n,hc,hy,_⟩:=DataW.trod_int u8_ hi
    rw [hy] at e1
    simp only [DataW.lit.injEq,Lit.int.injEq,true_and] at e1
    have : ((cs.toList.drop (j*1)).take 1)[0]? = some (.int .u8 n):=by rw [hc]; rfl
    rw [List.getElem?_take,if_pos (by omega),List.getElem?_drop] at this
    simp only [Nat.mul_one,Nat.add_zero] at this
    exact ⟨n,this,e1.symm⟩
  obtain ⟨e,z,hheap⟩:∃ e z,W.heap[3]? = some (.cells cs e z):=by
    simp only [World.var?,hg,Option.bind_some] at hvar
    split at hvar
    · rename_i e z hh;cases hvar;exact ⟨_,_,hh⟩
    · cases hvar
  refine ⟨cs,e,z,hheap,fun v hv=>?_,fun j hj=>?_⟩
  · obtain ⟨j,hj⟩:=List.getElem?_of_mem (Array.mem_toList_iff.2 hv)
    have hj64:j < 64:=by rw [← hlen]; exact (List.getElem?_eq_some_iff.1 hj).1
    obtain ⟨n,h1,_⟩:=hcell j hj64
    rw [hj] at h1;exact ⟨n,Option.some.inj h1⟩
  · obtain ⟨n,h1,h2⟩:=hcell j hj
    rw [World.var?_cell hg hvar j,← Array.getElem?_toList,h1,h2]
theorem tab_gt {W:World} {cs:Array Value} {e:TypeId} {z:Nat×Nat} (hh:W.heap[3]? = some (.cells cs e z)) (hT:Tab W):GT [(3,Obj.cells cs e z)]:=by
  intro w hw j hj
  have h1:=hw _ (List.mem_singleton.2 rfl)
  have h2:=hT j hj
  unfold World.cell? at h2 ⊢
  rw [hh] at h2
  dsimp only at h1 ⊢
  rw [h1]; exact h2

def tabCells (l:List Nat):Array Value:=(l.map fun n:Nat=>Value.int .u8 (n:Int)).toArray
def layTab (l:List Nat):Obj→Obj
  | .cells _ t frozen => .cells (tabCells l) t frozen
  | o => o
noncomputable def laidWorld (os:Os):World:=
  { World.holding Tryz.prog os ⟨#[],#[],[]⟩ with heap:=((World.holding Tryz.prog os ⟨#[],#[],[]⟩).heap.modify 2 (layTab Lib.deBruijn32tab)).modify 3 (layTab Lib.deBruijn64tab) }
end Go.Proofs.YtackinampfgklaaGreatDoor
set_option linter.unusedVariables false
set_option linter.unusedSectionVars false
set_option linter.unusedSimpArgs false
namespace Go.Proofs.YtackinampfgklaaGreatDoor
open Go.ChangeShapes Go.WideShapes Go.ChangeAt Go.RowKit Go.AM

def evL:List Fl:=[some .i64,some .i64,some .i64,some .i64,some .i64,some .u64]
structure EvR (x:Ev):Prop where
  it:i64p x.it
  tr:i64p x.tr
  wi:i64p x.wi
  ti:i64p x.ti
  ad:i64p x.ad
  ma:u64p x.ma
theorem dec_ev {c:List Value} (hc:c.length=evL.length) (hat:∀ (j:Nat) l v,evL[j]? = some l→c[j]? = some v→FlOk l v):∃ x:Ev,EvR x∧x.cells=c:=by
  match c,hc with
  | [v0, v1, v2, v3, v4, v5], _ =>
    obtain ⟨x0,rfl,h0⟩:=hat 0 _ _ rfl rfl
    obtain ⟨x1,rfl,h1⟩:=hat 1 _ _ rfl rfl
    obtain ⟨x2,rfl,h2⟩:=hat 2 _ _ rfl rfl
    obtain ⟨x3,rfl,h3⟩:=hat 3 _ _ rfl rfl
    obtain ⟨x4,rfl,h4⟩:=hat 4 _ _ rfl rfl
    obtain ⟨x5,rfl,h5⟩:=hat 5 _ _ rfl rfl
    exact ⟨⟨x0,x1,x2,x3,x4,x5⟩,⟨wf_i64 h0,wf_i64 h1,wf_i64 h2,wf_i64 h3,wf_i64 h4,wf_u64 h5⟩,rfl⟩
theorem LV_evs {S:St} {B:Nat} {u:Value} (h:LV S (.sl evL B) u):∃ a c l,u = .slice a l.length c∧l.length≤c∧l.length*B≤reachBytes∧Ar S a l.length 6 Ev.cells l∧∀ x∈l,EvR x:=
  h.listC Ev.cells EvR (fun _=>rfl) fun c hc hat=>dec_ev hc hat
theorem LV_words {S:St} {B:Nat} {u:Value} (h:LV S (.sl [some .u64] B) u):∃ a c l,u = .slice a l.length c∧l.length≤c∧l.length*B≤reachBytes∧Ar S a l.length 1 eU l∧∀ x∈l,u64p x:=
  h.listC eU u64p (fun _=>rfl) fun c hc hat=>by
    match c,hc with
    | [v],_=>
      obtain ⟨n,rfl,hw⟩:=hat 0 _ _ rfl rfl
      exact ⟨n,wf_u64 hw,rfl⟩
end Go.Proofs.YtackinampfgklaaGreatDoor
set_option linter.unusedVariables false
set_option linter.unusedSectionVars false
set_option linter.unusedSimpArgs false
namespace Go.Proofs.YtackinampfgklaaGreatDoor
open Go.ChangeShapes Go.WideShapes Go.ChangeAt Go.RowKit Go.AM
def jobL:List Lf:=[.sl [some .u64] 8,.sl evL 48,.fl (some .u64),.sl [some .i64,none] 16,.fl none,.fl (some .i64),.fl none,.fl (some .i64),.fl (some .i64),.fl (some .i64),.fl (some .i64),.fl (some .i64),.fl (some .i64)]
theorem open_job {S:St} {us:List Value} (hl:us.length=jobL.length) (h:∀ (j:Nat) l,jobL[j]? = some l→∃ u,us[j]? = some u∧LV S l u) :
    ∃ (j:Job) (a0:Option Addr) (c0:Nat) (a1:Option Addr) (c1:Nat) (a3:Option Addr) (c3:Nat),us=jC j a0 c0 a1 c1 a3 c3∧JA S j a0 a1 a3∧j.ws.length≤c0∧j.L.length≤c1:=by
  match us,hl with
  | [u0, u1, u2, u3, u4, u5, u6, u7, u8, u9, u10, u11, u12], _ =>
    obtain ⟨_,e,h0⟩:=h 0 _ rfl;cases e
    obtain ⟨_,e,h1⟩:=h 1 _ rfl;cases e
    obtain ⟨_,e,h2⟩:=h 2 _ rfl;cases e
    obtain ⟨_,e,h3⟩:=h 3 _ rfl;cases e
    obtain ⟨_,e,h4⟩:=h 4 _ rfl;cases e
    obtain ⟨_,e,h5⟩:=h 5 _ rfl;cases e
    obtain ⟨_,e,h6⟩:=h 6 _ rfl;cases e
    obtain ⟨_,e,h7⟩:=h 7 _ rfl;cases e
    obtain ⟨_,e,h8⟩:=h 8 _ rfl;cases e
    obtain ⟨_,e,h9⟩:=h 9 _ rfl;cases e
    obtain ⟨_,e,h10⟩:=h 10 _ rfl;cases e
    obtain ⟨_,e,h11⟩:=h 11 _ rfl;cases e
    obtain ⟨_,e,h12⟩:=h 12 _ rfl;cases e
    obtain ⟨a0,c0,l0,rfl,e0,b0,r0,k0⟩:=LV_words h0
    obtain ⟨a1,c1,l1,rfl,e1,b1,r1,k1⟩:=LV_evs h1
    obtain ⟨P,rfl,hP⟩:=h2.u64
    obtain ⟨a3,c3,l3,rfl,b3,r3,k3⟩:=h3.axes
    obtain ⟨inv,rfl⟩:=h4.bool
    obtain ⟨x5,rfl,-⟩:=h5.i64
    obtain ⟨x6,rfl⟩:=h6.bool
    obtain ⟨x7,rfl,-⟩:=h7.i64
    obtain ⟨x8,rfl,-⟩:=h8.i64
    obtain ⟨x9,rfl,-⟩:=h9.i64
    obtain ⟨x10,rfl,-⟩:=h10.i64
    obtain ⟨x11,rfl,-⟩:=h11.i64
    obtain ⟨x12,rfl,-⟩:=h12.i64
    have hr47:=reachBytes_lt
    refine ⟨⟨l0,l1,P,l3,inv,⟨x5,x6,⟨x7,x8,x9⟩⟩,x10,x11,x12⟩,a0,c0,a1,c1,a3,c3,rfl,⟨r0,r1,r3,by dsimp only;omega,fun x hx=>?_,fun x hx=>?_,fun x hx=>?_⟩,e0,e1⟩
    · have:=k0 x hx;exact ⟨this.1,by have:=this.2;omega⟩
    · have:=(k1 x hx).ma;exact ⟨this.1,by have:=this.2;omega⟩
    · have:=(k1 x hx).ti;have:=this.2;omega
end Go.Proofs.YtackinampfgklaaGreatDoor
set_option linter.unusedVariables false
set_option linter.unusedSectionVars false
set_option linter.unusedSimpArgs false
namespace Go.Proofs.YtackinampfgklaaGreatDoor
open Go.ChangeShapes Go.WideShapes Go.ChangeAt Go.RowKit Go.AM
set_option maxRecDepth 100000 in
theorem turnTicks_lifted (os:Os) (started:os.Started) (H:Type) (enc:TypeId×Value→H) :
    ReturnsInHanded {} Tryz.checked os 10 .any (fun w args=>(Rows.turnTicksSpec.pre enc Tryz.prog Tryz.f10 [] false w args∧laidMetH Tryz.prog Rows.turnTicksRow.laid w)∧sizedMet enc Tryz.prog Tryz.f10 (OpenSpec.ofChange Rows.turnTicksSpec) false w args)
      (Rows.turnTicksSpec.post enc Tryz.prog Tryz.f10 false true false false):=by
  refine returnsInHanded_of_change_and (C:=Tryz.checked) (X:=fun w _=>laidMetH Tryz.prog Rows.turnTicksRow.laid w) (fun _ _ _ hh h=>h.of_heap hh) own_ started (by kernel_rfl) Tryz.func10
    (ChangeSpec.witness_at (enc:=enc) (C:=Tryz.checked) (os:=os) (X:=fun w _=>laidMetH Tryz.prog Rows.turnTicksRow.laid w) false (laidWorld os) #[.agg #[.slice none 0 0,.slice none 0 0,.int .u64 0,.slice none 0 0,.bool false,.int .i64 0,.bool false,.int .i64 0,.int .i64 0,.int .i64 0,.int .i64 0,.int .i64 0,.int .i64 0]] 8 rfl (by kernel_rfl) (by kernel_rfl) (by kernel_rfl) (by kernel_rfl) (by kernel_rfl)
      (laidMetH_of_parts (laidMet_of_run' 8 (by kernel_rfl) (by kernel_rfl)) (by kernel_rfl))) ?_
  intro W base args ds gs before hval0 hW hcnd hsz0 hL _
  have hsz:(DataW.weightsEach Tryz.prog (Tryz.f10.params.toList++Rows.turnTicksSpec.plain.varTypes Tryz.prog) (ds++gs)).all (·≤reachBytes)=true:=hsz0
  have hval:∀ (j:Nat) t v,Tryz.f10.params[j]? = some t→args[j]? = some v→Value.okWide Tryz.prog W .any base t v:=hval0
  have hW':=hW
  obtain ⟨p,q,hA0,hV,rfl,hfz,hnd⟩:=hW
  have hA:DataW.TrodAll enc Tryz.prog W 0 (fun _=>true) true Tryz.f10.params.toList args.toList ds p:=hA0
  rw [Tryz.params10] at hA hval hsz
  obtain ⟨v0,vs0,d0,ds0,p0,q0,hargs,rfl,rfl,h0,r0⟩:=trodAll_cons hA
  obtain ⟨rfl,rfl,rfl⟩:=trodAll_nil r0
  obtain rfl:args = #[v0]:=by cases args;simp_all
  obtain ⟨rfl,rfl⟩:=trodVars_none hV
  have lt0:∀ x∈p0,x.block < W.heap.size:=by obtain ⟨m,hm⟩:=h0;exact DataW.trod_lt m _ _ _ hm
  have walk:Calls Tryz.prog 10 #[v0] W fun en w'=>en = .returned (.bool true)∧Below W.heap.size W w':=by
    obtain ⟨cs,e,z,hh,hU,hT⟩:=tab_obj (W:=W) hL
    have hG:∀ p∈[(3,Obj.cells cs e z)],W.heap[p.1]? = some p.2:=fun p hp=>by rw [List.mem_singleton] at hp;subst hp;exact hh
    have hU8:U8 [(3,Obj.cells cs e z)]:=fun p hp=>by rw [List.mem_singleton] at hp;subst hp;exact ⟨_,_,_,rfl,hU⟩
    have fit:∀ (j:Nat) t d,[65][j]? = some t→[d0][j]? = some d→Fits Tryz.prog t d:=fun j t d ht hd n hn=>by
      have:=List.all_eq_true.1 hsz _ (DataW.weights_mem_each (j:=j) (by rw [List.getElem?_append_left (List.getElem?_eq_some_iff.1 ht).1]; exact ht) (by rw [List.getElem?_append_left (List.getElem?_eq_some_iff.1 hd).1]; exact hd) n hn)
      simpa using this
    obtain ⟨k0,rfl,_⟩:=okWide_struct Tryz.underlying65 (hval 0 65 v0 rfl rfl)
    obtain ⟨u0,rr0,n0,g0⟩:=open_cells0 hU8 hG (k:=5) (ls:=jobL) (by kernel_rfl) (by kernel_rfl) h0 (fit 0 _ _ rfl rfl)
    obtain ⟨j0,a0_0,c0_0,a1_0,c1_0,a3_0,c3_0,rfl,hj0,hw0,hl0⟩:=open_job n0 g0
    refine law_of (g_l19_TurnTicks_ok (tab_gt hh hT)) hG (.cons (.agg rr0) .nil) ?_
    obtain ⟨v,S',h1,h2,rfl⟩:=ticks19_law (c0:=c0_0) (c1:=c1_0) (c3:=c3_0) hj0
    exact ⟨S',h1,h2⟩
  refine walk.mono fun e W' ⟨he,bel⟩=>?_
  subst he
  exact ⟨_,rfl,_,_,_,[],_,[],hW',trodAll_mk1 (shut_bool Tryz.underlying4 _),(trodAll_cons_mk (Below.trod laidOut_ (by kernel_rfl) (of_decide_eq_true (by kernel_rfl)) h0 bel lt0) trodAll_mk0),rfl,bel.frame _,fun h=>by cases h⟩

theorem turnTicks_holds:Rows.TurnTicksSaid:=
  OpenClaim.holds_of_wide 10 Tryz.f10 rfl rfl rfl rfl rfl rfl rfl ⟨rfl,rfl,rfl,rfl,rfl⟩ rfl rfl rfl rfl rfl (by kernel_rfl) Tryz.func10 (by kernel_rfl)
    (of_decide_eq_true (by kernel_rfl)) (by unfold Func.isWrapper;first | (rw [if_pos (by decide +kernel)]; kernel_rfl) | (rw [if_neg (by decide +kernel)]; exact ⟨rfl,rfl⟩))
    (fun os started H enc _=>turnTicks_lifted os started H enc)

theorem turnTicks_card:Rows.TurnTicksCardSaid:=
  Claim7.holds_tied_plain_at .later [] [.data, .data] true (true, "201aeff565d29d2380bb8b07c0f8e255d85d5935231db5185a59d90e18f96d6e") true
    turnTicks_holds (fun _ h=>by cases h) (by kernel_rfl) (fun _ h=>by cases h) turnTicks_row_tie rfl ⟨rfl,rfl⟩ (by kernel_rfl) rfl
    (fun f fn hf hfn=>by
      obtain rfl : f = 10 := Option.some.inj ((show Tryz.prog.funcNamed "bracken/brackenlaw19.TurnTicks" = some 10 by kernel_rfl).symm.trans hf) |>.symm
      obtain rfl:fn=Tryz.f10:=(Option.some.inj (Tryz.func10.symm.trans hfn)).symm
      exact ⟨by kernel_rfl,fun j t ht=>by
        rw [Tryz.params10] at ht
        have hm:t∈[65]:=List.mem_of_getElem? (by simpa using ht)
        have hall:∀ t∈[65],Tryz.prog.wantsStandIn t=false:=by
          have : ([65].all fun t=>!Tryz.prog.wantsStandIn t)=true:=by kernel_rfl
          intro t ht
          simpa using List.all_eq_true.1 this t ht
        exact hall t hm⟩)
    (by kernel_rfl)
#print axioms turnTicks_card
end Go.Proofs.YtackinampfgklaaGreatDoor
