/-
  Part of the proof of a law: contracts of a few library functions. Conditions: none.
-/
import Derived.RangeFuncNested
import Derived.RangeFuncBound
import Derived.RangeFuncCalls
import Derived.RangeFuncLeaves
import Derived.RangeFuncBox
import Derived.Shelf.Abstract
import Derived.Shelf.RegionOpen
import Derived.WalkKit
import Derived.OwnWalkIn
import Derived.TacticsInMore
import Derived.LoopNIn
import Derived.LoopIn
import Derived.Maps.AppendAt
import Derived.KernelRfl
import Derived.Lib.Hide
import Derived.Shelf.Spec.TrailingZeros
import Derived.Test.YtpecnaacgkgjmaaGreatDoorProg
import Derived.Test.YtpecnaacgkgjmaaGreatDoorVP1
import Derived.BigQuiet
import Derived.Deep.QuietTactic
import Derived.IntWalk
import Derived.Shelf.Spec.BitsCarry
import Derived.Laws.MathBits
import Derived.Laws.BitsLemmas
import Derived.Test.YtpecnaacgkgjmaaGreatDoorShelf
import Derived.Test.YtpecnaacgkgjmaaGreatDoorVA2
set_option linter.unusedVariables false
set_option linter.unusedSectionVars false
set_option linter.unusedSimpArgs false
set_option linter.deprecated false
namespace Go.Proofs.YtpecnaacgkgjmaaGreatDoor
open Go.RowKit Go.Shelf
attribute [local go_sem] Oper.semAt_some
def j17 {α:Type} (F:Fence) (n:Nat) (P:Program) (g:Nat) (lb:Array Value) (encs:α->Array Value) (Kp:World->World->Prop) (S Sp:List α->Prop) (N:Nat) (w:World) (bx:Nat):Prop:=
 ∀ (l:Nat) (J Jx:List α->World->Prop) (W:World),Below w.heap.size w W->AbidesFrom W.heap.size J->AbidesFrom W.heap.size Jx ->
  (∀ s A v,J s A->J s (A.setCell ⟨bx,0,none⟩ v))->(∀ s A v,Jx s A->Jx s (A.setCell ⟨bx,0,none⟩ v)) ->
  (∀ pre x W1,J pre W1->pre.length < N->YieldAt F (n-1) P l (encs x) W1 λ e W'=>
    (e = .returned (.bool true)/\J (pre++[x]) W'/\Kp W1 W')\/(e = .returned (.bool false)/\Jx (pre++[x]) W')) ->
  J [] W ->
  CallsIn F n P g (#[.func (.yield l) #[] #[]]++lb) W λ e W'=>(∃ v,e = .returned v)/\((∃ xs,S xs/\J xs W')\/(∃ pre,Sp pre/\Jx pre W'))
section
variable {F:Fence} {n:Nat} {P:Program}
theorem z4w {α:Type} {g:Operand} {ps:Array Tmp} {assign body:Code} {Q:Exit->Act->World->Prop} {a:Act} {w:World}
 (hro:F.round=none) (h1:1<=n) {gf:Nat} {lb:Array Value} (hg:a.eval g = .func (.func gf) #[] lb) (hFg:F.fn gf) (eg:∀ args w,(callFunc gf args).run P w = .ok (.enter gf args) w)
 {encs:α->Array Value} {Kp:World->World->Prop} {S Sp:List α->Prop} {N:Nat} {w0:World} {bx:Nat} (hbx:bx < w.heap.size) (hseq:j17 F (n-1) P gf lb encs Kp S Sp N w0 bx)
 (hKt:∀ {A B C:World},Kp A B->Kp B C->Kp A C) (hKb:∀ (W:World) (l:Nat) (o o':Obj),w.heap.size<=l->W.heap[l]? = some o->o.isCells=false->o.isWalk=false->Kp W (W.putObj l o')) (hb0:Below w0.heap.size w0 w) (hps:∀ x,(encs x).size=ps.size)
 (I:List α->World->Prop) (Ix:Code->List α->World->Prop) (hI:OwnFrom w.heap.size I) (hIx:∀ c,OwnFrom w.heap.size (Ix c)) (hIs:∀ s W v,I s W->I s (W.setCell ⟨bx,0,none⟩ v)) (hIxs:∀ c s W v,Ix c s W->Ix c s (W.setCell ⟨bx,0,none⟩ v)) (h0:I [] w) (a₁:α->Act)
 (hassign:∀ (l:Nat) (x:α) (W:World) (K:Act->World->Prop),K (a₁ x) W ->
   assign.wpIn (F.inRound l) (n-1-1) P (Exit.then K (λ _ _ _=>False)) { tmps:=(ps.zip (encs x)).foldl (λ t (p,v)=>t.setIfInBounds p v) a.tmps,defers:=[] } W)
 (hbody:∀ (l:Nat) (pre:List α) (x:α) (W:World),I pre W->pre.length < N->body.wpIn (F.inRound l) (n-1-1) P (ownPostG w.heap.size Kp I Ix (pre++[x]) W) (a₁ x) W)
 (hdone:∀ (D:Nat) (xs:List α) (W:World),w.heap.size<=D->S xs->I xs W->W.heap[D]? = some (.deferred (some []))->Q .normal { a with defers:={ target:=.collected D,args:=#[] } :: a.defers } W)
 (hstop:∀ (D:Nat) (c:Code) (pre:List α) (W:World),w.heap.size<=D->Sp pre->Ix c pre W->W.heap[D]? = some (.deferred (some []))->c.wpIn F n P Q { a with defers:={ target:=.collected D,args:=#[] } :: a.defers } W) :
 (Code.rangeFunc g ps assign body).wpIn F n P Q a w:=by
 refine wpIn_rangeFunc ?_
 intro fn hfn
 rw [hro]
 obtain ⟨rec,hrec⟩:∃ rec:LoopState->Option Code->Loop,rec=λ st pe=>{ state:=st,pending:=pe,fn,tmps:=a.tmps,params:=ps,assign,body,defers:=w.heap.size }:=⟨_,rfl⟩
 obtain ⟨W1,hW1⟩:∃ W1,(w.alloc (.deferred (some []))).alloc (.loop (rec .ready none))=W1:=⟨_,rfl⟩
 have hL1:W1.heap[w.heap.size+1]? = some (.loop (rec .ready none)):=by
  rw [<- hW1]; have:=World.alloc_heap_new (w.alloc (.deferred (some []))) (.loop (rec .ready none)); rwa [World.size_alloc] at this
 have hK1:W1.heap[w.heap.size]? = some (.deferred (some [])):=by
  rw [<- hW1]; exact (Below.heap_alloc _ _ _ (by simp)).trans (World.alloc_heap_new w _)
 have hI1:I [] W1:=by rw [<- hW1]; exact hI.alloc _ (hI.alloc _ h0)
 have hb1:Below w0.heap.size w0 W1:=by
  rw [<- hW1]; exact hb0.trans ((((Below.refl _ w).alloc (Nat.le_refl _) _).alloc (by simp) _).mono hb0.size)
 refine ⟨w.heap.size+1,[{ target:=.collected w.heap.size,args:=#[] }],W1,{ target:=.fn (.func gf) lb,args:=#[.func (.yield (w.heap.size+1)) #[] #[]] },W1,gf,
  #[.func (.yield (w.heap.size+1)) #[] #[]]++lb,W1,?_,?_,?_,?_,λ _=>h1,?_⟩
 ·rw [<- hW1,hrec]; exact run_enterLoop_outer _ _ _ _ _
 ·simp only [resolve,hg]
  simp [go_sem]
 ·intro f' hf'; simp [Target.leads] at hf'; subst hf'; exact hFg
 ·simp [invoke,go_sem,eg]
 ·
  have hnw:∀ {A B:World} {row:Option Nat},(∀ r,row=some r->W1.heap.size<=r/\∃ o:Obj,A.heap[r]? = some o/\o.isWalk=true)->(∀ r,row=some r->w.heap.size<=r/\∃ o:Obj,A.heap[r]? = some o/\o.isCells=false):=
   λ hr r e=>by obtain ⟨hB,o,ho,hw⟩:=hr r e;exact ⟨by rw [<- hW1] at hB;simp at hB;omega,o,ho,Obj.not_cells_of_walk hw⟩
  refine (hseq (w.heap.size+1)
   (λ pre W=>I pre W/\W.heap[w.heap.size+1]? = some (.loop (rec .ready none))/\W.heap[w.heap.size]? = some (.deferred (some [])))
   (λ pre W=>∃ c,Ix c pre W/\W.heap[w.heap.size+1]? = some (.loop (rec .done (some c)))/\W.heap[w.heap.size]? = some (.deferred (some [])))
   W1 hb1
   (λ s A B row hs hg' hr=>⟨hI s A B row hs.1 hg' (hnw (B:=B) hr),(grownBy_keeps hg' (λ r e=>(hr r e).2) hs.2.1 rfl).trans hs.2.1,(grownBy_keeps hg' (λ r e=>(hr r e).2) hs.2.2 rfl).trans hs.2.2⟩)
   (λ s A B row hs hg' hr=>by
     obtain ⟨c,hc,hl,hk⟩:=hs
     exact ⟨c,hIx c s A B row hc hg' (hnw (B:=B) hr),(grownBy_keeps hg' (λ r e=>(hr r e).2) hl rfl).trans hl,(grownBy_keeps hg' (λ r e=>(hr r e).2) hk rfl).trans hk⟩)
   (λ s A v hs=>⟨hIs s A v hs.1,(Below.heap_setCell A _ v _ (by simp;omega)).trans hs.2.1,(Below.heap_setCell A _ v _ (by simp;omega)).trans hs.2.2⟩)
   (λ s A v hs=>by
     obtain ⟨c,hc,hl,hk⟩:=hs
     exact ⟨c,hIxs c s A v hc,(Below.heap_setCell A _ v _ (by simp;omega)).trans hl,(Below.heap_setCell A _ v _ (by simp;omega)).trans hk⟩)
   ?_ ⟨hI1,hL1,hK1⟩).mono ?_
  ·
   rintro pre x W ⟨hi,hl,hk⟩ hlen
   have hlt:w.heap.size+1 < W.heap.size:=(Array.getElem?_eq_some_iff.1 hl).1
   have hy:=run_yield (P:=P) (args:=encs x) hl (by rw [hrec]; exact hps x)
   rw [hrec] at hy
   refine ⟨fn,_,assign,body,hy,roundIn_of_wpIn hfn (hassign _ x W _ ⟨_,run_beginRound hl (by rw [hrec]),?_⟩)⟩
   have hl2:(W.putObj (w.heap.size+1) (.loop { rec .ready none with state:=.busy })).heap[w.heap.size+1]? = some (.loop { rec .ready none with state:=.busy }):=World.putObj_heap_same hlt
   have hk2:(W.putObj (w.heap.size+1) (.loop { rec .ready none with state:=.busy })).heap[w.heap.size]? = some (.deferred (some [])):=(World.putObj_heap_other (by omega)).trans hk
   have hw2:Kp W (W.putObj (w.heap.size+1) (.loop { rec .ready none with state:=.busy })):=hKb _ _ _ _ (by omega) hl rfl rfl
   refine wpIn_mono (hbody _ pre x _ (hI.putObj _ hi (by omega) hl rfl) hlen) ?_
   have fin:∀ (jump:Option Code) (W3:World),KeepsFrom w.heap.size (W.putObj (w.heap.size+1) (.loop { rec .ready none with state:=.busy })) W3 ->
    (Instr.endRound (w.heap.size+1) jump).run P W3 = .ok (.bool jump.isNone) (W3.putObj (w.heap.size+1) (.loop (rec (if jump.isNone then .ready else .done) jump))) /\
    W3.heap[w.heap.size+1]? = some (.loop { rec .ready none with state:=.busy }) /\
    (W3.putObj (w.heap.size+1) (.loop (rec (if jump.isNone then .ready else .done) jump))).heap[w.heap.size+1]? = some (.loop (rec (if jump.isNone then .ready else .done) jump)) /\
    (W3.putObj (w.heap.size+1) (.loop (rec (if jump.isNone then .ready else .done) jump))).heap[w.heap.size]? = some (.deferred (some [])):=λ jump W3 hk3=>by
    have hl3:=hk3.same _ _ (by omega) hl2 rfl
    have:=run_endRound (P:=P) jump hl3
    rw [hrec] at this ⊢
    exact ⟨this,by rw [hrec] at hl3;exact hl3,World.putObj_heap_same (Array.getElem?_eq_some_iff.1 hl3).1,(World.putObj_heap_other (by omega)).trans (hk3.same _ _ (Nat.le_refl _) hk2 rfl)⟩
   rintro e a3 W3 hp
   cases e with
   | normal=>
     obtain ⟨hk3,hkp3,hi3⟩:=hp
     obtain ⟨hr,hl3,hl4,hk4⟩:=fin none W3 hk3
     exact ⟨_,_,hr,.inl ⟨rfl,⟨hI.putObj _ hi3 (by omega) hl3 rfl,hl4,hk4⟩,hKt (hKt hw2 hkp3) (hKb _ _ _ _ (by omega) hl3 rfl rfl)⟩⟩
   | ret=>
     obtain ⟨hk3,hi3⟩:=hp
     obtain ⟨hr,hl3,hl4,hk4⟩:=fin (some .ret) W3 hk3
     exact ⟨_,_,hr,.inr ⟨rfl,.ret,(hIx _).putObj _ hi3 (by omega) hl3 rfl,hl4,hk4⟩⟩
   | exit id=>
     obtain ⟨hk3,hi3⟩:=hp
     obtain ⟨hr,hl3,hl4,hk4⟩:=fin (some (.exit id)) W3 hk3
     exact ⟨_,_,hr,.inr ⟨rfl,.exit id,(hIx _).putObj _ hi3 (by omega) hl3 rfl,hl4,hk4⟩⟩
   | goto t=>
     obtain ⟨hk3,hi3⟩:=hp
     obtain ⟨hr,hl3,hl4,hk4⟩:=fin (some (.goto t)) W3 hk3
     exact ⟨_,_,hr,.inr ⟨rfl,.goto t,(hIx _).putObj _ hi3 (by omega) hl3 rfl,hl4,hk4⟩⟩
   | panic ch=>exact hp.elim
   | outgrown=>exact hp.elim
  ·
   rintro e W2 ⟨⟨v,rfl⟩,(⟨xs,hS,hi,hl,hk⟩ | ⟨pre,hSp,c,hi,hl,hk⟩)⟩
   ·exact ⟨none,_,by have:=run_endLoop (P:=P) hl (by rw [hrec]; simp); rw [hrec] at this;exact this,hdone _ xs _ (Nat.le_refl _) hS (hI.putObj _ hi (by omega) hl rfl) ((World.putObj_heap_other (by omega)).trans hk)⟩
   ·exact ⟨some c,_,by have:=run_endLoop (P:=P) hl (by rw [hrec]; simp); rw [hrec] at this;exact this,hstop _ c pre _ (Nat.le_refl _) hSp ((hIx c).putObj _ hi (by omega) hl rfl) ((World.putObj_heap_other (by omega)).trans hk)⟩
end
end Go.Proofs.YtpecnaacgkgjmaaGreatDoor
namespace Go.Proofs.YtpecnaacgkgjmaaGreatDoor
open Go.AM Go.RowKit Go.Shelf
attribute [local go_sem] Oper.semAt_some
set_option maxHeartbeats 1000000 in
theorem zeg (x k idx:Nat) (w:World) (hx0:((x:Int) == 0)=false)
 (key:IntKind.u64.wrap (bits BinOp.and IntKind.u64 (x:Int) (IntKind.u64.wrap (-(x:Int)))*285870213051353865) / 288230376151711744=(idx:Int))
 (hi:idx < 64) (hk:k < 64) (hcell:w.cell? ⟨3,idx,none⟩=some (.int .u8 k)) :
 Calls Tryz.prog 276 #[.int .u64 x] w λ e w'=>e = .returned (.int .i64 k)/\w'=w:=by
 go_enter Tryz.func276,Tryz.ntmps276
 go_wp2_with (simp only [key])
 go_ret
 exact ⟨rfl,rfl⟩
theorem zef (x:Nat) (hx:x < 18446744073709551616) (hx0:x≠0) (w:World) (hT:TabAt 3 Lib.deBruijn64tab w) :
 Calls Tryz.prog 276 #[.int .u64 x] w λ e w'=>e = .returned (.int .i64 (Lib.ctz 64 x))/\w'=w:=by
 obtain ⟨hlow,hk⟩:=Lib.lowest_bit 64 x hx0 hx
 obtain ⟨hi,htab⟩:=Lib.deBruijn64_at _ hk
 have hcell:=hT _ hi
 rw [htab] at hcell
 exact zeg x _ _ w (by simp;omega) (tz64_key x _ hx hx0 hlow) hi hk hcell
theorem zeh (x:Nat) (hx:x < 18446744073709551616) (hx0:x≠0) (w:World) (hT:TabAt 3 Lib.deBruijn64tab w) :
 Calls Tryz.prog 270 #[.int .u64 x] w λ e w'=>e = .returned (.int .i64 (Lib.ctz 64 x))/\w'=w:=by
 have hw:IntKind.u64.wrap (x:Int)=(x:Int):=by rw [IntKind.wrap_u64]; omega
 have HT:=Lib.hid hT
 clear hT
 go_enter Tryz.func270,Tryz.ntmps270
 go_wp2_with fail
 refine (zef x hx hx0 _ HT.out).mono ?_
 rintro e w' ⟨rfl,rfl⟩
 go_wp2
 go_ret
 exact ⟨rfl,rfl⟩
theorem z4p (n:Int) (w:World) :
 Calls Tryz.prog 251 #[.int .i64 n] w λ e w'=>e = .returned (.func (.func 269) #[] #[.pointer (some ⟨w.heap.size,0,none⟩)])/\w'=w.alloc (.cells #[.int .i64 n] 3):=by
 go_enter Tryz.func251,Tryz.ntmps251
 go_wp2
 go_ret
 exact ⟨rfl,rfl⟩
def jas (x:Nat):Array Value:=#[.int .i64 (x:Int)]
def j6r (w:World) (b:Nat):Nat:=match w.cell? ⟨b,0,none⟩ with | some v=>(intOf v).toNat | none=>0
theorem j6s {w:World} {b t:Nat} {m:Nat} (h:Boxed w b t (.int .i64 (m:Int))):j6r w b=m:=by unfold j6r;rw [h.cell]; simp [intOf]
theorem j6i {W W':World} {b t:Nat} {v:Value} (h:Boxed W b t v) (e:W'.heap[b]? = W.heap[b]?):Boxed W' b t v:=e.trans h
theorem z4i (t n i:Nat) (h:i < t / 2):∃ s,z4h t n=List.replicate i 4++(4 :: s):=by
 obtain ⟨d,hd⟩:∃ d,t / 2=i+(d+1):=⟨t / 2-i-1,by omega⟩
 refine ⟨List.replicate d 4++((if t % 2=1 then [2] else [])++z5s 0 (n / 2 ^ t)),?_⟩
 unfold z4h
 rw [hd,show i+(d+1)=i+(d+1) from rfl,<- List.replicate_append_replicate,List.replicate_succ]
 simp
theorem z1z {l p s:List Nat} {x:Nat} (h:l=p++(x :: s)):p++[x] <+: l/\p.length < l.length:=⟨⟨s,by rw [h]; simp⟩,by rw [h]; simp⟩
set_option maxRecDepth 100000 in
set_option maxHeartbeats 4000000 in
theorem z4r (F:Fence) (hF:∀ k,F.fn k) (hro:F.round=none) (hde:F.depth=none) (m n0 bx t:Nat) (hm:3<=m) (h1:1<=n0) (h2:n0<=4096) (ht:Lib.ctz 64 n0=t) (ht12:t<=12) (hp:0 < n0 / 2 ^ t) (w:World) (hbx:Boxed w bx 3 (.int .i64 (n0:Int))) (hT:TabAt 3 Lib.deBruijn64tab w)
 (hout:∀ W:World,TabAt 3 Lib.deBruijn64tab W->CallsIn F (m-1) Tryz.prog 270 #[.int .u64 (n0:Int)] W λ e w'=>e = .returned (.int .i64 (t:Int))/\w'=W) :
 j17 F m Tryz.prog 269 #[.pointer (some ⟨bx,0,none⟩)] jas (λ W W'=>W'.heap[bx]? = W.heap[bx]?) (λ xs=>xs=z4h t n0) (λ pre=>pre <+: z4h t n0) (z4h t n0).length w bx:=by
 intro l J Jx W hW hJ hJx hJs hJxs hY h0
 have hbW:Boxed W bx 3 (.int .i64 (n0:Int)):=(hW.block bx hbx.lt).trans hbx
 have hTW:TabAt 3 Lib.deBruijn64tab W:=λ j hj=>by
  have h:=hT j hj
  exact (hW.cell (World.block_lt_of_cell? w _ h)).trans h
 have HY:=Lib.hid hY
 have HJS:=Lib.hid hJs
 have HTW:=Lib.hid hTW
 have HO:=Lib.hid hout
 clear hY hJs hTW hout ht hT hJ hJx hJxs hW hbx
 refine callsIn_of_wp Tryz.func269 rfl (hF _) ?_ hro
 simp only [Tryz.ntmps269,List.size_toArray,List.length_cons,List.length_nil,Nat.reduceAdd,Nat.reduceSub,Array.replicate_succ,Array.replicate_zero,List.push_toArray,List.append_toArray,List.nil_append,List.cons_append]
 have hc:=hbW.cell
 have hu:IntKind.u64.wrap (n0:Int)=(n0:Int):=by rw [IntKind.wrap_u64]; omega
 obtain ⟨M,hM⟩:∃ M,n0 / 2 ^ t=M:=⟨_,rfl⟩
 have hM0:0 < M:=by rw [<- hM]; exact hp
 have hM1:M<=4096:=by rw [<- hM]; exact Nat.le_trans (Nat.div_le_self _ _) h2
 have HM:=Lib.hid hM
 clear hM hp
 obtain ⟨h,hh⟩:∃ h,h=t / 2:=⟨_,rfl⟩
 have hq:(t:Int) / 2=(h:Int):=by omega
 have hh6:h<=6:=by omega
 have HH:=Lib.hid hh
 clear hh
 gi_wp2_with (gi_at_call 270;refine (HO.out _ HTW.out).mono ?_;rintro e w' ⟨rfl,rfl⟩)
 gi_loopw [11] (λ v wr=>∃ i:Nat,v = .int .i64 (i:Int)/\i<=h/\J (List.replicate i 4) wr/\Boxed wr bx 3 (.int .i64 (n0:Int))) (λ v _=>h-(intOf v).toNat)
 case atStart=>exact ⟨0,rfl,Nat.zero_le _,h0,hbW⟩
 case round=>
  obtain ⟨i,rfl,hi,hJ1,hb1⟩:=hrel
  clear h0 hbW hc
  by_cases hlt:i < h
  ·have hltz:(i:Int) < (h:Int):=by omega
   obtain ⟨s,hs⟩:=z4i t n0 i (by rw [<- HH.out]; exact hlt)
   obtain ⟨hpre,hlen⟩:=z1z hs
   have hlen':(List.replicate i 4).length < (z4h t n0).length:=hlen
   obtain ⟨fn,tmps,assign,body,hy,hR⟩:=HY.out (List.replicate i 4) 4 wr hJ1 hlen'
   have HP:=Lib.hid hpre
   clear hs hpre hlen hlen'
   dsimp only [jas] at hy
   have hy':(Instr.yield l #[Value.int IntKind.i64 4]).run Tryz.prog wr = .ok (.round l fn tmps assign body) wr:=hy
   clear hy
   gi_wp2
   refine hR.mono ?_
   rintro e W' (⟨rfl,hJ2,hk⟩ | ⟨rfl,hJx2⟩)
   ·gi_wp2
    go_roundw
    case rel=>exact ⟨i+1,by go_num,by omega,by rw [List.replicate_succ']; exact hJ2,j6i hb1 hk⟩
    case measure=>simp [intOf]; omega
   ·gi_wp2
    refine bodyPost_ret (results_none rfl _ _ _) rfl ?_
    exact ⟨⟨_,rfl⟩,.inr ⟨_,HP.out,hJx2⟩⟩
  ·obtain rfl:i=h:=by omega
   have hltz:¬ (i:Int) < (i:Int):=by omega
   have hc2:=hb1.cell
   have hf2:=hb1.frozen
   have hMi:(n0:Int) / 2 ^ t=(M:Int):=by rw [<- HM.out]; simp
   have HR1:Hid (z4h t n0=List.replicate i 4++((if t % 2=1 then [2] else [])++z5s 0 M)):=by show _=_;unfold z4h;rw [HH.out,HM.out]
   by_cases hodd:t % 2=1
   case' pos=>
    have hm0:((t:Int) % 2 == 1)=true:=beq_iff_eq.2 (by omega)
    have hr1:z4h t n0=List.replicate i 4++(2 :: z5s 0 M):=by rw [HR1.out,if_pos hodd]; rfl
    obtain ⟨hpre,hlen⟩:=z1z hr1
    obtain ⟨fn,tmps,assign,body,hy,hR⟩:=HY.out (List.replicate i 4) 2 wr hJ1 hlen
    have HP:=Lib.hid hpre
    have HR2:=Lib.hid hr1
    clear hpre hlen hr1 hodd
    have hy':(Instr.yield l #[Value.int IntKind.i64 2]).run Tryz.prog wr = .ok (.round l fn tmps assign body) wr:=hy
    clear hy
    gi_wp2
    refine hR.mono ?_
    rintro e W' (⟨rfl,hJ2,hk⟩ | ⟨rfl,hJx2⟩)
    rotate_left
    ·gi_wp2
     refine bodyPost_ret (results_none rfl _ _ _) rfl ?_
     exact ⟨⟨_,rfl⟩,.inr ⟨_,HP.out,hJx2⟩⟩
    have hb2:=j6i hb1 hk
    have hc3:=hb2.cell
    have hf3:=hb2.frozen
    clear hc2 hf2 hm0 hk
    gi_wp2
    have HR3:Hid (z4h t n0=(List.replicate i 4++[2])++z5s 0 M):=by show _=_;rw [HR2.out]; simp
    generalize (List.replicate i 4++[2])=pre0 at *
    clear HR1 HR2 hJ1 hb1 hc3 hf3
    have hJ4:=HJS.out _ _ (.int .i64 (M:Int)) hJ2
    have hb4:=Boxed.set (.int .i64 (M:Int)) hb2
    clear hJ2 hb2
   case' neg=>
    have hm0:((t:Int) % 2 == 1)=false:=beq_eq_false_iff_ne.2 (by omega)
    gi_wp2
    have HR3:Hid (z4h t n0=List.replicate i 4++z5s 0 M):=by show _=_;rw [HR1.out,if_neg hodd]; rfl
    generalize List.replicate i 4=pre0 at *
    have hJ4:=HJS.out _ _ (.int .i64 (M:Int)) hJ1
    have hb4:=Boxed.set (.int .i64 (M:Int)) hb1
    clear hJ1 hb1 hc2 hf2 hm0 hodd HR1
   all_goals
    gi_loopw [29] (λ v wr=>∃ (j m:Nat) (pre:List Nat),v = .int .i64 (j:Int)/\j<=2/\0 < m/\m<=4096/\J pre wr/\Boxed wr bx 3 (.int .i64 (m:Int))/\Hid (z4h t n0=pre++z5s j m)) (λ v _=>2-(intOf v).toNat)
    case atStart=>exact ⟨0,M,pre0,rfl,by omega,hM0,hM1,hJ4,hb4,HR3⟩
    case round=>
     clear hJ4 hb4 HR3
     obtain ⟨j,m',pre,rfl,hj,hm0,hm1,hJ5,hb5,HR5⟩:=hrel
     by_cases hlt:j < 2
     ·have hltz:(j:Int) < 2:=by omega
      have hj2:j=0\/j=1:=by omega
      rcases hj2 with rfl | rfl
      ·have i0:∀ w,(Instr.index 314 (.agg #[.int .i64 3,.int .i64 5]) (.int .i64 0)).run Tryz.prog w = .ok (.int .i64 3) w:=λ _=>by kernel_rfl
       gi_wp2
       gi_loopw [35] (λ _ wr=>∃ (m:Nat) (pre:List Nat),0 < m/\m<=4096/\J pre wr/\Boxed wr bx 3 (.int .i64 (m:Int))/\Hid (z4h t n0=pre++z5s 0 m)) (λ _ wr=>j6r wr bx)
       case atStart=>exact ⟨m',pre,hm0,hm1,hJ5,hb5,HR5⟩
       case round=>
        clear hJ5 hb5 HR5 hm0 hm1
        obtain ⟨m1,pre1,hm0,hm1,hJ6,hb6,HR6⟩:=hrel
        have hc6:=hb6.cell
        have hf6:=hb6.frozen
        by_cases hmod:m1 % 3=0
        ·have hme:((m1:Int) % 3 == 0)=true:=beq_iff_eq.2 (by omega)
         have hr7:z4h t n0=pre1++(3 :: z5s 0 (m1 / 3)):=by rw [HR6.out,z5t 0 m1 (by omega) hm0 hmod]; rfl
         have hm2:0 < m1 / 3/\m1 / 3<=4096/\m1 / 3 < m1:=by omega
         obtain ⟨m2,hm2e⟩:∃ m2,m1 / 3=m2:=⟨_,rfl⟩
         rw [hm2e] at hr7 hm2
         have hmi:(m1:Int) / 3=(m2:Int):=by omega
         obtain ⟨hpre,hlen⟩:=z1z hr7
         obtain ⟨fn,tmps,assign,body,hy,hR⟩:=HY.out pre1 3 _ hJ6 hlen
         have HP:=Lib.hid hpre
         have HR7:=Lib.hid hr7
         clear hpre hlen hr7 HR6 hJ6 hm2e hmod
         have hy':(Instr.yield l #[Value.int IntKind.i64 3]).run Tryz.prog wr = .ok (.round l fn tmps assign body) wr:=hy
         clear hy
         gi_wp2
         refine hR.mono ?_
         rintro e W' (⟨rfl,hJ7,hk⟩ | ⟨rfl,hJx2⟩)
         ·have hb7:=j6i hb6 hk
          have hc7:=hb7.cell
          have hf7:=hb7.frozen
          have HC:=Lib.hid (j6s hb6)
          clear hk hc6 hf6 hb6 hme
          gi_wp2
          go_roundw
          case rel=>exact ⟨_,_,_,_,_,_,_,_,_,_,_,⟨m2,pre1++[3],hm2.1,hm2.2.1,HJS.out _ _ _ hJ7,Boxed.set _ hb7,by show _=_;rw [HR7.out]; simp⟩,rfl⟩
          case measure=>rw [HC.out,j6s (Boxed.set _ hb7)]; exact hm2.2.2
         ·gi_wp2
          refine bodyPost_ret (results_none rfl _ _ _) rfl ?_
          exact ⟨⟨_,rfl⟩,.inr ⟨_,HP.out,hJx2⟩⟩
        ·have hme:((m1:Int) % 3 == 0)=false:=beq_eq_false_iff_ne.2 (by omega)
         have HR7:Hid (z4h t n0=pre1++z5s (0+1) m1):=by show _=_;rw [HR6.out,z5u 0 m1 (by omega) hm0 hmod]
         clear HR6 hmod
         gi_wp2
         go_roundw
         case rel=>exact ⟨0+1,m1,pre1,by go_num,by omega,hm0,hm1,hJ6,hb6,HR7⟩
         case measure=>simp [intOf]
      ·have i0:∀ w,(Instr.index 314 (.agg #[.int .i64 3,.int .i64 5]) (.int .i64 1)).run Tryz.prog w = .ok (.int .i64 5) w:=λ _=>by kernel_rfl
       gi_wp2
       gi_loopw [35] (λ _ wr=>∃ (m:Nat) (pre:List Nat),0 < m/\m<=4096/\J pre wr/\Boxed wr bx 3 (.int .i64 (m:Int))/\Hid (z4h t n0=pre++z5s 1 m)) (λ _ wr=>j6r wr bx)
       case atStart=>exact ⟨m',pre,hm0,hm1,hJ5,hb5,HR5⟩
       case round=>
        clear hJ5 hb5 HR5 hm0 hm1
        obtain ⟨m1,pre1,hm0,hm1,hJ6,hb6,HR6⟩:=hrel
        have hc6:=hb6.cell
        have hf6:=hb6.frozen
        by_cases hmod:m1 % 5=0
        ·have hme:((m1:Int) % 5 == 0)=true:=beq_iff_eq.2 (by omega)
         have hr7:z4h t n0=pre1++(5 :: z5s 1 (m1 / 5)):=by rw [HR6.out,z5t 1 m1 (by omega) hm0 hmod]; rfl
         have hm2:0 < m1 / 5/\m1 / 5<=4096/\m1 / 5 < m1:=by omega
         obtain ⟨m2,hm2e⟩:∃ m2,m1 / 5=m2:=⟨_,rfl⟩
         rw [hm2e] at hr7 hm2
         have hmi:(m1:Int) / 5=(m2:Int):=by omega
         obtain ⟨hpre,hlen⟩:=z1z hr7
         obtain ⟨fn,tmps,assign,body,hy,hR⟩:=HY.out pre1 5 _ hJ6 hlen
         have HP:=Lib.hid hpre
         have HR7:=Lib.hid hr7
         clear hpre hlen hr7 HR6 hJ6 hm2e hmod
         have hy':(Instr.yield l #[Value.int IntKind.i64 5]).run Tryz.prog wr = .ok (.round l fn tmps assign body) wr:=hy
         clear hy
         gi_wp2
         refine hR.mono ?_
         rintro e W' (⟨rfl,hJ7,hk⟩ | ⟨rfl,hJx2⟩)
         ·have hb7:=j6i hb6 hk
          have hc7:=hb7.cell
          have hf7:=hb7.frozen
          have HC:=Lib.hid (j6s hb6)
          clear hk hc6 hf6 hb6 hme
          gi_wp2
          go_roundw
          case rel=>exact ⟨_,_,_,_,_,_,_,_,_,_,_,⟨m2,pre1++[5],hm2.1,hm2.2.1,HJS.out _ _ _ hJ7,Boxed.set _ hb7,by show _=_;rw [HR7.out]; simp⟩,rfl⟩
          case measure=>rw [HC.out,j6s (Boxed.set _ hb7)]; exact hm2.2.2
         ·gi_wp2
          refine bodyPost_ret (results_none rfl _ _ _) rfl ?_
          exact ⟨⟨_,rfl⟩,.inr ⟨_,HP.out,hJx2⟩⟩
        ·have hme:((m1:Int) % 5 == 0)=false:=beq_eq_false_iff_ne.2 (by omega)
         have HR7:Hid (z4h t n0=pre1++z5s (1+1) m1):=by show _=_;rw [HR6.out,z5u 1 m1 (by omega) hm0 hmod]
         clear HR6 hmod
         gi_wp2
         go_roundw
         case rel=>exact ⟨1+1,m1,pre1,by go_num,by omega,hm0,hm1,hJ6,hb6,HR7⟩
         case measure=>simp [intOf]
     ·obtain rfl:j=2:=by omega
      have hb6:=hb5.cell
      by_cases hlast:1 < m'
      ·have hl1:(1:Int) < (m':Int):=by omega
       have hr6:z4h t n0=pre++(m' :: []):=by rw [HR5.out]; show pre++ju3 m'=_;unfold ju3;rw [if_pos hlast]
       obtain ⟨hpre,hlen⟩:=z1z hr6
       obtain ⟨fn,tmps,assign,body,hy,hR⟩:=HY.out pre m' _ hJ5 hlen
       have HP:=Lib.hid hpre
       have HR6:=Lib.hid hr6
       clear hpre hlen hr6 HR5 hJ5
       dsimp only [jas] at hy
       gi_wp2
       refine hR.mono ?_
       rintro e W' (⟨rfl,hJ6,hk⟩ | ⟨rfl,hJx2⟩)
       ·gi_wp2
        go_end0
        exact ⟨⟨_,rfl⟩,.inl ⟨_,by rw [HR6.out],hJ6⟩⟩
       ·gi_wp2
        go_end0
        exact ⟨⟨_,rfl⟩,.inr ⟨_,HP.out,hJx2⟩⟩
      ·have hl1:¬ (1:Int) < (m':Int):=by omega
       have hr6:z4h t n0=pre:=by rw [HR5.out]; show pre++ju3 m'=_;unfold ju3;rw [if_neg hlast,List.append_nil]
       have HR6:=Lib.hid hr6
       clear hr6 HR5
       gi_wp2
       go_end0
       exact ⟨⟨_,rfl⟩,.inl (by rw [HR6.out]; exact hJ5)⟩
end Go.Proofs.YtpecnaacgkgjmaaGreatDoor
namespace Go.Proofs.YtpecnaacgkgjmaaGreatDoor
open Go.AM Go.RowKit Go.Shelf
attribute [local go_sem] Oper.semAt_some
theorem jzy {W:World} {base base':Nat} {e:TypeId} {size n:Nat} {v:Value} {xs:List Value} (h:W.ownsRow base e size v n xs) (hb:base'<=base):W.ownsRow base' e size v n xs:=by
 refine ⟨h.1,?_⟩
 rcases h.2 with h2 | ⟨g,cap,cur,hv,hg,r⟩
 ·exact .inl h2
 ·exact .inr ⟨g,cap,cur,hv,Nat.le_trans hb hg,r⟩
def j10 (w:World) (bo be bx:Nat) (to te ti:Nat) (pre:List Nat) (W:World):Prop:=
 (∃ v,Boxed W bo to v/\W.ownsRow (bx+1) ti 1 v pre.length (jxt pre)/\(pre=[]->v = .slice none 0 0))/\Boxed W be te (.int .i64 0)/\(∀ r∈pre,r<=5)/\Below w.heap.size w W/\bx < W.heap.size
def j11 (w:World) (ti:Nat) (L:List Nat) (e:Ending) (W':World):Prop:=
 ∃ v,e = .returned (.tuple #[v,.int .i64 (if L.all (λ r=>decide (r<=5)) then 0 else 4)]) /\
  W'.ownsRow w.heap.size ti 1 v (if L.all (λ r=>decide (r<=5)) then L else []).length (jxt (if L.all (λ r=>decide (r<=5)) then L else []))/\Below w.heap.size w W'/\((if L.all (λ r=>decide (r<=5)) then L else [])=[]->v = .slice none 0 0)
def j12 (w:World) (bo be:Nat) (to te:Nat) (c:Code) (pre:List Nat) (W:World):Prop:=
 c = .ret/\Boxed W bo to (.slice none 0 0)/\Boxed W be te (.int .i64 4)/\(∃ r∈pre,5 < r)/\Below w.heap.size w W
theorem j6h {W:World} {B D:Nat} {t:TypeId} {v:Value} {o o':Obj} (h:Boxed W B t v) (hD:W.heap[D]? = some o) (hn:o.isCells=false):Boxed (W.putObj D o') B t v:=
 (World.putObj_heap_other (λ e=>by subst e;have h2:=(show W.heap[_]? = _ from h).symm.trans hD;cases h2;cases hn)).trans h
theorem j6g {W:World} {B:Nat} {t:TypeId} {v:Value} (h:Boxed W B t v) (b:Nat) (u:Value) (hne:B≠b):Boxed (W.setCell ⟨b,0,none⟩ u) B t v:=
 (Below.heap_setCell W _ u B (by simpa using hne)).trans h
theorem z4a (w:World) (bo be bx to te ti:Nat) (hw:w.heap.size<=bo) (hb:w.heap.size<=bx):OwnFrom (bx+1) (j10 w bo be bx to te ti):=by
 have h1:=holdsRow_own (β:=List Nat) (bx+1) bo to ti 1 (λ s=>s.length) jxt (λ s v=>s=[]->v = .slice none 0 0)
 intro s A B row hs hg hr
 obtain ⟨⟨v,hv,hro,hn⟩,he,hall,hB,hbx⟩:=hs
 obtain ⟨v',hv',hro',hn'⟩:=h1 s A B row ⟨v,hv,hro,hn⟩ hg (λ r e=>(hr r e).2)
 refine ⟨⟨v',hv',hro',hn'⟩,he.kept hg (λ e=>?_),hall,hB.grown hg hB.size (λ j e=>by have:=(hr j e).1;omega),Nat.lt_of_lt_of_le hbx hg.size⟩
 obtain ⟨_,o,ho,hc⟩:=hr be e.symm
 rw [show A.heap[be]? = _ from he] at ho;cases ho;cases hc
theorem z4l (w:World) (bo be bx to te:Nat) (hb:w.heap.size<=bx) (c:Code):OwnFrom (bx+1) (j12 w bo be to te c):=by
 intro s A B row hs hg hr
 obtain ⟨hc,hv,he,hall,hB⟩:=hs
 refine ⟨hc,hv.kept hg (λ e=>?_),he.kept hg (λ e=>?_),hall,hB.grown hg hB.size (λ j e=>by have:=(hr j e).1;omega)⟩
 ·obtain ⟨_,o,ho,hc⟩:=hr bo e.symm
  rw [show A.heap[bo]? = _ from hv] at ho;cases ho;cases hc
 ·obtain ⟨_,o,ho,hc⟩:=hr be e.symm
  rw [show A.heap[be]? = _ from he] at ho;cases ho;cases hc
theorem z4b (w:World) (bo be bx to te ti:Nat) (h1:bo≠bx) (h2:be≠bx) (hb:w.heap.size<=bx) (s:List Nat) (W:World) (v:Value) (h:j10 w bo be bx to te ti s W):j10 w bo be bx to te ti s (W.setCell ⟨bx,0,none⟩ v):=by
 obtain ⟨⟨u,hv,hro,hn⟩,he,hall,hB,hbx⟩:=h
 refine ⟨⟨u,j6g hv _ _ h1,hro.kept (grownBy_setCell' W bx v) ?_,hn⟩,j6g he _ _ h2,hall,hB.setCell (p:=⟨bx,0,none⟩) hb v,by simpa using hbx⟩
 rcases hro.2 with ⟨rfl,_⟩ | ⟨g,cap,cur,rfl,hg,_⟩
 ·exact .inl rfl
 ·refine .inr λ e=>?_
  have : g=bx:=by simpa [Value.ownBlock] using e
  omega
theorem z4m (w:World) (bo be bx to te:Nat) (h1:bo≠bx) (h2:be≠bx) (hb:w.heap.size<=bx) (c:Code) (s:List Nat) (W:World) (v:Value) (h:j12 w bo be to te c s W):j12 w bo be to te c s (W.setCell ⟨bx,0,none⟩ v):=by
 obtain ⟨hc,hv,he,hall,hB⟩:=h
 exact ⟨hc,j6g hv _ _ h1,j6g he _ _ h2,hall,hB.setCell (p:=⟨bx,0,none⟩) hb v⟩
set_option maxRecDepth 100000 in
set_option maxHeartbeats 2000000 in
theorem z4q (n:Int) (h:n < 1\/4096 < n) (w:World) :
 Calls Tryz.prog 214 #[.int .i64 n] w λ e W'=>e = .returned (.tuple #[.slice none 0 0,.int .i64 4])/\Below w.heap.size w W':=by
 by_cases h1:n < 1
 ·go_enter Tryz.func214,Tryz.ntmps214
  go_wp2
  exact bodyPost_ret (v:=.tuple #[.slice none 0 0,.int .i64 4]) (by simp [results,Tryz.results214,go_sem]) rfl ⟨rfl,by repeat (first | exact Below.refl _ _ | refine Below.setCell ?_ (by simp) _ | refine Below.alloc ?_ (by simp) _)⟩
 ·have h2:(4096:Int) < n:=by omega
  clear h
  go_enter Tryz.func214,Tryz.ntmps214
  go_wp2
  exact bodyPost_ret (v:=.tuple #[.slice none 0 0,.int .i64 4]) (by simp [results,Tryz.results214,go_sem]) rfl ⟨rfl,by repeat (first | exact Below.refl _ _ | refine Below.setCell ?_ (by simp) _ | refine Below.alloc ?_ (by simp) _)⟩
set_option maxRecDepth 100000 in
set_option maxHeartbeats 4000000 in
theorem z4s (n t:Nat) (h1:1<=n) (h2:n<=4096) (ht:Lib.ctz 64 n=t) (ht12:t<=12) (hp:0 < n / 2 ^ t) (hlen:(z4h t n).length<=4096) (w:World) (hT:TabAt 3 Lib.deBruijn64tab w) :
 Calls Tryz.prog 214 #[.int .i64 (n:Int)] w (j11 w 3 (z4h t n)):=by
 have HT:=Lib.hid hT
 have HTT:=Lib.hid ht
 have hn1:(1:Int)<=(n:Int):=by omega
 have hn2:(n:Int)<=4096:=by omega
 refine (callsIn_wide (n:=6)).1 ?_
 refine callsIn_of_wp_marks Tryz.func214 rfl trivial ?_ rfl
 simp only [Tryz.ntmps214,List.size_toArray,List.length_cons,List.length_nil,Nat.reduceAdd,Nat.reduceSub,Array.replicate_succ,Array.replicate_zero,List.push_toArray,List.append_toArray,List.nil_append,List.cons_append]
 clear hT ht
 have hd1:decide ((n:Int) < 1)=false:=decide_eq_false (by omega)
 have hd2:decide ((4096:Int) < (n:Int))=false:=decide_eq_false (by omega)
 gi_wp2_with (refine ⟨trivial,?_⟩; gi_at_call 251;refine (callsIn_wide.2 (z4p _ _)).mono ?_;rintro e w' ⟨rfl,rfl⟩)
 obtain ⟨W0,hW0⟩:∃ W0,(((w.alloc (.cells #[.slice none 0 0] 104)).alloc (.cells #[.int .i64 0] 37)).alloc (.cells #[.int .i64 (n:Int)] 3))=W0:=⟨_,rfl⟩
 have hsz:W0.heap.size=w.heap.size+3:=by rw [<- hW0]; simp
 have bO:Boxed W0 w.heap.size 104 (.slice none 0 0):=by rw [<- hW0]; exact ((Boxed.new w _ _).alloc _).alloc _
 have bE:Boxed W0 (w.heap.size+1) 37 (.int .i64 0):=by
  rw [<- hW0]; have:=Boxed.new (w.alloc (.cells #[.slice none 0 0] 104)) 37 (.int .i64 0); rw [World.size_alloc] at this;exact this.alloc _
 have bN:Boxed W0 (w.heap.size+1+1) 3 (.int .i64 (n:Int)):=by
  rw [<- hW0]; have:=Boxed.new ((w.alloc (.cells #[.slice none 0 0] 104)).alloc (.cells #[.int .i64 0] 37)) 3 (.int .i64 (n:Int)); rw [World.size_alloc,World.size_alloc] at this;exact this
 have hB0:Below w.heap.size w W0:=by rw [<- hW0]; exact (((Below.refl _ w).alloc (Nat.le_refl _) _).alloc (by simp) _).alloc (by simp;omega) _
 have hT0:TabAt 3 Lib.deBruijn64tab W0:=λ j hj=>by
  have h:=HT.out j hj
  exact (hB0.cell (World.block_lt_of_cell? w _ h)).trans h
 rw [hW0]
 clear hW0
 have HT0:=Lib.hid hT0
 clear hT0
 refine z4w (w:=W0) rfl (by omega) (gf:=269) (lb:=#[.pointer (some ⟨w.heap.size+1+1,0,none⟩)]) rfl trivial (enters_of Tryz.func269 (by kernel_rfl) rfl) (bx:=w.heap.size+1+1) (by omega)
  (z4r Fence.wide (λ _=>trivial) rfl rfl (6-1) n (w.heap.size+1+1) t (by omega) h1 h2 HTT.out ht12 hp W0 bN HT0.out (λ W hW=>by rw [<- HTT.out]; exact callsIn_wide.2 (zeh n (by omega) (by omega) W hW)))
  (λ h k=>k.trans h) (λ W l o o' hl h _ _=>World.putObj_heap_other (by omega)) (Below.refl _ _) (λ _=>rfl)
  (j10 w w.heap.size (w.heap.size+1) (w.heap.size+1+1) 104 37 3) (j12 w w.heap.size (w.heap.size+1) 104 37)
  (by rw [hsz]; exact z4a _ _ _ _ _ _ _ (by omega) (by omega)) (λ c=>by rw [hsz]; exact z4l _ _ _ _ _ _ (by omega) c)
  (z4b _ _ _ _ _ _ _ (by omega) (by omega) (by omega)) (λ c=>z4m _ _ _ _ _ _ (by omega) (by omega) (by omega) c)
  ⟨⟨_,bO,World.ownsRow_nil _ _ _ _,λ _=>rfl⟩,bE,by simp,hB0,by omega⟩
  (λ x=>{ tmps:=#[.int .i64 (n:Int),undef,.pointer (some ⟨w.heap.size,0,none⟩),.pointer (some ⟨w.heap.size+1,0,none⟩),.int .i64 (x:Int),.int .i64 (n:Int),.bool false,.bool false,.int .i64 (n:Int),.bool false,.bool false,.int .i64 (n:Int),.func (.func 269) #[] #[.pointer (some ⟨w.heap.size+1+1,0,none⟩)],.int .i64 (x:Int),undef,undef,undef,undef,undef,undef,undef],defers:=[] }) ?assign ?body ?done ?stop
 case assign=>
  intro l x W K hK
  dsimp only [jas]
  gi_wp2
  exact hK
 case body=>
  rintro l pre x W ⟨⟨v,hv,hrow,_⟩,he,hall,hB,hbx⟩ hlt
  have hpl:pre.length < 4096:=by omega
  obtain ⟨i0,hi,hz0,hz1,hz2⟩:=info_parts (show (Tryz.prog.info? 3).map (λ i=>(i.zero,i.size,i.bytes))=some (some (.int .i64 0),1,8) by kernel_rfl)
  have hc:=hv.cell
  have hf:=hv.frozen
  have hce:=he.cell
  have hfe:=he.frozen
  have hbs:=hB.size
  by_cases hx:x<=5
  ·have hxi:¬ (5:Int) < (x:Int):=by omega
   have HE:=Lib.hid he
   have HA:=Lib.hid hall
   have HB:=Lib.hid hB
   clear hlt he hall hB
   gi_wp2_with (gi_at_builtin;(refine wpListIn_append_own _ rfl _ _ 104 rfl (w.heap.size+1+1+1) 3 i0 (.int .i64 0) 1 8 Tryz.underlying104 hi hz0 hz1 hz2 rfl (by decide) _ _ _ rfl (hrow.alloc _) ⟨W.heap.size,0,none⟩ 1 1 [.int .i64 (x:Int)] rfl rfl (cell_one_new _ _ _) (by simp [Value.oneCell']) (by unfold maxLen;omega) (by omega) (by simp;omega) ?_); intro v' w1 hown' hgrow _;obtain ⟨g',cap',rfl⟩:=ownsRow_succ hown'; obtain ⟨hv1,hv2,hr2,hk2,hb2⟩:=hv.appended (n₀:=w.heap.size) (by decide) (jzy hrow (by omega)) HB.out.size (by omega) (jzy hown' (by omega)) hgrow;have hc1:=hv1.cell;have hf1:=hv1.frozen)
   have hgrow:(W.alloc (.cells #[.int .i64 (x:Int)] 3)).grownBy w1 v.ownBlock:=hgrow
   have hbe:Boxed w1 (w.heap.size+1) 37 (.int .i64 0):=(HE.out.alloc _).kept hgrow (HE.out.not_row (by decide) hrow)
   refine ⟨hk2.from _,?_,⟨_,hv2,?_,λ h=>by simp at h⟩,j6g hbe _ _ (by omega),?_,HB.out.trans hb2,?_⟩
   ·refine (Below.heap_setCell _ _ _ _ (by simp;omega)).trans ((hgrow.block (w.heap.size+1+1) (by simp;omega) ?_).trans (Below.heap_alloc _ _ _ (by omega)))
    rcases hrow.2 with ⟨rfl,_⟩ | ⟨g,cap,cur,rfl,hg,_⟩
    ·simp [Value.ownBlock]
    ·intro e;have : w.heap.size+1+1=g:=by simpa [Value.ownBlock] using e
     omega
   ·have h3:=hown'.kept (grownBy_setCell' w1 w.heap.size (.slice (some ⟨g',0,none⟩) (pre.length+1) cap')) (.inr (hv1.not_row (by decide) hown').symm)
    rw [List.length_append]
    simpa [jxt] using h3
   ·intro r hr
    rcases List.mem_append.1 hr with h | h
    ·exact HA.out r h
    ·simp at h;omega
   ·have:=hgrow.size;simp at this ⊢; omega
  ·have hxi:(5:Int) < (x:Int):=by omega
   have HB:=Lib.hid hB
   clear hall hlt hB
   gi_wp2
   refine ⟨((KeepsOthers.setCell _ _ _).trans (KeepsOthers.setCell _ _ _)).from _,rfl,?_,?_,⟨x,by simp,by omega⟩,?_⟩
   ·exact j6g (Boxed.set _ hv) _ _ (by omega)
   ·exact Boxed.set _ (j6g he _ _ (by omega))
   ·exact (HB.out.setCell (p:=⟨w.heap.size,0,none⟩) (Nat.le_refl _) _).setCell (p:=⟨w.heap.size+1,0,none⟩) (by simp) _
 case done=>
  rintro D ys W hD rfl ⟨⟨v,hv,hrow,hn⟩,he,hall,hB,hbx⟩ hK
  have HN:=Lib.hid hn
  have hg:(z4h t n).all (λ r=>decide (r<=5))=true:=by rw [List.all_eq_true]; intro r hr;exact decide_eq_true (hall r hr)
  have HG:=Lib.hid hg
  have hc:=hv.cell
  have hf:=hv.frozen
  have hce:=he.cell
  have hfe:=he.frozen
  have HB:=Lib.hid hB
  clear hall hg hB hn
  obtain ⟨A,c,rfl⟩:∃ A c,v = .slice A (z4h t n).length c:=by
   rcases hrow.2 with ⟨rfl,h0⟩ | ⟨g,cap,cur,rfl,_⟩
   ·exact ⟨none,0,by rw [h0]⟩
   ·exact ⟨_,_,rfl⟩
  gi_wp2
  have hK2:((W.setCell ⟨w.heap.size,0,none⟩ (.slice A (z4h t n).length c)).setCell ⟨w.heap.size+1,0,none⟩ (.int .i64 0)).heap[D]? = some (.deferred (some [])):=
   (Below.heap_setCell _ _ _ _ (by simp;omega)).trans ((Below.heap_setCell _ _ _ _ (by simp;omega)).trans hK)
  refine ⟨by simp,.inl ⟨_,_,rfl,run_takeDeferred hK2,?_⟩⟩
  have b1:=j6h (j6g (Boxed.set (.slice A (z4h t n).length c) hv) (w.heap.size+1) (.int .i64 0) (by omega)) hK2 (by rfl) (o':=.deferred none)
  have b2:=j6h (Boxed.set (.int .i64 0) (j6g he w.heap.size (.slice A (z4h t n).length c) (by omega))) hK2 (by rfl) (o':=.deferred none)
  have hc2:=b1.cell
  have hce2:=b2.cell
  refine ⟨.tuple #[.slice A (z4h t n).length c,.int .i64 0],?_,?_⟩
  ·simp [results,Tryz.results214,go_sem,hc2,hce2]
  ·show j11 _ _ _ _ _
   unfold j11
   rw [HG.out]
   have hb3:=((HB.out.setCell (p:=⟨w.heap.size,0,none⟩) (Nat.le_refl _) (.slice A (z4h t n).length c)).setCell (p:=⟨w.heap.size+1,0,none⟩) (by simp) (.int .i64 0))
   have hr1:=hrow.kept (grownBy_setCell' W w.heap.size (.slice A (z4h t n).length c)) (.inr (hv.not_row (by decide) hrow).symm)
   have hr2:=hr1.kept (grownBy_setCell' _ (w.heap.size+1) (.int .i64 0)) (.inr ((j6g he w.heap.size (.slice A (z4h t n).length c) (by omega)).not_row (by decide) hr1).symm)
   exact ⟨_,rfl,jzy (ownsRow_putObj hr2 _ hK2 rfl) (by omega),hb3.trans (belowK_b (w:=W0) (by omega) _ D _ _ hD hK2 rfl rfl),λ h=>HN.out h⟩
 case stop=>
  rintro D c pre W hD hpre ⟨rfl,hv,he,hbad,hB⟩ hK
  have hg:(z4h t n).all (λ r=>decide (r<=5))=false:=by
   obtain ⟨r,hr,h5⟩:=hbad
   rw [Bool.eq_false_iff]; intro h
   rw [List.all_eq_true] at h
   have:=of_decide_eq_true (h r (hpre.subset hr)); omega
  have HG:=Lib.hid hg
  have hc:=hv.cell
  have hce:=he.cell
  have HB:=Lib.hid hB
  clear hbad hg hB
  gi_wp2
  refine ⟨by simp,.inl ⟨_,_,rfl,run_takeDeferred hK,?_⟩⟩
  have hc2:=(j6h hv hK (by rfl) (o':=.deferred none)).cell
  have hce2:=(j6h he hK (by rfl) (o':=.deferred none)).cell
  refine ⟨.tuple #[.slice none 0 0,.int .i64 4],?_,?_⟩
  ·simp [results,Tryz.results214,go_sem,hc2,hce2]
  ·show j11 _ _ _ _ _
   unfold j11
   rw [HG.out]
   exact ⟨_,rfl,World.ownsRow_nil _ _ _ _,HB.out.trans (belowK_b (w:=W0) (by omega) W D _ _ hD hK rfl rfl),λ _=>rfl⟩
def Tab (w:World):Prop:=TabAt 3 Lib.deBruijn64tab w
end Go.Proofs.YtpecnaacgkgjmaaGreatDoor
namespace Go.Proofs.YtpecnaacgkgjmaaGreatDoor
open Go.AM Go.RowKit
theorem jt4 (p:Int) (w:World):Calls Tryz.prog 167 #[.int .u64 p] w λ e w'=>e = .returned (.bool (jt3 p))/\w=w':=by
 unfold jt3 P0 P1 P2
 by_cases h0:p=18446744069414584321
 ·subst h0
  go_enter Tryz.func167,Tryz.ntmps167
  go_wp2
  go_ret
  exact ⟨rfl,rfl⟩
 ·by_cases h1:p=998244353
  ·subst h1
   go_enter Tryz.func167,Tryz.ntmps167
   go_wp2
   go_ret
   exact ⟨rfl,rfl⟩
  ·by_cases h2:p=2013265921
   ·subst h2
    go_enter Tryz.func167,Tryz.ntmps167
    go_wp2
    go_ret
    exact ⟨rfl,rfl⟩
   ·have e0:(p == 18446744069414584321)=false:=beq_eq_false_iff_ne.2 h0
    have e1:(p == 998244353)=false:=beq_eq_false_iff_ne.2 h1
    have e2:(p == 2013265921)=false:=beq_eq_false_iff_ne.2 h2
    go_enter Tryz.func167,Tryz.ntmps167
    go_wp2
    go_ret
    exact ⟨by rw [e0,e1,e2]; rfl,rfl⟩
theorem j1s (x y s c:Int) (hx:0<=x) (hx2:x < 18446744073709551616) (hy:0<=y) (hy2:y < 18446744073709551616) (hs:s=(x+y) % 18446744073709551616) (hc:c=if x+y < 18446744073709551616 then 0 else 1) (w:World) :
 (callFunc 241 #[.int .u64 x,.int .u64 y,.int .u64 0]).run Tryz.prog w = .ok (.value (.tuple #[.int .u64 s,.int .u64 c])) w:=by
 rw [run_callFunc_extern Tryz.func241 (by kernel_rfl) (by kernel_rfl) (by kernel_rfl) (e:=add64Entry) (by kernel_rfl)]
 obtain ⟨m,rfl⟩:=Int.eq_ofNat_of_zero_le hx
 obtain ⟨n,rfl⟩:=Int.eq_ofNat_of_zero_le hy
 have h:=run_add64 (P:=Tryz.prog) (w:=w) (m:Int) (n:Int) 0 (by omega) (by omega) (by omega) (by omega)
 have e1:((m:Int)+n+0) % 18446744073709551616=s:=by rw [hs,Int.add_zero]
 have e2:((m:Int)+n+0) / 18446744073709551616=c:=by rw [hc]; split <;> omega
 rw [h,e1,e2]
 rfl
theorem zbf (x y s c:Int) (hx:0<=x) (hx2:x < 18446744073709551616) (hy:0<=y) (hy2:y < 18446744073709551616) (hs:s=(x-y) % 18446744073709551616) (hc:c=if x < y then 1 else 0) (w:World) :
 (callFunc 240 #[.int .u64 x,.int .u64 y,.int .u64 0]).run Tryz.prog w = .ok (.value (.tuple #[.int .u64 s,.int .u64 c])) w:=by
 rw [run_callFunc_extern Tryz.func240 (by kernel_rfl) (by kernel_rfl) (by kernel_rfl) (e:=sub64Entry) (by kernel_rfl)]
 obtain ⟨m,rfl⟩:=Int.eq_ofNat_of_zero_le hx
 obtain ⟨n,rfl⟩:=Int.eq_ofNat_of_zero_le hy
 have h:=run_sub64 (P:=Tryz.prog) (w:=w) m n 0 (by omega)
 have e1:(((m+18446744073709551616-n-0) % 18446744073709551616:Nat):Int)=s:=by rw [hs]; omega
 have e2:((if m < n+0 then 1 else 0:Nat):Int)=c:=by rw [hc]; split <;> split <;> omega
 rw [e1,e2] at h
 rw [show (0:Int)=((0:Nat):Int) from rfl,h]
 rfl
theorem zej (n:Int):IntKind.u64.wrap n=n % 18446744073709551616:=by simp [IntKind.wrap,IntKind.bits,IntKind.signed]
theorem z5k (p a:Int) (ha:0<=a) (ha2:a < 18446744073709551616) (w:World) :
 Calls Tryz.prog 130 #[.int .u64 p,.int .u64 a] w λ e w'=>e = .returned (.int .u64 (red p a))/\w=w':=by
 cases hk:jt3 p with
 | false =>
   have hr:red p a=0:=by unfold red;rw [hk]; rfl
   have HR:=Lib.hid hr
   have HK:=Lib.hid hk
   clear hr hk
   go_enter Tryz.func130,Tryz.ntmps130
   go_wp2_with fail
   refine (jt4 p _).mono ?_
   rw [HK.out]
   rintro e w' ⟨rfl,rfl⟩
   go_wp2
   go_ret
   exact ⟨by rw [HR.out]; rfl,rfl⟩
 | true =>
   have hr:red p a=a % p:=by unfold red;rw [hk]; rfl
   have HR:=Lib.hid hr
   have HK:=Lib.hid hk
   clear hr
   by_cases h0:p=P0
   ·unfold P0 at h0
    subst h0
    clear hk
    by_cases hge:(18446744069414584321:Int)<=a
    ·go_enter Tryz.func130,Tryz.ntmps130
     go_wp2_with fail
     refine (jt4 _ _).mono ?_
     rw [HK.out]
     rintro e w' ⟨rfl,rfl⟩
     go_wp2
     go_ret
     exact ⟨by rw [HR.out,show a % 18446744069414584321=a-18446744069414584321 from by omega]; rfl,rfl⟩
    ·go_enter Tryz.func130,Tryz.ntmps130
     go_wp2_with fail
     refine (jt4 _ _).mono ?_
     rw [HK.out]
     rintro e w' ⟨rfl,rfl⟩
     go_wp2
     go_ret
     exact ⟨by rw [HR.out,show a % 18446744069414584321=a from by omega]; rfl,rfl⟩
   ·have hp:1<=p/\p < 18446744073709551616:=by
     unfold jt3 at hk
     simp only [Bool.or_eq_true,beq_iff_eq] at hk
     unfold P0 P1 P2 at hk
     omega
    obtain ⟨hp1,hp2⟩:=hp
    clear hk
    unfold P0 at h0
    have hb:(p == 18446744069414584321)=false:=beq_eq_false_iff_ne.2 h0
    clear h0
    have hne:(p == 0)=false:=beq_eq_false_iff_ne.2 (by omega)
    go_enter Tryz.func130,Tryz.ntmps130
    go_wp2_with fail
    refine (jt4 _ _).mono ?_
    rw [HK.out]
    rintro e w' ⟨rfl,rfl⟩
    go_wp2
    go_ret
    exact ⟨by rw [HR.out]; rfl,rfl⟩
theorem jeo (h d:Int) (hh:0<=h) (hh2:h < 18446744073709551616) (hd:0<=d) (hd2:d < 18446744073709551616) (w:World) :
 Calls Tryz.prog 189 #[.int .u64 h,.int .u64 d] w λ e w'=>e = .returned (.int .u64 ((h*18446744073709551616+d) % P0))/\w=w':=by
 obtain ⟨top,ht⟩:∃ t,t=h / 4294967296:=⟨_,rfl⟩
 obtain ⟨mid,hm⟩:∃ t,t=h % 4294967296:=⟨_,rfl⟩
 have htop:0<=top/\top < 4294967296:=by omega
 have hmid:0<=mid/\mid < 4294967296:=by omega
 have hhm:h=top*4294967296+mid:=by omega
 have e1:h / 4294967296=top:=ht.symm
 have e2:bits .and .u64 h 4294967295=mid:=by rw [and_low32 h hh hh2,hm]
 have HH:=Lib.hid hhm
 clear ht hm hhm
 obtain ⟨prod,hprod⟩:∃ t,t=mid*4294967295:=⟨_,rfl⟩
 have hp0:0<=prod/\prod<=18446744065119617025:=by omega
 have e3:IntKind.u64.wrap (mid*4294967295)=prod:=by rw [zej]; omega
 have HP:=Lib.hid hprod
 clear hprod
 have fin:∀ s:Int,(∃ k:Int,s=h*18446744073709551616+d-k*18446744069414584321)->s % P0=(h*18446744073709551616+d) % P0:=by
  rintro s ⟨k,rfl⟩
  unfold P0
  rw [Int.sub_mul_emod_self_right]
 have HF:=Lib.hid fin
 clear fin
 by_cases hb:d < top
 ·-- the words go around
  obtain ⟨left,hl⟩:∃ t,t=d-top+18446744073709551616-4294967295:=⟨_,rfl⟩
  obtain ⟨l0,hl0⟩:∃ t,t=d-top+18446744073709551616:=⟨_,rfl⟩
  have hs:=zbf d top l0 1 hd hd2 htop.1 (by omega) (by omega) (by rw [if_pos hb])
  have e4:IntKind.u64.wrap (l0-4294967295)=left:=by rw [zej]; omega
  have hlb:0<=left/\left < 18446744073709551616:=by omega
  by_cases hc:left+prod < 18446744073709551616
  ·obtain ⟨sum,hsum⟩:∃ t,t=left+prod:=⟨_,rfl⟩
   have ha:=j1s left prod sum 0 hlb.1 hlb.2 hp0.1 (by omega) (by omega) (by rw [if_pos hc])
   have hsb:0<=sum/\sum < 18446744073709551616:=by omega
   have HS:=Lib.hid (show ∃ k:Int,sum=h*18446744073709551616+d-k*18446744069414584321 from ⟨top*4294967297+mid-1,by have:=HH.out;have:=HP.out;omega⟩)
   clear hl hl0 hc hsum hlb hp0 hmid htop hb
   go_enter Tryz.func189,Tryz.ntmps189
   go_wp2_with fail
   refine (z5k P0 sum hsb.1 hsb.2 _).mono ?_
   rintro e w' ⟨rfl,rfl⟩
   go_wp2
   go_ret
   exact ⟨by rw [<- HF.out _ HS.out]; rfl,rfl⟩
  ·obtain ⟨s0,hs0⟩:∃ t,t=left+prod-18446744073709551616:=⟨_,rfl⟩
   obtain ⟨sum,hsum⟩:∃ t,t=s0+4294967295:=⟨_,rfl⟩
   have ha:=j1s left prod s0 1 hlb.1 hlb.2 hp0.1 (by omega) (by omega) (by rw [if_neg hc])
   have e5:IntKind.u64.wrap (s0+4294967295)=sum:=by rw [zej]; omega
   have hsb:0<=sum/\sum < 18446744073709551616:=by omega
   have HS:=Lib.hid (show ∃ k:Int,sum=h*18446744073709551616+d-k*18446744069414584321 from ⟨top*4294967297+mid,by have:=HH.out;have:=HP.out;omega⟩)
   clear hl hl0 hc hsum hs0 hlb hp0 hmid htop hb
   go_enter Tryz.func189,Tryz.ntmps189
   go_wp2_with fail
   refine (z5k P0 sum hsb.1 hsb.2 _).mono ?_
   rintro e w' ⟨rfl,rfl⟩
   go_wp2
   go_ret
   exact ⟨by rw [<- HF.out _ HS.out]; rfl,rfl⟩
 ·obtain ⟨left,hl⟩:∃ t,t=d-top:=⟨_,rfl⟩
  have hs:=zbf d top left 0 hd hd2 htop.1 (by omega) (by omega) (by rw [if_neg hb])
  have hlb:0<=left/\left < 18446744073709551616:=by omega
  by_cases hc:left+prod < 18446744073709551616
  ·obtain ⟨sum,hsum⟩:∃ t,t=left+prod:=⟨_,rfl⟩
   have ha:=j1s left prod sum 0 hlb.1 hlb.2 hp0.1 (by omega) (by omega) (by rw [if_pos hc])
   have hsb:0<=sum/\sum < 18446744073709551616:=by omega
   have HS:=Lib.hid (show ∃ k:Int,sum=h*18446744073709551616+d-k*18446744069414584321 from ⟨top*4294967297+mid,by have:=HH.out;have:=HP.out;omega⟩)
   clear hl hc hsum hlb hp0 hmid htop hb
   go_enter Tryz.func189,Tryz.ntmps189
   go_wp2_with fail
   refine (z5k P0 sum hsb.1 hsb.2 _).mono ?_
   rintro e w' ⟨rfl,rfl⟩
   go_wp2
   go_ret
   exact ⟨by rw [<- HF.out _ HS.out]; rfl,rfl⟩
  ·obtain ⟨s0,hs0⟩:∃ t,t=left+prod-18446744073709551616:=⟨_,rfl⟩
   obtain ⟨sum,hsum⟩:∃ t,t=s0+4294967295:=⟨_,rfl⟩
   have ha:=j1s left prod s0 1 hlb.1 hlb.2 hp0.1 (by omega) (by omega) (by rw [if_neg hc])
   have e5:IntKind.u64.wrap (s0+4294967295)=sum:=by rw [zej]; omega
   have hsb:0<=sum/\sum < 18446744073709551616:=by omega
   have HS:=Lib.hid (show ∃ k:Int,sum=h*18446744073709551616+d-k*18446744069414584321 from ⟨top*4294967297+mid+1,by have:=HH.out;have:=HP.out;omega⟩)
   clear hl hc hsum hs0 hlb hp0 hmid htop hb
   go_enter Tryz.func189,Tryz.ntmps189
   go_wp2_with fail
   refine (z5k P0 sum hsb.1 hsb.2 _).mono ?_
   rintro e w' ⟨rfl,rfl⟩
   go_wp2
   go_ret
   exact ⟨by rw [<- HF.out _ HS.out]; rfl,rfl⟩
theorem ja0 (lo y:Int) (hl:0<=lo) (hl2:lo < 18446744073709551616) (hy:1<=y) (hy2:y < 18446744073709551616) (w:World) :
 Calls Tryz.prog 242 #[.int .u64 0,.int .u64 lo,.int .u64 y] w λ e w'=>e = .returned (.tuple #[.int .u64 (lo / y),.int .u64 (lo % y)])/\∃ n,w'=w.drewN n:=by
 have hne:(y == 0)=false:=beq_eq_false_iff_ne.2 (by omega)
 have hle:decide (y<=0)=false:=decide_eq_false (by omega)
 go_enter Tryz.func242,Tryz.ntmps242
 go_wp2
 go_quiet (fail)
 go_wp2
 go_ret2
 exact ⟨rfl,_,rfl⟩
theorem z5m (lo y:Int) (hl:0<=lo) (hl2:lo < 18446744073709551616) (hy:1<=y) (hy2:y < 18446744073709551616) (w:World) :
 Calls Tryz.prog 190 #[.int .u64 0,.int .u64 lo,.int .u64 y] w λ e w'=>e = .returned (.int .u64 (lo % y))/\∃ n,w'=w.drewN n:=by
 have hne:(y == 0)=false:=beq_eq_false_iff_ne.2 (by omega)
 go_enter Tryz.func190,Tryz.ntmps190
 go_wp2_with fail
 refine (ja0 lo y hl hl2 hy hy2 _).mono ?_
 rintro e w' ⟨rfl,n,rfl⟩
 go_wp2
 go_ret
 exact ⟨rfl,_,rfl⟩
theorem jxk (p a b:Int) (ha:0<=a) (ha2:a < 18446744073709551616) (hb:0<=b) (hb2:b < 18446744073709551616) (w:World) :
 Calls Tryz.prog 132 #[.int .u64 p,.int .u64 a,.int .u64 b] w λ e w'=>e = .returned (.int .u64 (jxc p a b))/\∃ n,w'=w.drewN n:=by
 cases hk:jt3 p with
 | false =>
   have HR:=Lib.hid (show jxc p a b=0 by unfold jxc;rw [hk]; rfl)
   have HK:=Lib.hid hk
   clear hk
   go_enter Tryz.func132,Tryz.ntmps132
   go_wp2_with fail
   refine (jt4 p _).mono ?_
   rw [HK.out]
   rintro e w' ⟨rfl,rfl⟩
   go_wp2
   go_ret
   exact ⟨by rw [HR.out]; rfl,0,rfl⟩
 | true =>
   have hr:jxc p a b=red p a*red p b % p:=by unfold jxc red;rw [if_pos hk,if_pos hk,if_pos hk,<- Int.mul_emod]
   have hp:=jt7 hk
   obtain ⟨hx0,hx1⟩:=z5f p a hk
   obtain ⟨hy0,hy1⟩:=z5f p b hk
   obtain ⟨x,hx⟩:=Int.eq_ofNat_of_zero_le hx0
   obtain ⟨y,hy⟩:=Int.eq_ofNat_of_zero_le hy0
   have HX:=Lib.hid hx
   have HY:=Lib.hid hy
   have HR:=Lib.hid hr
   have HK:=Lib.hid hk
   have hxb:x < 18446744073709551616:=by omega
   have hyb:y < 18446744073709551616:=by omega
   have hxy:x*y < 18446744073709551616*18446744073709551616:=Nat.mul_lt_mul'' hxb hyb
   have hhi:x*y / 18446744073709551616 < 18446744073709551616:=Nat.div_lt_of_lt_mul hxy
   obtain ⟨hi,hhi2⟩:∃ t,t=x*y / 18446744073709551616:=⟨_,rfl⟩
   obtain ⟨lo,hlo2⟩:∃ t,t=x*y % 18446744073709551616:=⟨_,rfl⟩
   have hb1:0<=(hi:Int)/\(hi:Int) < 18446744073709551616:=by rw [<- hhi2] at hhi;omega
   have hb2':0<=(lo:Int)/\(lo:Int) < 18446744073709551616:=by omega
   have hcomb:(hi:Int)*18446744073709551616+lo=(x:Int)*y:=by
    have:=Nat.div_add_mod (x*y) 18446744073709551616
    rw [<- hhi2,<- hlo2] at this
    rw [<- Int.natCast_mul,<- this]; simp;omega
   have HC:=Lib.hid hcomb
   have hmul:=λ w=>Tryz.bits_Mul64 x y hxb hyb w
   rw [<- hhi2,<- hlo2] at hmul
   have HM:=Lib.hid hmul
   by_cases h0:p=P0
   ·subst h0
    clear hx hy hr hk hxy hhi hhi2 hlo2 hcomb hmul hxb hyb hx0 hx1 hy0 hy1 hp
    unfold P0 at HK HX HY ⊢
    go_enter Tryz.func132,Tryz.ntmps132
    go_wp2_with fail
    refine (jt4 _ _).mono ?_
    rw [HK.out]
    rintro e w' ⟨rfl,rfl⟩
    go_wp2_with fail
    refine (z5k _ a ha ha2 _).mono ?_
    rw [HX.out]
    rintro e w' ⟨rfl,rfl⟩
    go_wp2_with fail
    refine (z5k _ b hb hb2 _).mono ?_
    rw [HY.out]
    rintro e w' ⟨rfl,rfl⟩
    go_wp2_with fail
    refine (HM.out _).mono ?_
    rintro e w' ⟨rfl,rfl⟩
    go_wp2_with fail
    refine (jeo _ _ hb1.1 hb1.2 hb2'.1 hb2'.2 _).mono ?_
    rintro e w' ⟨rfl,rfl⟩
    go_wp2
    go_ret
    refine ⟨?_,0,rfl⟩
    have h1:=HR.out
    unfold P0 at h1
    rw [h1,HX.out,HY.out,<- HC.out]; rfl
   ·have hps:p < 4294967296:=by
     rcases jt5 hk with h | h | h
     ·exact absurd h h0
     ·rw [h]; decide
     ·rw [h]; decide
    have hxy2:x*y < 4294967296*4294967296:=Nat.mul_lt_mul'' (by omega) (by omega)
    have hhi0:hi=0:=by omega
    subst hhi0
    have hlo3:(lo:Int)=(x:Int)*y:=by have:=HC.out;omega
    have HL:=Lib.hid hlo3
    unfold P0 at h0
    have hbq:(p == 18446744069414584321)=false:=beq_eq_false_iff_ne.2 h0
    clear hx hy hr hk hxy hhi hhi2 hlo2 hcomb hmul hxb hyb hx0 hx1 hy0 hy1 h0 hlo3 hps hxy2 hb1
    go_enter Tryz.func132,Tryz.ntmps132
    go_wp2_with fail
    refine (jt4 _ _).mono ?_
    rw [HK.out]
    rintro e w' ⟨rfl,rfl⟩
    go_wp2_with fail
    refine (z5k _ a ha ha2 _).mono ?_
    rw [HX.out]
    rintro e w' ⟨rfl,rfl⟩
    go_wp2_with fail
    refine (z5k _ b hb hb2 _).mono ?_
    rw [HY.out]
    rintro e w' ⟨rfl,rfl⟩
    go_wp2_with fail
    refine (HM.out _).mono ?_
    rintro e w' ⟨rfl,rfl⟩
    go_wp2_with fail
    refine (z5m _ _ hb2'.1 hb2'.2 hp.1 hp.2 _).mono ?_
    rintro e w' ⟨rfl,n,rfl⟩
    go_wp2
    go_ret
    refine ⟨?_,n,rfl⟩
    rw [HR.out,HX.out,HY.out,<- HL.out]; rfl
set_option maxHeartbeats 1000000 in
set_option maxRecDepth 100000 in
theorem jdy (p:Int) (w:World):Calls Tryz.prog 233 #[.int .u64 p] w λ e w'=>e = .returned (.int .u64 (jdt p))/\Below w.heap.size w w':=by
 have i0:∀ w,(Instr.index 299 (.agg #[.int .u64 18446744069414584321,.int .u64 7,.int .u64 998244353,.int .u64 3,.int .u64 2013265921,.int .u64 31]) (.int .i64 0)).run Tryz.prog w = .ok (.agg #[.int .u64 18446744069414584321,.int .u64 7]) w:=λ _=>by kernel_rfl
 have i1:∀ w,(Instr.index 299 (.agg #[.int .u64 18446744069414584321,.int .u64 7,.int .u64 998244353,.int .u64 3,.int .u64 2013265921,.int .u64 31]) (.int .i64 1)).run Tryz.prog w = .ok (.agg #[.int .u64 998244353,.int .u64 3]) w:=λ _=>by kernel_rfl
 have i2:∀ w,(Instr.index 299 (.agg #[.int .u64 18446744069414584321,.int .u64 7,.int .u64 998244353,.int .u64 3,.int .u64 2013265921,.int .u64 31]) (.int .i64 2)).run Tryz.prog w = .ok (.agg #[.int .u64 2013265921,.int .u64 31]) w:=λ _=>by kernel_rfl
 by_cases h0:p=18446744069414584321
 ·subst h0
  go_enter Tryz.func233,Tryz.ntmps233
  go_wp2
  refine wp_loop_rounds 1 ?_
  rw [rounds_succ]
  go_wp2
  go_ret
  exact ⟨rfl,by repeat (first | exact Below.refl _ _ | refine Below.setCell ?_ (by first | exact Nat.le_refl _ | (simp;done) | (simp;omega)) _ | refine Below.alloc ?_ (by first | exact Nat.le_refl _ | (simp;done) | (simp;omega)) _)⟩
 ·have q0:((18446744069414584321:Int) == p)=false:=beq_eq_false_iff_ne.2 (λ e=>h0 e.symm)
  by_cases h1:p=998244353
  ·subst h1
   go_enter Tryz.func233,Tryz.ntmps233
   go_wp2
   refine wp_loop_rounds 2 ?_
   rw [rounds_succ]
   go_wp2
   rw [rounds_succ]
   go_wp2
   go_ret
   exact ⟨by rfl,by repeat (first | exact Below.refl _ _ | refine Below.setCell ?_ (by first | exact Nat.le_refl _ | (simp;done) | (simp;omega)) _ | refine Below.alloc ?_ (by first | exact Nat.le_refl _ | (simp;done) | (simp;omega)) _)⟩
  ·have q1:((998244353:Int) == p)=false:=beq_eq_false_iff_ne.2 (λ e=>h1 e.symm)
   by_cases h2:p=2013265921
   ·subst h2
    go_enter Tryz.func233,Tryz.ntmps233
    go_wp2
    refine wp_loop_rounds 3 ?_
    rw [rounds_succ]
    go_wp2
    rw [rounds_succ]
    go_wp2
    rw [rounds_succ]
    go_wp2
    go_ret
    exact ⟨by rfl,by repeat (first | exact Below.refl _ _ | refine Below.setCell ?_ (by first | exact Nat.le_refl _ | (simp;done) | (simp;omega)) _ | refine Below.alloc ?_ (by first | exact Nat.le_refl _ | (simp;done) | (simp;omega)) _)⟩
   ·have q2:((2013265921:Int) == p)=false:=beq_eq_false_iff_ne.2 (λ e=>h2 e.symm)
    have hg:jdt p=0:=by unfold jdt P0 P1 P2;rw [if_neg h0,if_neg h1,if_neg h2]
    have HG:=Lib.hid hg
    clear hg h0 h1 h2
    go_enter Tryz.func233,Tryz.ntmps233
    go_wp2
    refine wp_loop_rounds 4 ?_
    rw [rounds_succ]
    go_wp2
    rw [rounds_succ]
    go_wp2
    rw [rounds_succ]
    go_wp2
    rw [rounds_succ]
    go_wp2
    go_ret
    exact ⟨by rw [HG.out]; rfl,by repeat (first | exact Below.refl _ _ | refine Below.setCell ?_ (by first | exact Nat.le_refl _ | (simp;done) | (simp;omega)) _ | refine Below.alloc ?_ (by first | exact Nat.le_refl _ | (simp;done) | (simp;omega)) _)⟩
end Go.Proofs.YtpecnaacgkgjmaaGreatDoor
namespace Go.Proofs.YtpecnaacgkgjmaaGreatDoor
open Go.RowKit Go.Shelf Go.AM
def GT (G:List (Nat×Obj)):Prop:=∀ w:World,(∀ p∈G,w.heap[p.1]? = some p.2)->Tab w
def z4f (n:Int):List Value×Value:=
 if 1<=n/\n<=4096 then (if (z4c n.toNat).all (λ r=>decide (r<=5)) then (jxt (z4c n.toNat),.int .i64 0) else ([],.int .i64 4)) else ([],.int .i64 4)
def z47 (args:List Value):Option (List Value×Value):=match args with
 | [.int .i64 n] => some (z4f n)
 | _ => none
theorem jxu (l:List Nat):(jxt l).all jcs=true:=by
 unfold jxt
 rw [List.all_map]
 exact List.all_eq_true.2 λ x _=>rfl
def z48:List Value->M Value:=z6e 3 z47
theorem z4n {G:List (Nat×Obj)} (hG:GT G):j0i Tryz.prog G 214 z48:=by
 unfold z48
 refine z6f (Go.AM.enters_of Tryz.func214 rfl (by decide +kernel)) ?_
 intro args xs c h
 unfold z47 at h
 split at h
 ·rename_i n
  injection h with h
  unfold z4f at h
  split at h
  ·rename_i hc
   obtain ⟨m,rfl⟩:=Int.eq_ofNat_of_zero_le (show 0<=n by omega)
   have hn:1<=m/\m<=4096:=by omega
   rw [Int.toNat_natCast] at h
   split at h
   ·rename_i hg
    injection h with h1 h2
    subst h1 h2
    refine ⟨rfl,jxu _,rfl,λ w hw=>?_⟩
    refine (z4s m _ hn.1 hn.2 rfl (j8a m (by omega) hn.1).1 (j8a m (by omega) hn.1).2.1 (j8a m (by omega) hn.1).2.2 w (hG w hw)).mono ?_
    rintro e w' ⟨v,he,ho,hb,hnil⟩
    have hg:(z4h (Lib.ctz 64 m) m).all (λ r=>decide (r<=5))=true:=hg
    rw [if_pos hg] at he ho hnil
    refine ⟨v,he,?_,hb,λ h=>hnil ?_⟩
    ·rw [show (jxt (z4c m)).length=(z4h (Lib.ctz 64 m) m).length by simp [jxt,z4c]]; exact ho
    ·simpa [jxt,z4c] using h
   ·rename_i hg
    injection h with h1 h2
    subst h1 h2
    refine ⟨rfl,rfl,rfl,λ w hw=>?_⟩
    refine (z4s m _ hn.1 hn.2 rfl (j8a m (by omega) hn.1).1 (j8a m (by omega) hn.1).2.1 (j8a m (by omega) hn.1).2.2 w (hG w hw)).mono ?_
    rintro e w' ⟨v,he,ho,hb,hnil⟩
    have hg:¬ (z4h (Lib.ctz 64 m) m).all (λ r=>decide (r<=5))=true:=hg
    rw [if_neg hg] at he ho hnil
    exact ⟨v,he,ho,hb,λ _=>hnil rfl⟩
  ·rename_i hc
   injection h with h1 h2
   subst h1 h2
   refine ⟨rfl,rfl,rfl,λ w hw=>?_⟩
   exact (z4q n (by omega) w).mono λ e w' ⟨he,hb⟩=>⟨_,he,World.ownsRow_nil _ _ _ _,hb,λ _=>rfl⟩
 ·cases h
def z5c (args:List Value):Option Value:=match args with
 | [.int .u64 p, .int .u64 a] => if 0 <= a /\ a < 18446744073709551616 then some (.int .u64 (red p a)) else none
 | _ => none
def z5d:List Value->M Value:=zet z5c
theorem z5h {G:List (Nat×Obj)}:j0i Tryz.prog G 130 z5d:=by
 refine zeu (Go.AM.enters_of Tryz.func130 rfl (by decide +kernel)) ?_
 intro args v h
 unfold z5c at h
 split at h
 ·split at h
  ·rename_i hc
   cases h
   exact ⟨rfl,rfl,λ w _=>(z5k _ _ hc.1 hc.2 w).mono λ e w' ⟨he,hw⟩=>⟨he,by rw [hw]; exact .refl _ _⟩⟩
  ·cases h
 ·cases h
def jxd (args:List Value):Option Value:=match args with
 | [.int .u64 p, .int .u64 a, .int .u64 b] => if 0 <= a /\ a < 18446744073709551616 /\ 0 <= b /\ b < 18446744073709551616 then some (.int .u64 (jxc p a b)) else none
 | _ => none
def jxi:List Value->M Value:=zet jxd
theorem jxm {G:List (Nat×Obj)}:j0i Tryz.prog G 132 jxi:=by
 refine zeu (Go.AM.enters_of Tryz.func132 rfl (by decide +kernel)) ?_
 intro args v h
 unfold jxd at h
 split at h
 ·split at h
  ·rename_i hc
   cases h
   exact ⟨rfl,rfl,λ w _=>(jxk _ _ _ hc.1 hc.2.1 hc.2.2.1 hc.2.2.2 w).mono λ e w' ⟨he,n,hw⟩=>⟨he,by rw [hw]; exact ⟨rfl,rfl,rfl,Nat.le_refl _,λ _ _=>rfl⟩⟩⟩
  ·cases h
 ·cases h
def jdu (args:List Value):Option Value:=match args with
 | [.int .u64 p] => some (.int .u64 (jdt p))
 | _ => none
def jdw:List Value->M Value:=zet jdu
theorem je0 {G:List (Nat×Obj)}:j0i Tryz.prog G 233 jdw:=by
 refine zeu (Go.AM.enters_of Tryz.func233 rfl (by decide +kernel)) ?_
 intro args v h
 unfold jdu at h
 split at h
 ·cases h
  exact ⟨rfl,rfl,λ w _=>jdy _ w⟩
 ·cases h
def juy (args:List Value):Option Value:=match args with
 | [.int .u64 a] => if 0 <= a /\ a <= 18446744073709551615 then some (.int .i64 (Lib.bitLen a.toNat)) else none
 | _ => none
def juz:List Value->M Value:=zet juy
theorem jv1 {G:List (Nat×Obj)}:j0i Tryz.prog G 246 juz:=by
 refine zeu (Go.AM.enters_of Tryz.func246 rfl (by decide +kernel)) ?_
 intro args v h
 unfold juy at h
 split at h
 ·split at h
  ·rename_i hc
   cases h
   exact ⟨rfl,rfl,λ w _=>(Tryz.bits_Len64 _ w hc.1 hc.2).mono λ e w' ⟨he,hw⟩=>⟨he,by rw [hw]; exact .refl _ _⟩⟩
  ·cases h
 ·cases h
end Go.Proofs.YtpecnaacgkgjmaaGreatDoor
