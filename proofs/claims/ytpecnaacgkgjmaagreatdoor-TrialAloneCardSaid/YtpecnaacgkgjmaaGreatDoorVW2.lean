/-
  Part of the proof of a law: what the functions compute. Conditions: none.
-/
import Derived.Test.YtpecnaacgkgjmaaGreatDoorVW1
import Derived.Test.YtpecnaacgkgjmaaGreatDoorVP1
import Derived.KernelRfl
set_option linter.unusedVariables false
set_option linter.unusedSectionVars false
set_option linter.unusedSimpArgs false
set_option linter.deprecated false
namespace Go.AM
open Go Go.Proofs.YtpecnaacgkgjmaaGreatDoor
theorem words16_w {S:St} {p:Int} {axes a:Option Addr} {n c xn xc:Nat} {l:List Ax} {s:Stp} {x:List Int} (hs:stepV p l s=0) (h:Ar S axes n 2 eAx l) (hl:n<=8796093022208) (hx:Ar S a xn 1 eU x) (hn:(x.length:Int)=nV l) (hi:∀ y∈x,inP p y) :
 WP (gq53 [vU p,.slice axes n c,spV s,.slice a xn xc]) S λ v S'=>v=vI 0/\S <+: S':=by
 obtain ⟨k,d,inner,nn,m,hS⟩:=step_shape hs
 obtain ⟨hg,_⟩:=stepV_inv hs
 obtain ⟨hk,hal,_⟩:=grid_ok hg
 have hxl:=hx.1
 have hnn:=hS.nn
 have hn1:=hS.n1
 rw [gq53_eq]
 simp only [wps]
 have hp:=List.prefix_append S [AObj.cells (spC s) 29 none]
 generalize hY:S++[AObj.cells (spC s) 29 none]=Y at hp ⊢
 refine (stepc_w (c:=c) (h.mono hp) hl s).use ?_
 rintro _ S1 k1 rfl
 have p1:=hp.trans k1
 simp only [wps,hs]
 refine (dims2_w (c:=c) (h.mono p1) hl).mono ?_
 rintro _ S2 ⟨rfl,k2,har⟩
 have p2:=p1.trans k2
 have hin:=in_w (p:=p) (c:=xc) (hx.mono p2) (by omega)
 rw [inV_of hk hi] at hin
 have e1:(allV (dimsOf l)).1=(xn:Int):=by
  have : nV l=(allV (dimsOf l)).1:=rfl
  omega
 simp only [wps,(all_w (c:=n) har).wp,hal,e1,hin.wp]
 exact p2
def OwnU (L:Nat) (S':St) (a:Option Addr) (out:List Int):Prop:=(a=none/\out=[])\/∃ b,a=some ⟨b,0,none⟩/\L<=b/\S'[b]? = some (.cells (out.flatMap eU) 24 (some 1))
theorem OwnU.ar {L:Nat} {S':St} {a:Option Addr} {out:List Int} (h:OwnU L S' a out):Ar S' a out.length 1 eU out:=by
 rcases h with ⟨rfl,rfl⟩ | ⟨b,rfl,_,hb⟩
 ·exact .nil
 ·exact Ar.blk hb (λ _ _=>rfl) rfl
theorem OwnU.pre {L:Nat} {S S':St} {a:Option Addr} {out:List Int} (h:OwnU L S a out) (k:S <+: S'):OwnU L S' a out:=h.imp id λ ⟨b,h1,h2,h3⟩=>⟨b,h1,h2,pre_get k h3⟩
theorem OwnU.lt {L:Nat} {S:St} {a:Option Addr} {out:List Int} (h:OwnU L S a out):∀ i,a=some ⟨i,0,none⟩->L<=i/\i < S.length:=by
 intro i hi
 rcases h with ⟨e,_⟩ | ⟨b,e,e2,hb⟩
 ·rw [hi] at e;cases e
 ·rw [hi] at e;injection e with e;injection e with e;subst e;exact ⟨e2,pre_lt hb⟩
theorem wp_pushU {L:Nat} {S:St} {a:Option Addr} {n:Nat} {out:List Int} {y:Int} {Q:Sl->St->Prop} (h:OwnU L S a out) (hn:n=out.length) (hsz:n<=1000000) (hL:L<=S.length)
 (q:∀ b S',S.length<=b->b < S'.length->S.length<=S'.length->(∀ i,i < S.length->a≠some ⟨i,0,none⟩->S'[i]? = S[i]?)->OwnU L S' (some ⟨b,0,none⟩) (out++[y])->Q ⟨some ⟨b,0,none⟩,n+1,n+1⟩ S') :
 WP (rdN (some (ad S.length 0)) 1) (S++[AObj.cells [vU y] 24 none]) λ xs S1=>WP (appM 24 1 8 a n n 1 xs) S1 Q:=by
 refine rdN_ar (get_new (S:=S) (o:=AObj.cells [vU y] 24 none)) rfl ?_
 have own':(a=none/\n=0/\out.flatMap eU=[])\/∃ b,a=some ⟨b,0,none⟩/\(S++[AObj.cells [vU y] 24 none])[b]? = some (.cells (out.flatMap eU) 24 (some 1)):=by
  rcases h with ⟨e1,e2⟩ | ⟨b,e1,_,e3⟩
  ·exact .inl ⟨e1,by rw [hn,e2]; rfl,by rw [e2]; rfl⟩
  ·exact .inr ⟨b,e1,get_add e3⟩
 refine wp_appN own' (by rw [flat_len (e:=eU) (w:=1) (λ _=>rfl)]; omega) (by omega) (by omega) (by omega) rfl ?_
 intro S' h1 h2 h3
 simp only [List.length_append,List.length_singleton] at h1 h2 h3 ⊢
 refine q _ S' (by omega) (by omega) (by omega) (λ i hi hne=>by rw [h2 i (by omega) hne,List.getElem?_append_left hi]) (.inr ⟨_,rfl,by omega,?_⟩)
 rw [h3,List.flatMap_append]; rfl
theorem OwnU.move {L:Nat} {S S':St} {a a2:Option Addr} {out:List Int} (h:OwnU L S a out) (k:∀ i,i < S.length->a2≠some ⟨i,0,none⟩->S'[i]? = S[i]?) (hne:∀ i,a=some ⟨i,0,none⟩->a2≠some ⟨i,0,none⟩):OwnU L S' a out:=by
 rcases h with h | ⟨b,e1,e2,e3⟩
 ·exact .inl h
 ·exact .inr ⟨b,e1,e2,by rw [k b (pre_lt e3) (hne b e1)]; exact e3⟩
theorem Ar.keepL {β:Type} {f:β->List Value} {m:List β} {S S':St} {p:Option Addr} {n v:Nat} (h:Ar S p n v f m) (k:∀ y,p=some y->S'[y.block]? = S[y.block]?):Ar S' p n v f m:=by
 refine ⟨h.1,λ i hi=>?_⟩
 obtain ⟨x,h1,h2⟩:=h.2 i hi
 refine ⟨x,h1,λ j u hu=>?_⟩
 have h3:=h2 j u hu
 have hblk:((x.add (i*v)).add j).block=x.block:=by
  unfold Addr.add;split <;> split <;> rfl
 unfold St.cell at h3 ⊢
 rw [hblk] at h3 ⊢
 rw [k x h1]; exact h3
structure PC (S:St) (p:Int) (inv:Bool) (s:Stp) (tab x:List Int) (t xb pb sb ib bb q:Nat):Prop where
 ft:∃ a n c,S[t]? = some (.cells [.slice a n c] 22 none)/\Ar S a n 1 eU tab/\∀ y,a=some y->y.block < S.length/\y.block≠q
 fx:∃ a n c,S[xb]? = some (.cells [.slice a n c] 22 none)/\Ar S a n 1 eU x/\∀ y,a=some y->y.block < S.length/\y.block≠q
 fp:S[pb]? = some (.cells [vU p] 24 none)
 fs:S[sb]? = some (.cells (spC s) 29 none)
 fi:S[ib]? = some (.cells [vB inv] 4 none)
 fb:S[bb]? = some (.cells [vI 0] 37 none)
 ne:t≠q/\xb≠q/\pb≠q/\sb≠q/\ib≠q/\bb≠q
theorem PC.kp {S S':St} {p:Int} {inv:Bool} {s:Stp} {tab x:List Int} {t xb pb sb ib bb q:Nat} (h:PC S p inv s tab x t xb pb sb ib bb q) (k:Kp [q] S S'):PC S' p inv s tab x t xb pb sb ib bb q:=by
 obtain ⟨a,n,c,h1,h2,h3⟩:=h.ft
 obtain ⟨a',n',c',h1',h2',h3'⟩:=h.fx
 obtain ⟨n1,n2,n3,n4,n5,n6⟩:=h.ne
 have hl:=k.len
 refine ⟨⟨a,n,c,k.get h1 (by simpa using n1),h2.keepL λ y hy=>k.keep _ (h3 y hy).1 (by simpa using (h3 y hy).2),λ y hy=>⟨Nat.lt_of_lt_of_le (h3 y hy).1 hl,(h3 y hy).2⟩⟩,⟨a',n',c',k.get h1' (by simpa using n2),h2'.keepL λ y hy=>k.keep _ (h3' y hy).1 (by simpa using (h3' y hy).2),λ y hy=>⟨Nat.lt_of_lt_of_le (h3' y hy).1 hl,(h3' y hy).2⟩⟩,k.get h.fp (by simpa using n3),k.get h.fs (by simpa using n4),k.get h.fi (by simpa using n5),k.get h.fb (by simpa using n6),h.ne⟩
theorem PC.pre {S S':St} {p:Int} {inv:Bool} {s:Stp} {tab x:List Int} {t xb pb sb ib bb q:Nat} (h:PC S p inv s tab x t xb pb sb ib bb q) (k:S <+: S'):PC S' p inv s tab x t xb pb sb ib bb q:=h.kp (.of k)
def Df (a b:Option Addr):Prop:=∀ i,a=some ⟨i,0,none⟩->b≠some ⟨i,0,none⟩
theorem getD_in {p:Int} (hk:known p=true) {l:List Int} (h:∀ y∈l,inP p y) (i:Nat):inP p (l.getD i 0):=by
 rw [List.getD_eq_getElem?_getD]
 cases hc:l[i]? with
 | none => exact inP_zero hk
 | some v => exact h v (List.mem_of_getElem? hc)
theorem push_pre {Y S1 S2:St} {a:Option Addr} (h:Y <+: S1) (k:∀ i,i < S1.length->a≠some ⟨i,0,none⟩->S2[i]? = S1[i]?) (ha:∀ i,a=some ⟨i,0,none⟩->Y.length<=i/\i < S1.length):Y <+: S2:=by
 rw [List.prefix_iff_getElem?]
 intro i hi
 have:=h.length_le
 rw [k i (by omega) (λ e=>by have:=ha i e;omega),pre_at h hi,List.getElem?_eq_getElem hi]
theorem nCell {S:St} {b:Nat} {l:List Nat} (h:S[b]? = some (nBlk l)) {j:Nat} (hj:j < l.length):S.cell ⟨b,j,none⟩=some (vN l[j]):=by
 rw [cell_blk h]; simp [hj]
theorem getD_at {l:List Int} {i:Nat} (h:i < l.length):l[i]=l.getD i 0:=by
 rw [List.getD_eq_getElem?_getD,List.getElem?_eq_getElem h]; rfl
set_option maxHeartbeats 4000000 in
theorem ptell_w {S:St} {p:Int} {inv:Bool} {s:Stp} {tab x:List Int} {t xb pb sb ib bb q:Nat} (h:PC S p inv s tab x t xb pb sb ib bb q) (hk:known p=true) (ht:∀ y∈tab,inP p y) (hx:∀ y∈x,inP p y) {g:GrN} (hg:g.ok s.tw) {b0 b1 b2:Nat} (h0:S[b0]? = some (nBlk g.i)) (h1:S[b1]? = some (nBlk g.f)) (h2:S[b2]? = some (nBlk g.o)) (nq:b0≠q/\b1≠q/\b2≠q)
 (hgi:∀ i∈g.i,i < x.length) (hgf:∀ i∈g.f,i < tab.length) (hgo:∀ i∈g.o,i < 100000) (hr:s.tw=false->2<=g.i.length/\g.i.length<=5/\(rootV p g.i.length).2=0) {s0 s1:Int} (hs0:inU s0) (hs1:inU s1) (hq:S[q]? = some (.cells [vU s0,vU s1] 40 none)) :
 WP (gq4x [grV b0 b1 b2 g,.pointer (some ⟨t,0,none⟩),.pointer (some ⟨xb,0,none⟩),.pointer (some ⟨pb,0,none⟩),.pointer (some ⟨sb,0,none⟩),.pointer (some ⟨ib,0,none⟩),.pointer (some ⟨bb,0,none⟩),.pointer (some ⟨q,0,none⟩)]) S λ v S'=>v=vT []/\Kp [q] S S' /\
  S'[q]? = some (.cells [vU (predStep p inv s.tw tab x (s0,s1) g).1,vU (predStep p inv s.tw tab x (s0,s1) g).2] 40 none):=by
 have hn5:g.i.length<=5:=by
  cases hw:s.tw with
  | true=>have:=hg.t hw;omega
  | false=>exact (hr hw).2.1
 have hn1:1<=g.i.length:=by
  cases hw:s.tw with
  | true=>have:=hg.t hw;omega
  | false=>have:=(hr hw).1;omega
 have hgfl:=hg.f
 have hgol:=hg.o
 rw [gq4x_eq]
 simp only [wps]
 have hp:=List.prefix_append S [AObj.cells [.slice (some ⟨b0,0,none⟩) g.i.length g.i.length,.slice (some ⟨b1,0,none⟩) g.f.length g.f.length,.slice (some ⟨b2,0,none⟩) g.o.length g.o.length] 128 none]
 have z:=get_new (S:=S) (o:=AObj.cells [.slice (some ⟨b0,0,none⟩) g.i.length g.i.length,.slice (some ⟨b1,0,none⟩) g.f.length g.f.length,.slice (some ⟨b2,0,none⟩) g.o.length g.o.length] 128 none)
 generalize hY:S++[AObj.cells [.slice (some ⟨b0,0,none⟩) g.i.length g.i.length,.slice (some ⟨b1,0,none⟩) g.f.length g.f.length,.slice (some ⟨b2,0,none⟩) g.o.length g.o.length] 128 none]=Y at hp z ⊢
 have hYq:q < Y.length:=by have:=pre_lt hq;have:=hp.length_le;omega
 have hPY:=h.pre hp
 generalize hW:g.i.map (λ i=>x.getD i 0)=W
 generalize hF:g.f.map (λ i=>tab.getD i 0)=F
 generalize hP:List.zipWith (λ f (o:Nat)=>mulF p f ((o:Int)+1)) F g.o=Pl
 have lW:W.length=g.i.length:=by rw [<- hW,List.length_map]
 have lF:F.length=g.i.length:=by rw [<- hF,List.length_map,hgfl]
 have lP:Pl.length=g.i.length:=by rw [<- hP,List.length_zipWith,lF,hgol]; omega
 refine wp_loop (λ st S' m=>∃ (j:Nat) (aw ao ap:Option Addr),st=[.slice aw j j,.slice ao j j,.slice ap j j,vN j]/\m=g.i.length-j/\j<=g.i.length/\Y <+: S'/\OwnU Y.length S' aw (W.take j)/\OwnU Y.length S' ao (F.take j)/\OwnU Y.length S' ap (Pl.take j)/\Df aw ao/\Df aw ap/\Df ao ap) ?_ g.i.length _ _ ?_
 rotate_left
 ·refine ⟨0,none,none,none,rfl,rfl,Nat.zero_le _,List.prefix_rfl,.inl ⟨rfl,rfl⟩,.inl ⟨rfl,rfl⟩,.inl ⟨rfl,rfl⟩,?_,?_,?_⟩
  all_goals intro i hi;cases hi
 rintro st S1 m ⟨j,aw,ao,ap,rfl,rfl,hj,k1,oW,oF,oP,d1,d2,d3⟩
 simp only [wps]
 refine ⟨λ h3=>⟨h3,?_⟩,λ h3=>?_⟩
 ·have hj':j < g.i.length:=by omega
  have hP1:=hPY.pre k1
  obtain ⟨ta,tn,tc,t1,t2,t3⟩:=hP1.ft
  obtain ⟨xa,xn,xc,x1,x2,x3⟩:=hP1.fx
  have hkS:=hp.trans k1
  have jf:j < g.f.length:=by omega
  have jo:j < g.o.length:=by omega
  have bi:=hgi _ (List.getElem_mem hj')
  have bf:=hgf _ (List.getElem_mem jf)
  have bo:=hgo _ (List.getElem_mem jo)
  have i0:=nCell (pre_get hkS h0) hj'
  have f0:=nCell (pre_get hkS h1) jf
  obtain ⟨tA,rfl,tc0⟩:=t2.getU (i:=g.f[j]) bf
  obtain ⟨xA,rfl,xc0⟩:=x2.getU (i:=g.i[j]) bi
  rw [getD_at bf] at tc0
  rw [getD_at bi] at xc0
  have tl:=t2.1
  have xl:=x2.1
  have z1:=pre_get k1 z
  have hft:inP p (tab.getD g.f[j] 0):=getD_in hk ht _
  simp only [wps,i0,cell_blk t1,cell_blk z1,f0,gcz,gcs,Int.toNat_natCast,tc0,cell_blk x1,xc0]
  refine ⟨by omega,by omega,by omega,?_⟩
  have hWj:W.take (j+1)=W.take j++[x.getD g.i[j] 0]:=by rw [take_snoc (show j < W.length by omega)]; congr 2;simp [<- hW]
  have hFj:F.take (j+1)=F.take j++[tab.getD g.f[j] 0]:=by rw [take_snoc (show j < F.length by omega)]; congr 2;simp [<- hF]
  have hPj:Pl.take (j+1)=Pl.take j++[mulF p (tab.getD g.f[j] 0) ((g.o[j]:Int)+1)]:=by rw [take_snoc (show j < Pl.length by omega)]; congr 2;simp [<- hP,<- hF]
  have hY1:=k1.length_le
  refine wp_pushU (n:=j) oW (by simp;omega) (by omega) hY1 ?_
  intro bw S2 w1 w2 w3 w4 oW2
  have k2:=push_pre k1 w4 oW.lt
  have oF2:=oF.move w4 (λ i hi e=>d1 i e hi)
  have oP2:=oP.move w4 (λ i hi e=>d2 i e hi)
  simp only [wps]
  refine wp_pushU (n:=j) oF2 (by simp;omega) (by omega) (by omega) ?_
  intro bf' S3 v1 v2 v3 v4 oF3
  have k3:=push_pre k2 v4 oF2.lt
  have oW3:=oW2.move v4 (λ i hi e=>by have:=oF2.lt i e;have:=oF.lt i e;injection hi with hi;injection hi with hi;omega)
  have oP3:=oP2.move v4 (λ i hi e=>d3 i e hi)
  have hkS3:=hp.trans k3
  have z3:=pre_get k3 z
  have hP3:=hPY.pre k3
  have o0:=nCell (pre_get hkS3 h2) jo
  have hoU:inU ((g.o[j]:Int)+1):=⟨by omega,by omega⟩
  have eo:wU (wU (g.o[j]:Int)+1)=(g.o[j]:Int)+1:=by rw [wU_ (n:=(g.o[j]:Int)) (by omega) (by omega),wU_ (by omega) (by omega)]
  simp only [wps,cell_blk hP3.fp,cell_blk z3,o0,gcz,gcs,eo,mul_w (p:=p) (inP_u hk hft) hoU]
  refine ⟨by omega,?_⟩
  refine wp_pushU (n:=j) oP3 (by simp;omega) (by omega) (by omega) ?_
  intro bp S4 u1 u2 u3 u4 oP4
  have k4:=push_pre k3 u4 oP3.lt
  have oW4:=oW3.move u4 (λ i hi e=>by have:=oP3.lt i e;have:=oP.lt i e;injection hi with hi;injection hi with hi;omega)
  have oF4:=oF3.move u4 (λ i hi e=>by have:=oP3.lt i e;have:=oP2.lt i e;injection hi with hi;injection hi with hi;omega)
  simp only [wps]
  rw [wI_ (n:=(j:Int)+1) (by omega) (by omega)]
  refine ⟨g.i.length-(j+1),by omega,j+1,_,_,_,rfl,rfl,by omega,k4,by rw [hWj]; exact oW4,by rw [hFj]; exact oF4,by rw [hPj]; exact oP4,?_,?_,?_⟩
  ·intro i hi e;injection hi with hi;injection hi with hi;injection e with e;injection e with e;omega
  ·intro i hi e;injection hi with hi;injection hi with hi;injection e with e;injection e with e;omega
  ·intro i hi e;injection hi with hi;injection hi with hi;injection e with e;injection e with e;omega
 ·obtain rfl:j=g.i.length:=by omega
  rw [List.take_of_length_le (by omega)] at oW oF oP
  have hkS:=hp.trans k1
  have hP1:=hPY.pre k1
  have hq1:=pre_get hkS hq
  have aW:=oW.ar
  have aF:=oF.ar
  have aP:=oP.ar
  have z5:=get_new (S:=S1) (o:=AObj.cells [.slice ao g.i.length g.i.length,.slice ap g.i.length g.i.length] 22 none)
  have hp5:=List.prefix_append S1 [AObj.cells [.slice ao g.i.length g.i.length,.slice ap g.i.length g.i.length] 22 none]
  generalize hX:S1++[AObj.cells [.slice ao g.i.length g.i.length,.slice ap g.i.length g.i.length] 22 none]=X at z5 hp5 ⊢
  have hWin:∀ y∈W,inP p y:=by
   intro y hy;rw [<- hW] at hy
   obtain ⟨i,_,rfl⟩:=List.mem_map.1 hy
   exact getD_in hk hx i
  have hFin:∀ y∈F,inP p y:=by
   intro y hy;rw [<- hF] at hy
   obtain ⟨i,_,rfl⟩:=List.mem_map.1 hy
   exact getD_in hk ht i
  have hPin:∀ y∈Pl,inP p y:=by
   intro y hy;rw [<- hP] at hy
   obtain ⟨i,hi,rfl⟩:=List.mem_iff_getElem.1 hy
   rw [List.getElem_zipWith]; exact inP_mul hk _ _
  have e1:(predStep p inv s.tw tab x (s0,s1) g).1=addF p s0 (wtV p s.tw (gyV p inv s.tw W) F):=by rw [<- hW,<- hF]; rfl
  have e2:(predStep p inv s.tw tab x (s0,s1) g).2=addF p s1 (wtV p s.tw (gyV p inv s.tw W) Pl):=by rw [<- hP,<- hW,<- hF]; rfl
  rw [e1,e2]
  generalize hr1:addF p s0 (wtV p s.tw (gyV p inv s.tw W) F)=r1
  generalize hr2:addF p s1 (wtV p s.tw (gyV p inv s.tw W) Pl)=r2
  have hXS:S <+: X:=hkS.trans hp5
  have hqX:=pre_get hp5 hq1
  have hPX:=hP1.pre hp5
  have hX1:=hp5.length_le
  have oWX:=oW.pre hp5
  have oFX:=oF.pre hp5
  have oPX:=oP.pre hp5
  have hYl1:=k1.length_le
  refine wp_loop (λ st S' m=>∃ k:Nat,st=[vN k]/\m=2-k/\k<=2/\Kp [q] X S'/\S'[q]? = some (.cells [vU (if 1<=k then r1 else s0),vU (if 2<=k then r2 else s1)] 40 none)) ?_ 2 _ _ ⟨0,rfl,rfl,by omega,.refl,by simpa using hqX⟩
  rintro st S' m ⟨k,rfl,rfl,hk2,kX,hqk⟩
  simp only [wps]
  refine ⟨λ h4=>?_,λ h4=>?_⟩
  rotate_left
  ·obtain rfl:k=2:=by omega
   exact ⟨(Kp.of hXS).trans kX,by simpa using hqk⟩
  have hk2':k < 2:=by omega
  obtain ⟨ab,B,cur,hBl,hBin,hoB,hcell,hcur,hset⟩:∃ (ab:Option Addr) (B:List Int) (cur:Int),B.length=g.i.length/\(∀ y∈B,inP p y)/\OwnU Y.length X ab B /\
   ([Value.slice ao g.i.length g.i.length,.slice ap g.i.length g.i.length])[k]? = some (.slice ab g.i.length g.i.length)/\(([vU (if 1<=k then r1 else s0),vU (if 2<=k then r2 else s1)])[k]? = some (vU cur)/\inU cur) /\
   splice [vU (if 1<=k then r1 else s0),vU (if 2<=k then r2 else s1)] k [vU (addF p cur (wtV p s.tw (gyV p inv s.tw W) B))]=[vU (if 1<=k+1 then r1 else s0),vU (if 2<=k+1 then r2 else s1)]:=by
   rcases (show k=0\/k=1 by omega) with rfl | rfl
   ·exact ⟨ao,F,s0,lF,hFin,oFX,rfl,⟨rfl,hs0⟩,by rw [hr1]; rfl⟩
   ·exact ⟨ap,Pl,s1,lP,hPin,oPX,rfl,⟨rfl,hs1⟩,by rw [hr2]; rfl⟩
  have zX:=kX.get z5 (by simp;omega)
  have hPk:=hPX.kp kX
  have hnW:∀ (a:Option Addr) (l:List Int),OwnU Y.length X a l->Ar S' a l.length 1 eU l:=λ a l o=>o.ar.keepL λ y hy=>by
   rcases o with ⟨e,_⟩ | ⟨b',e,e2,e3⟩
   ·rw [hy] at e;cases e
   ·rw [hy] at e;injection e with e;subst e;exact kX.keep _ (pre_lt e3) (by simp;omega)
  have aWk:=hnW _ _ oWX
  have aBk:=hnW _ _ hoB
  obtain ⟨wA,rfl,w0⟩:=aWk.getU (i:=0) (by omega)
  obtain ⟨bA,rfl,b0'⟩:=aBk.getU (i:=0) (by omega)
  rw [add_zero_,getD_at (by omega)] at w0 b0'
  have uw:=inP_u hk (getD_in hk hWin 0)
  have ub:=inP_u hk (getD_in hk hBin 0)
  have hqlt:=pre_lt hqk
  simp only [wps,cell_blk zX,hcell,cell_blk hPk.fp,gcz,gcs,w0,b0',mul_w (p:=p) uw ub,cell_blk hPk.fs,Int.toNat_natCast]
  rw [wI_ (n:=(k:Int)+1) (by omega) (by omega)]
  refine ⟨by omega,⟨by decide,by omega⟩,⟨by decide,by omega⟩,?_⟩
  cases hw:s.tw with
  | false=>
    obtain ⟨r1',r2',r3⟩:=hr hw
    simp only [wps,Bool.not_false,cell_blk hPk.fp,cell_blk hPk.fi,List.getElem?_cons_zero]
    rw [<- lW] at r3
    refine (weigh_w (c:=g.i.length) (e:=g.i.length) (n:=g.i.length) (dn:=g.i.length) (by rw [<- lW]; exact aWk) (by rw [<- hBl]; exact aBk) rfl ⟨r1',r2'⟩ (by rw [<- lW]; exact r3) hWin hBin).mono ?_
    rintro _ S2 ⟨k2,rfl⟩
    have hP2:=hPk.pre k2
    have hq2:=pre_get k2 hqk
    have hlt2:=pre_lt hq2
    have uwt:inU (wtV p false (flyV p inv W) B):=addL_u p _
    have hset2:=hset
    rw [hw] at hset2
    have hgy:gyV p inv false W=flyV p inv W:=by simp [gyV]
    rw [hgy] at hset2
    simp only [wps,cell_blk hP2.fp,cell_blk hq2,List.getElem?_cons_zero,hcur.1,addF_w (p:=p) hcur.2 uwt,hq2,hset2]
    refine ⟨by omega,by omega,by simp;omega,2-(k+1),by omega,k+1,rfl,rfl,by omega,?_,by rw [List.getElem?_set_self hlt2]⟩
    exact (kX.more k2).trans ⟨by simp,λ i hi hn=>by rw [List.getElem?_set_ne]; rintro rfl;simp at hn⟩
  | true=>
    have hset2:=hset
    rw [hw] at hset2
    have hgy:wtV p true (gyV p inv true W) B=mulF p (W.getD 0 0) (B.getD 0 0):=by simp [gyV,wtV]
    rw [hgy] at hset2
    have um:inU (mulF p (W.getD 0 0) (B.getD 0 0)):=mulF_range p _ _
    simp only [wps,Bool.not_true,cell_blk hPk.fp,List.getElem?_cons_zero,cell_blk hqk,hcur.1,addF_w (p:=p) hcur.2 um,hqk,hset2]
    refine ⟨by omega,by omega,by simp;omega,2-(k+1),by omega,k+1,rfl,rfl,by omega,?_,by rw [List.getElem?_set_self hqlt]⟩
    exact kX.trans ⟨by simp,λ i hi hn=>by rw [List.getElem?_set_ne]; rintro rfl;simp at hn⟩
set_option maxHeartbeats 2000000 in
set_option maxRecDepth 20000 in
theorem predict_w {S:St} {p:Int} {axes a:Option Addr} {n c xn xc:Nat} {l:List Ax} {inv:Bool} {s:Stp} {x:List Int} (hs:stepV p l s=0) (h:Ar S axes n 2 eAx l) (hl:n<=8796093022208) (hx:Ar S a xn 1 eU x) (hn:(x.length:Int)=nV l) (hi:∀ y∈x,inP p y) :
 WP (gq4w [vU p,.slice axes n c,vB inv,spV s,.slice a xn xc]) S λ v S'=>v=vT [vA [vU (predG p inv s.tw (grpsV l s) (tabV p l inv s) x).1,vU (predG p inv s.tw (grpsV l s) (tabV p l inv s) x).2],vI 0]/\S <+: S':=by
 have hk:=step_known hs
 obtain ⟨k,d,inner,nn,m,hS⟩:=step_shape hs
 obtain ⟨gf1,gf2,gf3,gf4,gf5⟩:=grps_facts hS
 have hnn:=hS.nn
 have hn1:=hS.n1
 have hxl:=hx.1
 rw [gq4w_eq]
 simp only [wps,List.append_assoc,List.cons_append,List.nil_append,List.length_append,List.length_cons,List.length_nil,Nat.zero_add,Nat.reduceAdd,Nat.add_assoc]
 generalize hY:S++[AObj.cells [vU p] 24 none,AObj.cells [vB inv] 4 none,AObj.cells (spC s) 29 none,AObj.cells [.slice a xn xc] 22 none,AObj.cells [vU 0,vU 0] 40 none]=Y
 have hp:S <+: Y:=⟨_,hY⟩
 have y0:Y[S.length]? = some (AObj.cells [vU p] 24 none):=by rw [<- hY]; exact gA0
 have y1:Y[S.length+1]? = some (AObj.cells [vB inv] 4 none):=by rw [<- hY]; exact gA
 have y2:Y[S.length+2]? = some (AObj.cells (spC s) 29 none):=by rw [<- hY]; exact gA
 have y3:Y[S.length+3]? = some (AObj.cells [.slice a xn xc] 22 none):=by rw [<- hY]; exact gA
 have y4:Y[S.length+4]? = some (AObj.cells [vU 0,vU 0] 40 none):=by rw [<- hY]; exact gA
 have hYl:Y.length=S.length+5:=by rw [<- hY]; simp
 simp only [wps,cell_blk y0,cell_blk y1,cell_blk y2,cell_blk y3,gcz,gcs]
 refine (words16_w (c:=c) (xc:=xc) hs (h.mono hp) hl (hx.mono hp) hn hi).mono ?_
 rintro _ S1 ⟨rfl,k1⟩
 have p1:=hp.trans k1
 simp only [wps,cell_blk (pre_get k1 y0),cell_blk (pre_get k1 y1),cell_blk (pre_get k1 y2),gcz,gcs]
 refine (table_w (c:=c) (h.mono p1) hl inv s).use ?_
 rintro _ S2 k2 ⟨tb,tk,rfl,htab⟩
 have p2:=p1.trans k2
 have k12:=k1.trans k2
 rw [show tableV p l inv s (tabV p l inv s)=tabV p l inv s by unfold tableV;rw [if_pos hs]] at htab ⊢
 have htl:=tab_length (p:=p) (inv:=inv) hS
 simp only [wps,hs,List.append_assoc,List.cons_append,List.nil_append,List.length_append,List.length_cons,List.length_nil,Nat.zero_add,Nat.reduceAdd,sA0,sA1,sA2]
 generalize hZ:S2++[AObj.cells [Value.slice tb (tabV p l inv s).length tk] 22 none,AObj.cells [vU 0,vU 0] 40 none,AObj.cells [vI 0] 37 none]=Z
 have pz:S2 <+: Z:=⟨_,hZ⟩
 have z0:Z[S2.length]? = some (AObj.cells [Value.slice tb (tabV p l inv s).length tk] 22 none):=by rw [<- hZ]; exact gA0
 have z1:Z[S2.length+1]? = some (AObj.cells [vU 0,vU 0] 40 none):=by rw [<- hZ]; exact gA
 have z2:Z[S2.length+2]? = some (AObj.cells [vI 0] 37 none):=by rw [<- hZ]; exact gA
 have kz:=k12.trans pz
 have lz:=kz.length_le
 have l12:=k12.length_le
 have w0:=pre_get kz y0
 have w1:=pre_get kz y1
 have w2:=pre_get kz y2
 have w3:=pre_get kz y3
 have w4:=pre_get kz y4
 have htne:tabV p l inv s≠[]:=by
  intro e
  rw [e] at htl
  have hd:=hS.d1
  rcases hS.st with ⟨ht,_⟩ | ⟨ht,R,L,M,hst,r1,r2,l1,m1,_⟩
  ·rw [if_pos ht] at htl;simp at htl;omega
  ·rw [if_neg (by rw [ht]; simp),hst] at htl
   simp only [Int.toNat_natCast,List.length_nil] at htl
   have:=Nat.mul_pos (show 0 < M by omega) (show 0 < R by omega)
   omega
 have hxne:x≠[]:=by intro e;rw [e] at hn;simp at hn;omega
 have hPC:PC Z p inv s (tabV p l inv s) x S2.length (S.length+3) S.length (S.length+2) (S.length+1) (S2.length+2) (S2.length+1):=by
  refine ⟨⟨tb,_,tk,z0,htab.mono pz,λ y hy=>?_⟩,⟨a,xn,xc,w3,hx.mono (p2.trans pz),λ y hy=>?_⟩,w0,w2,w1,z2,⟨by omega,by omega,by omega,by omega,by omega,by omega⟩⟩
  ·have:=htab.low (λ x=>⟨_,rfl⟩) htne y hy;have:=pz.length_le;exact ⟨by omega,by omega⟩
  ·have:=hx.low (λ x=>⟨_,rfl⟩) hxne y hy;exact ⟨by omega,by omega⟩
 have hT:Tells (lookD [((192:Nat),gq4x)] noC) (.func (.func 192) (ar []) (ar [.pointer (some (ad S2.length 0)),.pointer (some (ad (S.length+3) 0)),.pointer (some (ad S.length 0)),.pointer (some (ad (S.length+2) 0)),.pointer (some (ad (S.length+1) 0)),.pointer (some (ad (S2.length+2) 0)),.pointer (some (ad (S2.length+1) 0))])) (grpsV l s)
  (λ pre T S'=>T=[S2.length+1]/\PC S' p inv s (tabV p l inv s) x S2.length (S.length+3) S.length (S.length+2) (S.length+1) (S2.length+2) (S2.length+1)/\S'[S2.length+1]? = some (.cells [vU (predG p inv s.tw pre (tabV p l inv s) x).1,vU (predG p inv s.tw pre (tabV p l inv s) x).2] 40 none)) Z.length:=by
  refine ⟨λ pre T S' ⟨h1,h2,h3⟩ i hi=>?_,λ pre T S' S'' ⟨h1,h2,h3⟩ k=>⟨h1,h2.pre k,pre_get k h3⟩,?_⟩
  ·rw [h1,List.mem_singleton] at hi;rw [hi]; exact pre_lt h3
  ·rintro pre g T S4 b0 b1 b2 ⟨rfl,h2,h3⟩ hg hpl i0 i1 i2 n0 n1 n2 l0 l1 l2
   have hx':∀ v,callV (eC (lookD [((192:Nat),gq4x)] noC)) (.func (.func 192) (ar []) (ar [.pointer (some (ad S2.length 0)),.pointer (some (ad (S.length+3) 0)),.pointer (some (ad S.length 0)),.pointer (some (ad (S.length+2) 0)),.pointer (some (ad (S.length+1) 0)),.pointer (some (ad (S2.length+2) 0)),.pointer (some (ad (S2.length+1) 0))])) [v]=gq4x [v,.pointer (some (ad S2.length 0)),.pointer (some (ad (S.length+3) 0)),.pointer (some (ad S.length 0)),.pointer (some (ad (S.length+2) 0)),.pointer (some (ad (S.length+1) 0)),.pointer (some (ad (S2.length+2) 0)),.pointer (some (ad (S2.length+1) 0))]:=λ _=>rfl
   rw [hx']
   obtain ⟨u1,u2⟩:=predG_in (inv:=inv) (tw:=s.tw) (tab:=tabV p l inv s) (x:=x) hk pre (0,0) ⟨inP_zero hk,inP_zero hk⟩
   refine (ptell_w h2 hk (tab_in hk) hi (gf1 g hg) i0 i1 i2 ⟨by simpa using n0,by simpa using n1,by simpa using n2⟩ ?_ ?_ ?_ (grp_root hS hs hg) (inP_u hk u1) (inP_u hk u2) h3).mono ?_
   ·intro i hi
    have:=List.mem_range.1 (gf2.mem_iff.1 (List.mem_flatMap.2 ⟨g,hg,hi⟩))
    omega
   ·intro i hi
    rw [htl]; exact gf4 g hg i hi
   ·intro i hi
    have:=List.mem_range.1 (gf3.mem_iff.1 (List.mem_flatMap.2 ⟨g,hg,hi⟩))
    omega
   ·rintro _ S5 ⟨rfl,k5,q5⟩
    refine ⟨rfl,[S2.length+1],⟨k5,λ i hi=>.inl hi⟩,rfl,h2.kp k5,?_⟩
    rw [predG_app]; exact q5
 simp only [wps,cell_blk w2,gcz,gcs]
 refine (each_w (c:=c) hS (h.mono (p2.trans pz)) hT ⟨rfl,hPC,by simpa [predG] using z1⟩).mono ?_
 rintro _ S5 ⟨rfl,T,hm,rfl,hPC5,hq5⟩
 have hS5:S2 <+: S5:=hm.low pz (λ i hi=>by rw [List.mem_singleton] at hi;omega)
 have v4:=pre_get (k12.trans hS5) y4
 have hl5:=pre_lt v4
 simp only [wps,cell_blk hPC5.fb,cell_blk hq5,gcz,gcs,v4]
 have v5:(List.set S5 (S.length+4) (.cells [vU (predG p inv s.tw (grpsV l s) (tabV p l inv s) x).1,vU (predG p inv s.tw (grpsV l s) (tabV p l inv s) x).2] 40 none))[S.length+4]? = some (.cells [vU (predG p inv s.tw (grpsV l s) (tabV p l inv s) x).1,vU (predG p inv s.tw (grpsV l s) (tabV p l inv s) x).2] 40 none):=List.getElem?_set_self hl5
 simp only [wps,cell_blk v5,gcz,gcs]
 exact pre_set' (p2.trans hS5) (by omega)
theorem rds_take {m:Mm} {l:List Int} {j:Nat} (h:j < l.length):m.rds (l.take (j+1))=((m.rds (l.take j)).1++[((m.rds (l.take j)).2.rd l[j]).1],((m.rds (l.take j)).2.rd l[j]).2):=by
 rw [take_snoc h,Mm.rds_app]; rfl
theorem wrs_take {m:Mm} {l:List (Int×Int)} {j:Nat} (h:j < l.length):m.wrs (l.take (j+1))=(m.wrs (l.take j)).wr l[j].1 l[j].2:=by
 rw [take_snoc h,Mm.wrs_app]; rfl
set_option maxHeartbeats 1000000 in
theorem loads_w {C:FuncId->List Value->M Value} (hC:∀ a,C (129:Nat) a=gq3c a) {S:St} {b:Nat} {m:Mm} {T:List Nat} (h:MS S b m T) {ib:Nat} {at_:List Nat} {cc:Nat} (ha:S[ib]? = some (nBlk at_)) (hib:ib∉T) {f:Int} (hf:0<=f) (hin:∀ i∈at_,f+i < m.W.length) (ht:0<=m.t/\m.t+at_.length < 4611686018427387904) (hn:at_.length<=100000) :
 WP (gq3n C [.func (.func 129) (ar [.pointer (some ⟨b,0,none⟩)]) (ar []),vI f,.slice (some ⟨ib,0,none⟩) at_.length cc]) S λ v S'=>v=vT [.slice (some ⟨S.length,0,none⟩) at_.length at_.length,vI 0]/\Kp T S S'/\MS S' b (m.rds (at_.map λ i:Nat=>f+(i:Int))).2 T /\
  S'[S.length]? = some (.cells ((m.rds (at_.map λ i:Nat=>f+(i:Int))).1.flatMap eU) 24 none):=by
 rw [gq3n_eq]
 simp only [wps,zeroC_one,Int.toNat_natCast]
 refine ⟨⟨by omega,by omega,by omega,rfl⟩,?_⟩
 generalize hA:(at_.map λ i:Nat=>f+(i:Int))=A
 have lA:A.length=at_.length:=by rw [<- hA,List.length_map]
 have hw:=h.w
 have hTlt:=h.lt
 refine wp_loop (λ st S' k=>∃ j:Nat,st=[vN j]/\k=at_.length-j/\j<=at_.length/\Kp T S S'/\MS S' b (m.rds (A.take j)).2 T/\S'[S.length]? = some (.cells ((m.rds (A.take j)).1.map (.int .u64)++List.replicate (at_.length-j) (vU 0)) 24 none)) ?_ at_.length _ _ ⟨0,rfl,rfl,by omega,Kp.of (List.prefix_append _ _),h.pre (List.prefix_append _ _),by rw [get_new]; simp [Mm.rds]⟩
 rintro st S1 k ⟨j,rfl,rfl,hj,k1,hM,hb⟩
 simp only [wps]
 obtain ⟨g1,g2,g3,g4⟩:=Mm.rds_len (A.take j) m
 refine ⟨λ h3=>⟨h3,?_⟩,λ h3=>?_⟩
 ·have hj':j < at_.length:=by omega
  have hjA:j < A.length:=by omega
  have eA:A[j]=f+(at_[j]:Int):=by simp [<- hA]
  have hx:=hin _ (List.getElem_mem hj')
  have c1:=nCell (k1.get ha hib) hj'
  have hb0:=pre_lt hb
  have hl1:(m.rds (A.take j)).1.length=j:=by rw [g2]; simp;omega
  have lT:S.length∉T:=λ hx=>by have:=hTlt _ hx;omega
  simp only [wps,c1,hC]
  rw [wI_ (n:=f+(at_[j]:Int)) (by omega) (by omega),wI_ (n:=(j:Int)+1) (by omega) (by omega),<- eA]
  refine (load_w hM (by rw [g1]; omega) (by rw [g3]; simp;omega)).mono ?_
  rintro _ S2 ⟨rfl,k2,hM2⟩
  have hb2:=k2.get hb lT
  have hb2l:=pre_lt hb2
  have e:=rds_take (m:=m) hjA
  simp only [wps,hb2]
  refine ⟨by omega,by simp;omega,at_.length-(j+1),by omega,j+1,rfl,rfl,by omega,?_,?_,?_⟩
  ·have k12:=k1.trans k2
   exact ⟨by rw [List.length_set]; exact k12.len,λ i hi hn=>by rw [List.getElem?_set_ne (by omega),k12.keep i hi hn]⟩
  ·rw [e]; exact hM2.kp (M:=[S.length]) ⟨by simp,λ i hi hn=>by rw [List.getElem?_set_ne]; rintro rfl;simp at hn⟩ (λ i hi=>by have:=hTlt i hi;simp;omega)
  ·rw [List.getElem?_set_self hb2l,e,splice_set (by simp;omega),List.set_append_right _ _ (by simp;omega)]
   simp only [List.length_map,hl1,Nat.sub_self]
   rw [show at_.length-j=(at_.length-(j+1))+1 by omega,List.replicate_succ,List.set_cons_zero,List.map_append]
   simp
 ·obtain rfl:j=at_.length:=by omega
  rw [List.take_of_length_le (by omega)] at hM hb
  refine ⟨k1,hM,?_⟩
  rw [hb,Nat.sub_self]
  simp only [List.replicate_zero,List.append_nil]
  rw [List.map_eq_flatMap]; rfl
set_option maxHeartbeats 1000000 in
theorem stores_w {S:St} {b:Nat} {m:Mm} {T:List Nat} (h:MS S b m T) {ib lb:Nat} {at_:List Nat} {ws:List Int} {cc lc:Nat} {g:Option Nat} {t:TypeId} (ha:S[ib]? = some (nBlk at_)) (hib:ib∉T) (hl:S[lb]? = some (.cells (ws.flatMap eU) t g)) (hlb:lb∉T) (hlen:ws.length=at_.length) (hws:∀ y∈ws,Go.Proofs.YtpecnaacgkgjmaaGreatDoor.u64r y) {f:Int} (hf:0<=f) (hin:∀ i∈at_,f+i < m.W.length) (ht:0<=m.t/\m.t+at_.length < 4611686018427387904) (hn:at_.length<=100000) :
 WP (gq3o [.pointer (some ⟨b,0,none⟩),vI f,.slice (some ⟨ib,0,none⟩) at_.length cc,.slice (some ⟨lb,0,none⟩) at_.length lc]) S λ v S'=>v=vI 0/\Kp T S S'/\MS S' b (m.wrs ((at_.map λ i:Nat=>f+(i:Int)).zip ws)) T:=by
 rw [gq3o_eq]
 simp only [wps]
 generalize hA:(at_.map λ i:Nat=>f+(i:Int)).zip ws=A
 have lA:A.length=at_.length:=by rw [<- hA,List.length_zip,List.length_map,hlen]; omega
 have hw:=h.w
 refine wp_loop (λ st S' k=>∃ j:Nat,st=[vN j]/\k=at_.length-j/\j<=at_.length/\Kp T S S'/\MS S' b (m.wrs (A.take j)) T) ?_ at_.length _ _ ⟨0,rfl,rfl,by omega,.refl,h⟩
 rintro st S1 k ⟨j,rfl,rfl,hj,k1,hM⟩
 simp only [wps]
 obtain ⟨g1,g2,g3⟩:=Mm.wrs_len (A.take j) m
 refine ⟨λ h3=>⟨h3,?_⟩,λ h3=>?_⟩
 ·have hj':j < at_.length:=by omega
  have hjA:j < A.length:=by omega
  have eA:A[j]=(f+(at_[j]:Int),ws[j]'(by omega)):=by simp [<- hA]
  have hx:=hin _ (List.getElem_mem hj')
  have c1:=nCell (k1.get ha hib) hj'
  have c2:=(Ob.refl (e:=eU) (k1.get hl hlb)).u (i:=j) (by omega)
  simp only [wps,c1,c2]
  rw [wI_ (n:=f+(at_[j]:Int)) (by omega) (by omega),wI_ (n:=(j:Int)+1) (by omega) (by omega)]
  refine ⟨by omega,?_⟩
  refine (store_w hM (by rw [g1]; omega) (by rw [g2]; simp;omega) (hws _ (List.getElem_mem _))).mono ?_
  rintro _ S2 ⟨rfl,k2,hM2⟩
  simp only [wps]
  refine ⟨at_.length-(j+1),by omega,j+1,rfl,rfl,by omega,k1.trans k2,?_⟩
  rw [wrs_take hjA,eA]; exact hM2
 ·obtain rfl:j=at_.length:=by omega
  rw [List.take_of_length_le (by omega)] at hM
  exact ⟨k1,hM⟩
abbrev offs (b:Int) (l:List Nat):List Int:=l.map λ i:Nat=>b+(i:Int)
def passStep (p:Int) (inv tw:Bool) (src dst tab:Int) (st:Mm×List Int) (g:GrN):Mm×List Int:=
 (((st.1.rds (offs src g.i)).2.rds (offs tab g.f)).2.wrs ((offs dst g.o).zip (List.zipWith (mulF p) (gyV p inv tw ((st.1.rds (offs src g.i)).1.map (red p))) ((st.1.rds (offs src g.i)).2.rds (offs tab g.f)).1)),
  scat st.2 (g.i.zip ((st.1.rds (offs src g.i)).1.map (red p))))
def passG (p:Int) (inv tw:Bool) (src dst tab:Int) (m:Mm) (n:Nat) (gs:List GrN):Mm×List Int:=gs.foldl (passStep p inv tw src dst tab) (m,List.replicate n 0)
def sixL (q:Int×Int):List Int:=[q.1,q.1,q.1,q.2,q.2,q.2]
def passV (m:Mm) (p:Int) (l:List Ax) (inv:Bool) (s:Stp) (src dst tab:Int):((Int×Int)×Int)×Mm:=
 if stepV p l s=0 then
  (if m.hasN src (nV l+6)=true/\m.hasN dst (nV l+6)=true/\m.hasN tab (tabV p l inv s).length=true then
    let r:=passG p inv s.tw src dst tab m (nV l).toNat (grpsV l s)
    let q:=predG p inv s.tw (grpsV l s) (tabV p l inv s) r.2
    ((q,0),r.1.wrs ((offs (dst+nV l) [0,1,2,3,4,5]).zip (sixL q)))
  else (((0,0),1),m))
 else (((0,0),stepV p l s),m)
theorem hasN_in {m:Mm} {a n:Int} (h:m.hasN a n=true):0<=a/\0<=n/\a+n<=m.W.length:=by
 have:=of_decide_eq_true h;omega
theorem passG_app (p:Int) (inv tw:Bool) (src dst tab:Int) (m:Mm) (n:Nat) (pre:List GrN) (g:GrN):passG p inv tw src dst tab m n (pre++[g])=passStep p inv tw src dst tab (passG p inv tw src dst tab m n pre) g:=by
 unfold passG;rw [List.foldl_append]; rfl
section
variable {p:Int} {inv tw:Bool} {src dst tab:Int}
theorem zipW_len {g:GrN} (hg:g.ok tw) (m:Mm):(List.zipWith (mulF p) (gyV p inv tw ((m.rds (offs src g.i)).1.map (red p))) ((m.rds (offs src g.i)).2.rds (offs tab g.f)).1).length=g.i.length:=by
 rw [List.length_zipWith,gyV_len,List.length_map,(Mm.rds_len _ _).2.1,(Mm.rds_len _ _).2.1,List.length_map,List.length_map,hg.f]; omega
theorem passStep_facts (hk:known p=true) {g:GrN} (hg:g.ok tw) (st:Mm×List Int):(passStep p inv tw src dst tab st g).1.W.length=st.1.W.length/\(passStep p inv tw src dst tab st g).1.t=st.1.t+3*g.i.length/\(passStep p inv tw src dst tab st g).1.ah=st.1.ah/\(passStep p inv tw src dst tab st g).2.length=st.2.length/\((∀ y∈st.2,inP p y)->∀ y∈(passStep p inv tw src dst tab st g).2,inP p y):=by
 unfold passStep
 obtain ⟨a1,a2,a3,a4⟩:=Mm.rds_len (offs src g.i) st.1
 obtain ⟨b1,b2,b3,b4⟩:=Mm.rds_len (offs tab g.f) (st.1.rds (offs src g.i)).2
 obtain ⟨c1,c2,c3⟩:=Mm.wrs_len ((offs dst g.o).zip (List.zipWith (mulF p) (gyV p inv tw ((st.1.rds (offs src g.i)).1.map (red p))) ((st.1.rds (offs src g.i)).2.rds (offs tab g.f)).1)) ((st.1.rds (offs src g.i)).2.rds (offs tab g.f)).2
 have hz:=zipW_len (p:=p) (inv:=inv) (src:=src) (tab:=tab) hg st.1
 refine ⟨by rw [c1,b1,a1],?_,by rw [c3,b4,a4],scat_len _ _,?_⟩
 ·rw [c2,b3,a3,List.length_zip,hz,List.length_map,List.length_map,List.length_map,hg.f,hg.o]; omega
 ·intro h y hy
  have key:∀ (l:List (Nat×Int)) (a:List Int),(∀ y∈a,inP p y)->(∀ e∈l,inP p e.2)->∀ y∈scat a l,inP p y:=by
   intro l
   induction l with
   | nil=>intro a h _;exact h
   | cons e l ih=>
     intro a h1 h2
     refine ih _ (λ y hy=>?_) (λ e he=>h2 e (by simp [he]))
     rcases List.mem_or_eq_of_mem_set hy with hy | rfl
     ·exact h1 y hy
     ·exact h2 e (by simp)
  refine key _ _ h (λ e he=>?_) y hy
  have:=(List.of_mem_zip he).2
  obtain ⟨z,_,hz⟩:=List.mem_map.1 this
  rw [<- hz]; exact inP_red hk _
theorem passG_facts (hk:known p=true) {m:Mm} {n:Nat}:∀ (gs:List GrN) (st:Mm×List Int),(∀ g∈gs,g.ok tw)->(gs.foldl (passStep p inv tw src dst tab) st).1.W.length=st.1.W.length/\(gs.foldl (passStep p inv tw src dst tab) st).1.t=st.1.t+3*(gs.flatMap GrN.i).length/\(gs.foldl (passStep p inv tw src dst tab) st).1.ah=st.1.ah/\(gs.foldl (passStep p inv tw src dst tab) st).2.length=st.2.length/\((∀ y∈st.2,inP p y)->∀ y∈(gs.foldl (passStep p inv tw src dst tab) st).2,inP p y)
 | [], st, _ => by simp
 | g :: gs, st, h => by
   obtain ⟨a1,a2,a3,a4,a5⟩:=passStep_facts (inv:=inv) (src:=src) (dst:=dst) (tab:=tab) hk (h g (by simp)) st
   obtain ⟨b1,b2,b3,b4,b5⟩:=passG_facts hk (m:=m) (n:=n) gs (passStep p inv tw src dst tab st g) (λ g' hg'=>h g' (by simp [hg']))
   rw [List.foldl_cons,List.flatMap_cons,List.length_append]
   exact ⟨b1.trans a1,by rw [b2,a2]; omega,b3.trans a3,b4.trans a4,λ h=>b5 (a5 h)⟩
end
theorem gs_len_ok {l:List Ax} {s:Stp} {k d inner nn m:Nat} (hs:Shp l s k d inner nn m):((grpsV l s).flatMap GrN.i).length=nn:=by
 have:=(grps_facts hs).2.1.length_eq
 rw [this,List.length_range]
theorem take_flat_le {gs:List GrN} (j:Nat):((gs.take j).flatMap GrN.i).length<=(gs.flatMap GrN.i).length:=by
 conv=>rhs;rw [<- List.take_append_drop j gs,List.flatMap_append,List.length_append]
 omega
theorem gs_length {l:List Ax} {s:Stp} {k d inner nn m:Nat} (hs:Shp l s k d inner nn m):(grpsV l s).length<=4096:=by
 have hn1:=hs.n1
 rcases hs.st with ⟨ht,_⟩ | ⟨ht,R,L,M,hst,r1,r2,l1,m1,hd⟩
 ·rw [grps_tw hs ht,List.length_map,List.length_range]; omega
 ·rw [grps_st hs ht hst,stN_length]
  have h1:M*L<=d:=by rw [hd,Nat.mul_comm]; exact Nat.mul_le_mul_left _ (Nat.le_mul_of_pos_left _ (by omega))
  have h2:nn / d*(M*L)<=nn / d*d:=Nat.mul_le_mul_left _ h1
  have h3:=Nat.div_mul_le_self nn d
  omega
theorem Ar.getGp {S:St} {a:Option Addr} {n:Nat} {ps:List Gp} (h:Ar S a n 3 Gp.cells ps) {j:Nat} (hj:j < ps.length):∃ x,a=some x/\S.cell (x.add (j*3))=some (.slice (some ⟨ps[j].b0,0,none⟩) ps[j].g.i.length ps[j].g.i.length)/\S.cell ((x.add (j*3)).add 1)=some (.slice (some ⟨ps[j].b1,0,none⟩) ps[j].g.f.length ps[j].g.f.length)/\S.cell ((x.add (j*3)).add 2)=some (.slice (some ⟨ps[j].b2,0,none⟩) ps[j].g.o.length ps[j].g.o.length):=by
 obtain ⟨x,h1,h2⟩:=h.2 j hj
 exact ⟨x,h1,by have:=h2 0 _ rfl;rwa [add_zero_] at this,h2 1 _ rfl,h2 2 _ rfl⟩
theorem set_step {A B:List Int} {k:Nat} (hl:B.length=A.length) (hk:k < B.length):(B.take k++A.drop k).set k B[k]=B.take (k+1)++A.drop (k+1):=by
 have h1:(B.take k).length=k:=by simp;omega
 rw [List.set_append_right _ _ (by omega),h1,Nat.sub_self,List.drop_eq_getElem_cons (show k < A.length by omega),List.set_cons_zero,take_snoc hk,List.append_assoc]; rfl
theorem scat_take {M:List Int} {z:List (Nat×Int)} {k:Nat} (hk:k < z.length):scat M (z.take (k+1))=(scat M (z.take k)).set z[k].1 z[k].2:=by
 rw [take_snoc hk,scat_app]; rfl
theorem rep_eU (n:Nat):List.replicate n (vU 0)=(List.replicate n (0:Int)).flatMap eU:=by
 induction n with
 | zero => rfl
 | succ k ih => rw [List.replicate_succ, List.replicate_succ, List.flatMap_cons, <- ih]; rfl
set_option maxHeartbeats 2000000 in
theorem run1_w {S:St} {b:Nat} {m:Mm} {T:List Nat} (h:MS S b m T) {p dst n2:Int} {n n1 gb b0 b1 b2 fb yb len:Nat} {l0 l1 c0 c1:Nat} {os:List Nat} {Y F:List Int} {gf gy:Option Nat} (hg:S[gb]? = some (.cells [.slice (some ⟨b0,0,none⟩) l0 c0,.slice (some ⟨b1,0,none⟩) l1 c1,.slice (some ⟨b2,0,none⟩) len len] 128 none)) (ho:S[b2]? = some (nBlk os)) (hf:S[fb]? = some (.cells (F.flatMap eU) 24 gf)) (hy:S[yb]? = some (.cells (Y.flatMap eU) 24 gy))
 (nT:gb∉T/\b2∉T/\fb∉T/\yb∉T) (ne:gb≠yb/\b2≠yb/\fb≠yb) (lo:os.length=len) (lF:F.length=len) (lY:Y.length=len) (hYu:∀ y∈Y,inU y) (hFu:∀ y∈F,inU y) (hd:0<=dst) (hin:∀ i∈os,dst+i < m.W.length) (ht:0<=m.t/\m.t+len < 4611686018427387904) (hlen:len<=1000) :
 WP (kq5y (some ⟨b,0,none⟩) p dst n n1 n2 gb ⟨some ⟨fb,0,none⟩,len,len⟩ (0,[.slice (some ⟨yb,0,none⟩) len len])) S λ q S'=>q=(0,[vI (wI (n2+1))])/\Kp (yb :: T) S S'/\MS S' b (m.wrs ((offs dst os).zip (List.zipWith (mulF p) Y F))) T:=by
 have hTlt:=h.lt
 have lZ:(List.zipWith (mulF p) Y F).length=len:=by rw [List.length_zipWith]; omega
 unfold kq5y
 simp only [wps]
 refine wp_loop (λ st S' q=>∃ k:Nat,st=[vN k]/\q=len-k/\k<=len/\Kp [yb] S S'/\S'[yb]? = some (.cells (((List.zipWith (mulF p) Y F).take k++Y.drop k).flatMap eU) 24 gy)) ?_ len _ _ ⟨0,rfl,rfl,by omega,.refl,by simpa using hy⟩
 rintro st S1 q ⟨k,rfl,rfl,hk,k1,y1⟩
 have f1:=k1.get hf (by simp;exact ne.2.2)
 have g1:=k1.get hg (by simp;exact ne.1)
 have o1:=k1.get ho (by simp;exact ne.2.1)
 have hY1:=pre_lt y1
 simp only [wps]
 refine ⟨λ h3=>⟨h3,?_⟩,λ h3=>?_⟩
 ·have hk':k < len:=by omega
  have cF:=(Ob.refl (e:=eU) f1).u (i:=k) (by omega)
  have lcur:((List.zipWith (mulF p) Y F).take k++Y.drop k).length=len:=by simp;omega
  have ecur:((List.zipWith (mulF p) Y F).take k++Y.drop k)[k]'(by omega)=Y[k]:=by
   rw [List.getElem_append_right (by simp;omega)]
   simp [show min k (min Y.length F.length)=k by omega]
  have cY:=(Ob.refl (e:=eU) y1).u (i:=k) (by omega)
  rw [ecur] at cY
  have em:mulF p Y[k] F[k]=(List.zipWith (mulF p) Y F)[k]'(by omega):=by rw [List.getElem_zipWith]
  have hmul:=mul_w (p:=p) (hYu _ (List.getElem_mem (show k < Y.length by omega))) (hFu _ (List.getElem_mem (show k < F.length by omega)))
  rw [em] at hmul
  have hput:=(Ob.refl (e:=eU) y1).put (w:=1) (λ _=>rfl) (i:=k) (by omega) ((List.zipWith (mulF p) Y F)[k]'(by omega))
  rw [Nat.mul_one,set_step (by omega) (by omega)] at hput
  simp only [wps,cF,cY,hmul,y1]
  rw [wI_ (n:=(k:Int)+1) (by omega) (by omega)]
  refine ⟨h3,h3,?_,len-(k+1),by omega,k+1,rfl,rfl,by omega,?_,hput.at_⟩
  ·rw [flat_len (e:=eU) (w:=1) (λ _=>rfl)]; omega
  ·exact k1.trans ⟨by simp,λ i hi hn=>by rw [List.getElem?_set_ne]; rintro rfl;simp at hn⟩
 ·obtain rfl:k=len:=by omega
  rw [List.take_of_length_le (by omega),List.drop_of_length_le (by omega),List.append_nil] at y1
  have h1:=h.kp k1 (λ i hi=>by simp;rintro rfl;exact nT.2.2.2 hi)
  simp only [wps,cell_blk g1,gcz,gcs]
  have hst:=stores_w (cc:=k) (lc:=k) h1 o1 nT.2.1 y1 nT.2.2.2 (by omega) (λ y hy=>by
   obtain ⟨i,hi,rfl⟩:=List.mem_iff_getElem.1 hy
   rw [List.getElem_zipWith]
   have:=mulF_range p Y[i] F[i]
   exact ⟨this.1,by have:=this.2;omega⟩) hd hin (by omega) (by omega)
  rw [lo] at hst
  refine hst.mono ?_
  rintro _ S2 ⟨rfl,k2,h2⟩
  simp only [wps]
  exact ⟨(k1.mono λ i hi=>by simp at hi;simp [hi]).trans (k2.mono λ i hi=>List.mem_cons_of_mem _ hi),h2⟩
set_option maxHeartbeats 4000000 in
set_option maxRecDepth 20000 in
theorem run_w {S:St} {b:Nat} {m:Mm} {T:List Nat} (h:MS S b m T) {p:Int} {axes:Option Addr} {n c:Nat} {l:List Ax} {inv:Bool} {s:Stp} {src dst tab:Int} (har:Ar S axes n 2 eAx l) (hl:n<=8796093022208) (hax:∀ y,axes=some y->l≠[]->y.block∉T) (ht:0<=m.t/\m.t < 1152921504606846976) :
 WP (gq3l [.pointer (some ⟨b,0,none⟩),vU p,.slice axes n c,vB inv,spV s,vI src,vI dst,vI tab]) S λ v S'=>v=vT [vA [vU (passV m p l inv s src dst tab).1.1.1,vU (passV m p l inv s src dst tab).1.1.2],vI (passV m p l inv s src dst tab).1.2]/\Kp T S S'/\MS S' b (passV m p l inv s src dst tab).2 T:=by
 have hTlt:=h.lt
 rw [gq3l_eq]
 simp only [wps,List.append_assoc,List.cons_append,List.nil_append,List.length_append,List.length_cons,List.length_nil,Nat.zero_add,Nat.reduceAdd,Nat.add_assoc]
 generalize hY:S++[AObj.cells (spC s) 29 none,AObj.cells [vU 0,vU 0] 40 none,AObj.cells [vU 0,vU 0] 40 none]=Y
 have hp:S <+: Y:=⟨_,hY⟩
 have y0:Y[S.length]? = some (AObj.cells (spC s) 29 none):=by rw [<- hY]; exact gA0
 have y1:Y[S.length+1]? = some (AObj.cells [vU 0,vU 0] 40 none):=by rw [<- hY]; exact gA
 have y2:Y[S.length+2]? = some (AObj.cells [vU 0,vU 0] 40 none):=by rw [<- hY]; exact gA
 have hYl:Y.length=S.length+3:=by rw [<- hY]; simp
 simp only [wps,cell_blk y0,gcz,gcs]
 have hT1:S.length+1∉T:=λ hx=>by have:=hTlt _ hx;omega
 have kset:∀ (S':St) (o:AObj),S <+: S'->Kp T S (S'.set (S.length+1) o)/\MS (S'.set (S.length+1) o) b m T:=λ S' o k=>by
  have k2:S <+: S'.set (S.length+1) o:=pre_set' k (by omega)
  exact ⟨.of k2,h.pre k2⟩
 by_cases hs:stepV p l s=0
 rotate_left
 ·have hv:passV m p l inv s src dst tab=(((0,0),stepV p l s),m):=by unfold passV;rw [if_neg hs]
  rw [hv]
  rw [gq4u_eq]
  simp only [wps]
  have hq:=List.prefix_append Y [AObj.cells (spC s) 29 none]
  have hq0:=get_new (S:=Y) (o:=AObj.cells (spC s) 29 none)
  refine (stepc_w (c:=c) (har.mono (hp.trans hq)) hl s).use ?_
  rintro _ S1 k1 rfl
  have k2:=hq.trans k1
  have y1':=pre_get k2 y1
  have y2':=pre_get k2 y2
  have hl1:=pre_lt y1'
  have y1'':=List.getElem?_set_self (a:=AObj.cells [vU 0,vU 0] 40 none) hl1
  simp only [wps,cell_blk y2',y1',gcz,gcs,cell_blk y1'']
  obtain ⟨q1,q2⟩:=kset S1 (AObj.cells [vU 0,vU 0] 40 none) (hp.trans k2)
  exact ⟨λ _=>⟨λ _=>⟨q1,q2⟩,λ e=>absurd e hs⟩,λ e=>absurd e hs⟩
 have vbad:¬ (m.hasN src (nV l+6)=true/\m.hasN dst (nV l+6)=true/\m.hasN tab (tabV p l inv s).length=true)->passV m p l inv s src dst tab=(((0,0),1),m):=λ h=>by unfold passV;rw [if_pos hs,if_neg h]
 have vgood:(m.hasN src (nV l+6)=true/\m.hasN dst (nV l+6)=true/\m.hasN tab (tabV p l inv s).length=true)->passV m p l inv s src dst tab=((predG p inv s.tw (grpsV l s) (tabV p l inv s) (passG p inv s.tw src dst tab m (nV l).toNat (grpsV l s)).2,0),(passG p inv s.tw src dst tab m (nV l).toNat (grpsV l s)).1.wrs ((offs (dst+nV l) [0,1,2,3,4,5]).zip (sixL (predG p inv s.tw (grpsV l s) (tabV p l inv s) (passG p inv s.tw src dst tab m (nV l).toNat (grpsV l s)).2)))):=λ h=>by unfold passV;rw [if_pos hs,if_pos h]
 have hk:=step_known hs
 obtain ⟨k,d,inner,nn,mm,hS⟩:=step_shape hs
 obtain ⟨gf1,gf2,gf3,gf4,gf5⟩:=grps_facts hS
 have hnn:=hS.nn
 have hn1:=hS.n1
 have hgl:=gs_length hS
 have hfl:=gs_len_ok hS
 have htl:=tab_length (p:=p) (inv:=inv) hS
 refine (groups_w (c:=c) hs (har.mono hp) hl).mono ?_
 rintro _ S1 ⟨ga,ps,rfl,k1,hps,hgp,hga,hgb⟩
 have z0:=pre_get k1 y0
 have z1:=pre_get k1 y1
 have z2:=pre_get k1 y2
 have p1:=hp.trans k1
 simp only [wps,cell_blk z0,gcz,gcs]
 refine (table_w (c:=c) (har.mono p1) hl inv s).use ?_
 rintro _ S2 k2 ⟨tb,tk,rfl,htab⟩
 have p2:=p1.trans k2
 have z0:=pre_get k2 z0
 have z1:=pre_get k2 z1
 have z2:=pre_get k2 z2
 rw [show tableV p l inv s (tabV p l inv s)=tabV p l inv s by unfold tableV;rw [if_pos hs]] at htab ⊢
 simp only [wps,hs]
 -- how many words
 have hpl:ps.length=(grpsV l s).length:=by rw [<- hps,List.length_map]
 refine wp_loop (λ st S' q=>∃ j:Nat,st=[vN (((grpsV l s).take j).flatMap GrN.i).length,vN j]/\q=(grpsV l s).length-j/\j<=(grpsV l s).length/\S2 <+: S') ?_ (grpsV l s).length _ _ ⟨0,rfl,rfl,by omega,List.prefix_rfl⟩
 rintro st S3 q ⟨j,rfl,rfl,hj,k3⟩
 simp only [wps]
 refine ⟨λ h3=>⟨h3,?_⟩,λ h3=>?_⟩
 ·have hj':j < ps.length:=by omega
  have hj2:j < (grpsV l s).length:=by omega
  obtain ⟨x,rfl,g0,g1,g2⟩:=(hga.mono (k2.trans k3)).getGp hj'
  have eg:ps[j].g=(grpsV l s)[j]:=by simp [<- hps]
  simp only [wps,g0,g1,g2,sA0,cell_blk gA0,gcz,gcs]
  have hle:=take_flat_le (gs:=grpsV l s) (j+1)
  rw [take_snoc hj2,List.flatMap_append,List.length_append] at hle
  have e1:(((grpsV l s).take j).flatMap GrN.i).length+ps[j].g.i.length=(((grpsV l s).take (j+1)).flatMap GrN.i).length:=by
   rw [take_snoc hj2,List.flatMap_append,List.length_append,eg]; simp
  simp only [List.flatMap_cons,List.flatMap_nil,List.append_nil,<- eg] at hle
  rw [wI_ (n:=((((grpsV l s).take j).flatMap GrN.i).length:Int)+(ps[j].g.i.length:Int)) (by omega) (by omega),wI_ (n:=(j:Int)+1) (by omega) (by omega)]
  refine ⟨(grpsV l s).length-(j+1),by omega,j+1,?_,rfl,by omega,k3.trans (List.prefix_append _ _)⟩
  rw [<- e1]; rfl
 obtain rfl:j=(grpsV l s).length:=by omega
 rw [List.take_length,hfl]
 have p3:=p2.trans k3
 have z0:=pre_get k3 z0
 have z1:=pre_get k3 z1
 have z2:=pre_get k3 z2
 have h3':=h.pre p3
 have e6:wI (((nn:Nat):Int)+6)=nV l+6:=by rw [hnn,wI_ (by omega) (by omega)]
 simp only [wps,e6]
 have bad:∀ S',S <+: S'->S'[S.length+1]? = some (AObj.cells [vU 0,vU 0] 40 none)->¬ (m.hasN src (nV l+6)=true/\m.hasN dst (nV l+6)=true/\m.hasN tab (tabV p l inv s).length=true) ->
  WP (kq5z (some ⟨b,0,none⟩) p axes n c inv src dst tab S.length (S.length+1) (S.length+2) ⟨ga,(grpsV l s).length,(grpsV l s).length⟩ (nn:Int) (1,[vI 1])) (S'.set (S.length+1) (AObj.cells [vU 0,vU 0] 40 none)) λ a S'=>WP (oneV a) S' λ v S'=>v=vT [vA [vU (passV m p l inv s src dst tab).1.1.1,vU (passV m p l inv s src dst tab).1.1.2],vI (passV m p l inv s src dst tab).1.2]/\Kp T S S'/\MS S' b (passV m p l inv s src dst tab).2 T:=by
  intro S' k hz hb
  rw [vbad hb]
  have hl1:=pre_lt hz
  have y1'':=List.getElem?_set_self (a:=AObj.cells [vU 0,vU 0] 40 none) hl1
  unfold kq5z
  simp only [wps,gcz,gcs,cell_blk y1'']
  obtain ⟨q1,q2⟩:=kset S' (AObj.cells [vU 0,vU 0] 40 none) k
  first
   | exact ⟨rfl,q1,q2⟩
   | exact ⟨q1,q2⟩
 refine (there_w h3').use ?_
 rintro _ S4 k4 rfl
 have h4:=h3'.pre k4
 have z1:=pre_get k4 z1
 have z2:=pre_get k4 z2
 simp only [wps,cell_blk z2,z1,gcz,gcs]
 refine ⟨λ c1=>bad S4 (p3.trans k4) z1 (by rw [c1]; simp),λ c1=>?_⟩
 refine (there_w h4).use ?_
 rintro _ S5 k5 rfl
 have h5:=h4.pre k5
 have z1:=pre_get k5 z1
 have z2:=pre_get k5 z2
 simp only [wps,cell_blk z2,z1,gcz,gcs]
 refine ⟨λ c2=>bad S5 ((p3.trans k4).trans k5) z1 (by rw [c2]; simp),λ c2=>?_⟩
 refine (there_w h5).use ?_
 rintro _ S6 k6 rfl
 have h6:=h5.pre k6
 have z1:=pre_get k6 z1
 have z2:=pre_get k6 z2
 simp only [wps,cell_blk z2,z1,gcz,gcs]
 refine ⟨λ c3=>bad S6 (((p3.trans k4).trans k5).trans k6) z1 (by rw [c3]; simp),λ c3=>?_⟩
 rw [vgood ⟨c1,c2,c3⟩]
 have p6:=((p3.trans k4).trans k5).trans k6
 unfold kq5z
 simp only [wps,zeroC_one,Int.toNat_natCast]
 refine ⟨⟨by omega,by omega,by omega,rfl⟩,?_⟩
 rw [rep_eU]
 generalize hS7:S6++[AObj.cells ((List.replicate nn (0:Int)).flatMap eU) 24 none]=S7
 have p7':S6 <+: S7:=⟨_,hS7⟩
 have p7:=p6.trans p7'
 have zm:S7[S6.length]? = some (AObj.cells ((List.replicate nn (0:Int)).flatMap eU) 24 none):=by rw [<- hS7]; exact get_new
 have h7:=h6.pre p7'
 have z0:=pre_get ((k4.trans k5).trans (k6.trans p7')) z0
 have z1:=pre_get p7' z1
 have z2:=pre_get p7' z2
 have l6:=p6.length_le
 have lY:=hp.length_le
 have l1:=k1.length_le
 have l2:=k2.length_le
 have l3:=k3.length_le
 have l4:=k4.length_le
 have l5:=k5.length_le
 have l66:=k6.length_le
 have l7:S7.length=S6.length+1:=by rw [<- hS7]; simp
 have hmT:S6.length∉T:=λ hx=>by have:=hTlt _ hx;omega
 have k17:S1 <+: S7:=((k2.trans k3).trans (k4.trans k5)).trans (k6.trans p7')
 have hga7:=hga.mono k17
 have hgp7:∀ x∈ps,GpOk S7 (S6.length :: T) Y.length x:=by
  intro x hx
  have h8:=hgp x hx
  have b0:=pre_lt h8.i
  have b1:=pre_lt h8.f
  have b2:=pre_lt h8.o
  have hl8:=h8.l
  have hno:∀ i,Y.length<=i->i < S1.length->i∉S6.length :: T:=by
   intro i hi hi1 hm
   rcases List.mem_cons.1 hm with e | e
   ·omega
   ·have:=hTlt _ e;omega
  exact ⟨pre_get k17 h8.i,pre_get k17 h8.f,pre_get k17 h8.o,⟨hno _ hl8.1 b0,hno _ hl8.2.1 b1,hno _ hl8.2.2 b2⟩,hl8⟩
 obtain ⟨r1,r2,r3⟩:=hasN_in c1
 obtain ⟨r4,r5,r6⟩:=hasN_in c2
 obtain ⟨r7,r8,r9⟩:=hasN_in c3
 have enn:(nV l).toNat=nn:=by rw [hnn]; simp
 rw [enn]
 have hTl7:∀ i∈S6.length :: T,i < S7.length:=by
  intro i hi
  rcases List.mem_cons.1 hi with e | e
  ·omega
  ·have:=hTlt _ e;omega
 have z7:S7[S.length]? = some (.cells (spC s) 29 none):=z0
 have nT7:∀ i,S.length<=i->i < Y.length->i∉S6.length :: T:=by
  intro i hi hi1 hm
  rcases List.mem_cons.1 hm with e | e
  ·omega
  ·have:=hTlt _ e;omega
 refine wp_loop (λ st S' q=>∃ j:Nat,st=[vN j]/\q=(grpsV l s).length-j/\j<=(grpsV l s).length/\Kp (S6.length :: T) S7 S'/\MS S' b (passG p inv s.tw src dst tab m nn ((grpsV l s).take j)).1 T/\S'[S6.length]? = some (.cells ((passG p inv s.tw src dst tab m nn ((grpsV l s).take j)).2.flatMap eU) 24 none)) ?_ (grpsV l s).length _ _ ⟨0,rfl,rfl,by omega,.refl,h7,zm⟩
 rintro st S8 q ⟨j,rfl,rfl,hj,k8,h8,m8⟩
 obtain ⟨f1,f2,f3,f4,f5⟩:=passG_facts (inv:=inv) (src:=src) (dst:=dst) (tab:=tab) (m:=m) (n:=nn) hk ((grpsV l s).take j) (m,List.replicate nn 0) (λ g hg=>gf1 g (List.mem_of_mem_take hg))
 have f1:(passG p inv s.tw src dst tab m nn ((grpsV l s).take j)).1.W.length=m.W.length:=f1
 have f2:(passG p inv s.tw src dst tab m nn ((grpsV l s).take j)).1.t=m.t+3*(((grpsV l s).take j).flatMap GrN.i).length:=f2
 have f4:(passG p inv s.tw src dst tab m nn ((grpsV l s).take j)).2.length=nn:=f4.trans (by simp)
 have f5:∀ y∈(passG p inv s.tw src dst tab m nn ((grpsV l s).take j)).2,inP p y:=f5 (by intro y hy;rw [List.mem_replicate] at hy;rw [hy.2]; exact inP_zero hk)
 have htake:=take_flat_le (gs:=grpsV l s) j
 simp only [wps]
 refine ⟨λ hj3=>⟨hj3,?_⟩,λ hj3=>?_⟩
 rotate_left
 ·obtain rfl:j=(grpsV l s).length:=by omega
  rw [List.take_length] at h8 m8 f1 f2 f4 f5
  have sT0:S.length∉S6.length :: T:=nT7 _ (by omega) (by omega)
  have sT1:S.length+1∉S6.length :: T:=nT7 _ (by omega) (by omega)
  have v0:=k8.get z7 sT0
  have v1:=k8.get z1 sT1
  have har8:Ar S8 axes n 2 eAx l:=k8.ar (har.mono p7) (λ hne y hy=>by
   have e1:=hax y hy hne
   have e2:=har.low (λ x=>⟨_,rfl⟩) hne y hy
   intro hm;rcases List.mem_cons.1 hm with e | e
   ·omega
   ·exact e1 e)
  have hmet:Ar S8 (some ⟨S6.length,0,none⟩) nn 1 eU (passG p inv s.tw src dst tab m nn (grpsV l s)).2:=by
   have q:=Ar.blk (e:=eU) (w:=1) (l:=(passG p inv s.tw src dst tab m nn (grpsV l s)).2) m8 (λ _ _=>rfl) rfl
   rw [f4] at q
   exact q
  rw [hfl] at f2
  generalize passG p inv s.tw src dst tab m nn (grpsV l s)=pg at h8 m8 f1 f2 f4 f5 hmet ⊢
  simp only [wps,cell_blk v0,gcz,gcs]
  refine (predict_w (c:=c) (xc:=nn) (inv:=inv) hs har8 hl hmet (by rw [f4,hnn]) f5).mono ?_
  rintro _ S9 ⟨rfl,k9⟩
  obtain ⟨u1,u2⟩:=predG_in (inv:=inv) (tw:=s.tw) (tab:=tabV p l inv s) (x:=pg.2) hk (grpsV l s) (0,0) ⟨inP_zero hk,inP_zero hk⟩
  have u1:inP p (predG p inv s.tw (grpsV l s) (tabV p l inv s) pg.2).1:=u1
  have u2:inP p (predG p inv s.tw (grpsV l s) (tabV p l inv s) pg.2).2:=u2
  generalize predG p inv s.tw (grpsV l s) (tabV p l inv s) pg.2=Q at u1 u2 ⊢
  obtain ⟨qa,qb⟩:=Q
  simp only [wps,List.append_assoc,List.cons_append,List.nil_append,List.length_append,List.length_cons,List.length_nil,Nat.zero_add,Nat.reduceAdd,sA0,gA0,cell_blk gA0,gcz,gcs]
  generalize hZ:S9++[AObj.cells [vU qa,vU qb] 40 none,AObj.cells [vI 0,vI 1,vI 2,vI 3,vI 4,vI 5] 3 none,AObj.cells [vU qa,vU qa,vU qa,vU qb,vU qb,vU qb] 24 none]=Z
  have pz:S9 <+: Z:=⟨_,hZ⟩
  have s0:Z[S9.length]? = some (AObj.cells [vU qa,vU qb] 40 none):=by rw [<- hZ]; exact gA0
  have s1:Z[S9.length+1]? = some (nBlk [0,1,2,3,4,5]):=by rw [<- hZ,gA]; rfl
  have s2:Z[S9.length+2]? = some (.cells ((sixL (qa,qb)).flatMap eU) 24 none):=by rw [<- hZ,gA]; rfl
  have v1:=pre_get (k9.trans pz) v1
  have l8:=k8.len
  have l9:=k9.length_le
  have hTi:∀ i,S.length<=i->i∉T:=λ i hi hm=>by have:=hTlt _ hm;omega
  have e1:wI (dst+(nn:Int))=dst+nV l:=by rw [hnn,wI_ (by have:=h.w;omega) (by have:=h.w;omega)]
  rw [e1]
  have hq6:∀ y∈sixL (qa,qb),Go.Proofs.YtpecnaacgkgjmaaGreatDoor.u64r y:=by
   have i1:=inP_u hk u1
   have i2:=inP_u hk u2
   intro y hy
   have : y=qa\/y=qb:=by
    simp only [sixL,List.mem_cons,List.not_mem_nil,or_false] at hy;omega
   rcases this with rfl | rfl
   ·exact ⟨i1.1,by have:=i1.2;dsimp only at this;omega⟩
   ·exact ⟨i2.1,by have:=i2.2;dsimp only at this;omega⟩
  have h6:∀ i∈[0,1,2,3,4,5],dst+nV l+((i:Nat):Int) < pg.1.W.length:=by
   intro i hi
   have : i<=5:=by simp only [List.mem_cons,List.not_mem_nil,or_false] at hi;omega
   rw [f1]; omega
  refine (stores_w (at_:=[0,1,2,3,4,5]) (cc:=6) (lc:=6) ((h8.pre k9).pre pz) s1 (hTi _ (by omega)) s2 (hTi _ (by omega)) rfl hq6 (by omega) h6 (by rw [f2]; simp;omega) (by simp)).mono ?_
  rintro _ S10 ⟨rfl,k10,h10⟩
  have s0:=k10.get s0 (hTi _ (by omega))
  have v1:=k10.get v1 (hTi _ (by omega))
  have hl1:=pre_lt v1
  have v1':=List.getElem?_set_self (a:=AObj.cells [vU qa,vU qb] 40 none) hl1
  simp only [wps,cell_blk s0,gcz,gcs,v1,cell_blk v1',and_true,true_and]
  have k7S:Kp T S S10:=⟨by have:=k10.len;have:=pz.length_le;have:=p7.length_le;omega,λ i hi hn=>by
   have q7:=p7.length_le
   rw [k10.keep i (by have:=pz.length_le;omega) hn,pre_at (k9.trans pz) (by omega),k8.keep i (by omega) (by intro hm;rcases List.mem_cons.1 hm with e | e;omega;exact hn e),pre_at p7 hi]⟩
  refine ⟨⟨by rw [List.length_set]; exact k7S.len,λ i hi hn=>by rw [List.getElem?_set_ne (by omega),k7S.keep i hi hn]⟩,h10.kp (M:=[S.length+1]) ⟨by simp,λ i hi hn=>by rw [List.getElem?_set_ne]; rintro rfl;simp at hn⟩ (λ i hi=>by have:=hTlt i hi;simp;omega)⟩
 have hj':j < ps.length:=by omega
 have hj2:j < (grpsV l s).length:=by omega
 have hstep:passG p inv s.tw src dst tab m nn ((grpsV l s).take (j+1))=passStep p inv s.tw src dst tab (passG p inv s.tw src dst tab m nn ((grpsV l s).take j)) (grpsV l s)[j]:=by rw [take_snoc hj2,passG_app]
 have eg:(grpsV l s)[j]=ps[j].g:=by simp [<- hps]
 have hgm:ps[j].g∈grpsV l s:=by rw [<- eg]; exact List.getElem_mem hj2
 rw [eg] at hstep
 have hgok:=gf1 _ hgm
 have hgpj:=(hgp7 _ (List.getElem_mem hj')).move (T':=S6.length :: T) ⟨k8,λ i hi=>.inl hi⟩
 generalize passG p inv s.tw src dst tab m nn ((grpsV l s).take j)=pg at h8 m8 f1 f2 f4 f5 hstep
 obtain ⟨x,hxa,g0,g1,g2⟩:=(k8.ar hga7 (λ hne y hy=>by have:=hgb y hy;have:=hga.low (λ x=>⟨_,rfl⟩) hne y hy;intro hm;rcases List.mem_cons.1 hm with e | e;omega;have:=hTlt _ e;omega)).getGp hj'
 subst hxa
 have gi_in:∀ i∈ps[j].g.i,i < nn:=λ i hi=>List.mem_range.1 (gf2.mem_iff.1 (List.mem_flatMap.2 ⟨_,hgm,hi⟩))
 have go_in:∀ i∈ps[j].g.o,i < nn:=λ i hi=>List.mem_range.1 (gf3.mem_iff.1 (List.mem_flatMap.2 ⟨_,hgm,hi⟩))
 have gfc_in:∀ i∈ps[j].g.f,i < (tabV p l inv s).length:=λ i hi=>by rw [htl]; exact gf4 _ hgm i hi
 have gl5:ps[j].g.i.length<=5/\1<=ps[j].g.i.length:=by
  cases hw:s.tw with
  | true=>have:=hgok.t hw;omega
  | false=>have:=grp_root hS hs hgm hw;omega
 clear eg
 generalize ps[j]=gp at hstep hgok hgpj g0 g1 g2 gi_in go_in gfc_in gl5 hgm
 obtain ⟨b0,b1,b2,g⟩:=gp
 dsimp only at hstep hgok g0 g1 g2 gi_in go_in gfc_in gl5 hgm
 simp only [wps,g0,g1,g2,sA0,cell_blk gA0,gcz,gcs]
 have pg9:=List.prefix_append S8 [AObj.cells [.slice (some ⟨b0,0,none⟩) g.i.length g.i.length,.slice (some ⟨b1,0,none⟩) g.f.length g.f.length,.slice (some ⟨b2,0,none⟩) g.o.length g.o.length] 128 none]
 have x9:=get_new (S:=S8) (o:=AObj.cells [.slice (some ⟨b0,0,none⟩) g.i.length g.i.length,.slice (some ⟨b1,0,none⟩) g.f.length g.f.length,.slice (some ⟨b2,0,none⟩) g.o.length g.o.length] 128 none)
 generalize hS9:S8++[AObj.cells [.slice (some ⟨b0,0,none⟩) g.i.length g.i.length,.slice (some ⟨b1,0,none⟩) g.f.length g.f.length,.slice (some ⟨b2,0,none⟩) g.o.length g.o.length] 128 none]=S9 at pg9 x9 ⊢
 have h9:=h8.pre pg9
 have gp9:=hgpj.move (T':=S6.length :: T) ⟨.of pg9,λ i hi=>.inl hi⟩
 have m9:=pre_get pg9 m8
 have l8:=k8.len
 have l9:S9.length=S8.length+1:=by rw [<- hS9]; simp
 have noT:∀ i,i∉S6.length :: T->i∉T:=λ i hi hm=>hi (List.mem_cons_of_mem _ hm)
 have big:∀ i,S6.length < i->i∉S6.length :: T:=by
  intro i hi hm
  rcases List.mem_cons.1 hm with e | e
  ·omega
  ·have:=hTlt _ e;omega
 refine (loads_w (C:=lookD [((129:Nat),gq3c)] noC) (f:=src) (cc:=g.i.length) (λ _=>rfl) h9 (show S9[b0]? = some (nBlk g.i) from gp9.i) (show b0∉T from noT _ gp9.n.1) (by omega) (λ i hi=>by have:=gi_in i hi;rw [f1]; omega) (by rw [f2]; omega) (by omega)).mono ?_
 rintro _ S10 ⟨rfl,k10,h10,w10⟩
 have hlA:=(Mm.rds_len (offs src g.i) pg.1)
 have hokA:=(Mm.ok.rds (offs src g.i) h9.ok)
 have x10:=k10.get x9 (noT _ (big _ (by omega)))
 have m10:=k10.get m9 hmT
 have gp10:=gp9.move (T':=S6.length :: T) ⟨k10.mono (λ i hi=>List.mem_cons_of_mem _ hi),λ i hi=>.inl hi⟩
 have l10:=k10.len
 simp only [wps,cell_blk x10,gcz,gcs]
 have hgfl:=hgok.f
 have hgol:=hgok.o
 refine (loads_w (C:=lookD [((129:Nat),gq3c)] noC) (f:=tab) (cc:=g.f.length) (λ _=>rfl) h10 (show S10[b1]? = some (nBlk g.f) from gp10.f) (show b1∉T from noT _ gp10.n.2.1) (by omega) (λ i hi=>by have:=gfc_in i hi;rw [hlA.1,f1]; omega) (by rw [hlA.2.2.1,f2,List.length_map]; omega) (by omega)).mono ?_
 rintro _ S11 ⟨rfl,k11,h11,w11⟩
 have hlF:=(Mm.rds_len (offs tab g.f) (pg.1.rds (offs src g.i)).2)
 have hokF:=(Mm.ok.rds (offs tab g.f) h10.ok)
 have x11:=k11.get x10 (noT _ (big _ (by omega)))
 have m11:=k11.get m10 hmT
 have wA11:=k11.get w10 (noT _ (big _ (by omega)))
 have gp11:=gp10.move (T':=S6.length :: T) ⟨k11.mono (λ i hi=>List.mem_cons_of_mem _ hi),λ i hi=>.inl hi⟩
 have l11:=k11.len
 have lAl:(pg.1.rds (offs src g.i)).1.length=g.i.length:=by rw [hlA.2.1,List.length_map]
 have lFl:((pg.1.rds (offs src g.i)).2.rds (offs tab g.f)).1.length=g.i.length:=by rw [hlF.2.1,List.length_map,hgfl]
 have hwA:∀ y∈(pg.1.rds (offs src g.i)).1,inU y:=λ y hy=>by have:=hokA.2 y hy;exact ⟨this.1,by have:=this.2;omega⟩
 have hwF:∀ y∈((pg.1.rds (offs src g.i)).2.rds (offs tab g.f)).1,inU y:=λ y hy=>by have:=hokF.2 y hy;exact ⟨this.1,by have:=this.2;omega⟩
 have hst2:(passStep p inv s.tw src dst tab pg g).1=((pg.1.rds (offs src g.i)).2.rds (offs tab g.f)).2.wrs ((offs dst g.o).zip (List.zipWith (mulF p) (gyV p inv s.tw ((pg.1.rds (offs src g.i)).1.map (red p))) ((pg.1.rds (offs src g.i)).2.rds (offs tab g.f)).1)):=rfl
 have hst3:(passStep p inv s.tw src dst tab pg g).2=scat pg.2 (g.i.zip ((pg.1.rds (offs src g.i)).1.map (red p))):=rfl
 have hf12:((pg.1.rds (offs src g.i)).2.rds (offs tab g.f)).2.W.length=m.W.length:=by rw [hlF.1,hlA.1,f1]
 have ht12:((pg.1.rds (offs src g.i)).2.rds (offs tab g.f)).2.t=pg.1.t+2*g.i.length:=by rw [hlF.2.2.1,hlA.2.2.1,List.length_map,List.length_map,hgfl]; omega
 generalize (pg.1.rds (offs src g.i)).1=A at w10 wA11 lAl hwA hst2 hst3
 generalize ((pg.1.rds (offs src g.i)).2.rds (offs tab g.f)).1=F at w11 lFl hwF hst2
 generalize ((pg.1.rds (offs src g.i)).2.rds (offs tab g.f)).2=M2 at h11 hst2 hf12 ht12
 generalize hAr:A.map (red p)=Ar' at hst2 hst3
 have lAr:Ar'.length=g.i.length:=by rw [<- hAr,List.length_map,lAl]
 have hArin:∀ y∈Ar',inP p y:=by
  intro y hy;rw [<- hAr] at hy
  obtain ⟨z,_,rfl⟩:=List.mem_map.1 hy
  exact inP_red hk _
 simp only [wps]
 refine wp_loop (λ st S' q=>∃ k:Nat,st=[vN k]/\q=g.i.length-k/\k<=g.i.length/\Kp [S9.length,S6.length] S11 S'/\S'[S9.length]? = some (.cells ((Ar'.take k++A.drop k).flatMap eU) 24 none)/\S'[S6.length]? = some (.cells ((scat pg.2 ((g.i.zip Ar').take k)).flatMap eU) 24 none)) ?_ g.i.length _ _ ⟨0,rfl,rfl,by omega,.refl,by simpa using wA11,by simpa [scat] using m11⟩
 rintro st S12 q ⟨k,rfl,rfl,hkk,k12,w12,m12⟩
 simp only [wps]
 have nb0:b0≠S9.length/\b0≠S6.length:=by
  have e1:=pre_lt (show S8[b0]? = some (nBlk g.i) from hgpj.i)
  have e2:=hgpj.n.1
  refine ⟨by omega,λ e=>e2 (by show b0∈_;rw [e]; exact List.mem_cons_self)⟩
 have i12:S12[b0]? = some (nBlk g.i):=k12.get gp11.i (by simp only [List.mem_cons,List.not_mem_nil,or_false]; show ¬ (b0=_\/b0=_); omega)
 have x12:=k12.get x11 (by simp only [List.mem_cons,List.not_mem_nil,or_false]; omega)
 have ww:=pre_lt w12
 have wm:=pre_lt m12
 have hne96:S9.length≠S6.length:=by omega
 refine ⟨λ hq3=>⟨hq3,?_⟩,λ hq3=>?_⟩
 ·have hk':k < g.i.length:=by omega
  have hkA:k < A.length:=by omega
  have hkr:k < Ar'.length:=by omega
  have lcur:(Ar'.take k++A.drop k).length=g.i.length:=by simp;omega
  have ecur:(Ar'.take k++A.drop k)[k]'(by omega)=A[k]:=by
   rw [List.getElem_append_right (by simp;omega)]
   simp [show min k Ar'.length=k by omega]
  have hu:=(Ob.refl (e:=eU) w12).u (i:=k) (by omega)
  rw [ecur] at hu
  have hred:=red_w (p:=p) (hwA _ (List.getElem_mem hkA))
  have eAr:red p A[k]=Ar'[k]:=by simp [<- hAr]
  rw [eAr] at hred
  have hput:=(Ob.refl (e:=eU) w12).put (w:=1) (λ _=>rfl) (i:=k) (by omega) Ar'[k]
  rw [Nat.mul_one,set_step (by omega) hkr] at hput
  have hc1:=nCell i12 hk'
  simp only [wps,hu,hred,w12]
  generalize hS13:List.set S12 S9.length _=S13
  rw [show splice ((Ar'.take k++A.drop k).flatMap eU) k (eU Ar'[k])=splice ((Ar'.take k++A.drop k).flatMap eU) k [vU Ar'[k]] from rfl,hS13] at hput
  have k13:∀ i,i≠S9.length->S13[i]? = S12[i]?:=λ i hi=>by rw [<- hS13]; exact List.getElem?_set_ne (Ne.symm hi)
  have x13:S13[S8.length]? = _:=(k13 _ (by omega)).trans x12
  have i13:S13[b0]? = _:=(k13 _ nb0.1).trans i12
  have m13:S13[S6.length]? = _:=(k13 _ (Ne.symm hne96)).trans m12
  have hc13:=nCell i13 hk'
  have hu13:=hput.u (i:=k) (by simp;omega)
  have e13:(Ar'.take (k+1)++A.drop (k+1))[k]'(by simp;omega)=Ar'[k]:=by
   rw [List.getElem_append_left (by simp;omega)]; simp
  rw [e13] at hu13
  have lM:(scat pg.2 ((g.i.zip Ar').take k)).length=nn:=by rw [scat_len,f4]
  have hgi:=gi_in _ (List.getElem_mem hk')
  simp only [wps,cell_blk x13,gcz,gcs,hc13,hu13,m13,Int.toNat_natCast]
  rw [wI_ (n:=(k:Int)+1) (by omega) (by omega)]
  have hputM:=(Ob.refl (e:=eU) m13).put (w:=1) (λ _=>rfl) (i:=g.i[k]) (by omega) Ar'[k]
  have hzk:k < (g.i.zip Ar').length:=by rw [List.length_zip]; omega
  have ezk:(g.i.zip Ar')[k]=(g.i[k],Ar'[k]):=by simp
  have hsc:=scat_take (M:=pg.2) hzk
  rw [ezk] at hsc
  rw [Nat.mul_one,<- hsc] at hputM
  refine ⟨by omega,by rw [flat_len (e:=eU) (w:=1) (λ _=>rfl)]; omega,by omega,by omega,by omega,by rw [flat_len (e:=eU) (w:=1) (λ _=>rfl)]; omega,g.i.length-(k+1),by omega,k+1,rfl,rfl,by omega,?_,?_,hputM.at_⟩
  ·have hl13:S13.length=S12.length:=by rw [<- hS13,List.length_set]
   refine k12.trans ⟨by rw [List.length_set]; omega,λ i hi hn=>?_⟩
   simp only [List.mem_cons,List.not_mem_nil,or_false,not_or] at hn
   rw [List.getElem?_set_ne (Ne.symm hn.2),k13 i hn.1]
  ·rw [List.getElem?_set_ne (Ne.symm hne96)]; exact hput.at_
 ·obtain rfl:k=g.i.length:=by omega
  rw [List.take_of_length_le (by omega),List.drop_of_length_le (by omega),List.append_nil] at w12
  rw [List.take_of_length_le (by rw [List.length_zip]; omega)] at m12
  have l12:=k12.len
  have q10:=pre_lt w10
  have q11:=pre_lt w11
  have d12:∀ i∈T,i∉[S9.length,S6.length]:=by
   intro i hi
   simp only [List.mem_cons,List.not_mem_nil,or_false]
   rintro (e | e)
   ·exact noT _ (big S9.length (by omega)) (e ▸ hi)
   ·exact hmT (e ▸ hi)
  have h12:=h11.kp k12 d12
  have f12:=k12.get w11 (by simp only [List.mem_cons,List.not_mem_nil,or_false]; omega)
  have e2:=pre_lt (show S8[b2]? = some (nBlk g.o) from hgpj.o)
  have nb2:b2≠S9.length/\b2≠S6.length:=by
   refine ⟨by omega,λ e=>hgpj.n.2.2 (by show b2∈_;rw [e]; exact List.mem_cons_self)⟩
  have o12:S12[b2]? = some (nBlk g.o):=k12.get gp11.o (by simp only [List.mem_cons,List.not_mem_nil,or_false]; show ¬ (b2=_\/b2=_); omega)
  have sT:S.length∉S6.length :: T:=nT7 _ (by omega) (by omega)
  have kk8:Kp (S6.length :: T) S7 S11:=(k8.more pg9).trans ((k10.mono λ i hi=>List.mem_cons_of_mem _ hi).trans (k11.mono λ i hi=>List.mem_cons_of_mem _ hi))
  have z12:=k12.get (kk8.get z7 sT) (by simp only [List.mem_cons,List.not_mem_nil,or_false]; omega)
  have kk12:Kp (S6.length :: T) S7 S12:=⟨by have:=kk8.len;omega,λ i hi hn=>by
   rw [k12.keep i (by have:=kk8.len;omega) (by simp only [List.mem_cons,List.not_mem_nil,or_false]; rintro (e | e); omega;exact hn (e ▸ List.mem_cons_self)),kk8.keep i hi hn]⟩
  have hi1:∀ i∈g.o,dst+(i:Int) < M2.W.length:=λ i hi=>by have:=go_in i hi;rw [hf12]; omega
  have ht1:0<=M2.t/\M2.t+g.i.length < 4611686018427387904:=by rw [ht12,f2]; omega
  have hnext:∀ (S14:St) (yb:Nat) (Yl:List Int) (gy:Option Nat),S12 <+: S14->S14[yb]? = some (.cells (Yl.flatMap eU) 24 gy)->yb∉S6.length :: T->S7.length<=yb->yb≠S8.length->b2≠yb->S10.length≠yb->Yl=gyV p inv s.tw Ar' ->
   WP (kq5y (some ⟨b,0,none⟩) p dst (S.length+1) (S.length+2) (j:Int) S8.length ⟨some ⟨S10.length,0,none⟩,g.f.length,g.f.length⟩ (0,[.slice (some ⟨yb,0,none⟩) g.i.length g.i.length])) S14 λ q S'=>q=(0,[vI (wI ((j:Int)+1))])/\Kp (S6.length :: T) S7 S'/\MS S' b (passStep p inv s.tw src dst tab pg g).1 T/\S'[S6.length]? = some (.cells ((passStep p inv s.tw src dst tab pg g).2.flatMap eU) 24 none):=by
   intro S14 yb Yl gy q14 hy14 hyT hyl hy8 hyb2 hyf hYl
   have lYl:Yl.length=g.i.length:=by rw [hYl,gyV_len,lAr]
   have hYu:∀ y∈Yl,inU y:=by
    intro y hy
    rw [hYl] at hy
    unfold gyV at hy
    split at hy
    ·exact inP_u hk (hArin y hy)
    ·exact inP_u hk (flyV_in hk y hy)
   have hr1:=run1_w (p:=p) (dst:=dst) (n2:=(j:Int)) (n:=S.length+1) (n1:=S.length+2) (len:=g.i.length) (h12.pre q14) (by have:=pre_get q14 x12;rw [hgol] at this;exact this) (pre_get q14 o12) (pre_get q14 f12) hy14 ⟨noT _ (big S8.length (by omega)),noT _ hgpj.n.2.2,noT _ (big S10.length (by omega)),noT _ hyT⟩ ⟨Ne.symm hy8,hyb2,hyf⟩ hgol lFl lYl hYu hwF (by omega) hi1 ht1 (by omega)
   rw [hgfl]
   refine hr1.mono ?_
   rintro q S15 ⟨rfl,k15,h15⟩
   have l14:=q14.length_le
   have lkk:=kk12.len
   refine ⟨rfl,⟨by have:=k15.len;omega,λ i hi hn=>?_⟩,?_,?_⟩
   ·rw [k15.keep i (by omega) (by intro hm;rcases List.mem_cons.1 hm with e | e;omega;exact noT _ hn e),pre_at q14 (by omega),kk12.keep i hi hn]
   ·rw [hst2,<- hYl]; exact h15
   ·rw [hst3]
    exact k15.get (pre_get q14 m12) (by intro hm;rcases List.mem_cons.1 hm with e | e;exact hyT (e ▸ List.mem_cons_self); exact hmT e)
  have hend:∀ (S15:St),Kp (S6.length :: T) S7 S15/\MS S15 b (passStep p inv s.tw src dst tab pg g).1 T/\S15[S6.length]? = some (.cells ((passStep p inv s.tw src dst tab pg g).2.flatMap eU) 24 none)->∃ n' < (grpsV l s).length-j,∃ j_1:Nat,[vI (wI ((j:Int)+1))]=[vN j_1]/\n'=(grpsV l s).length-j_1/\j_1<=(grpsV l s).length/\Kp (S6.length :: T) S7 S15/\MS S15 b (passG p inv s.tw src dst tab m nn ((grpsV l s).take j_1)).1 T/\S15[S6.length]? = some (.cells ((passG p inv s.tw src dst tab m nn ((grpsV l s).take j_1)).2.flatMap eU) 24 none):=by
   rintro S15 ⟨e1,e2,e3⟩
   rw [wI_ (n:=(j:Int)+1) (by omega) (by omega)]
   exact ⟨(grpsV l s).length-(j+1),by omega,j+1,rfl,rfl,by omega,e1,by rw [hstep]; exact e2,by rw [hstep]; exact e3⟩
  simp only [wps,cell_blk z12,gcz,gcs]
  refine ⟨λ hw=>?_,λ hw=>?_⟩
  ·have hroot:=grp_root hS hs hgm hw
   have arW:Ar S12 (some ⟨S9.length,0,none⟩) g.i.length 1 eU Ar':=by rw [<- lAr]; exact Ar.blk w12 (λ _ _=>rfl) rfl
   refine (fdo_w (c:=g.i.length) (inv:=inv) arW ⟨hroot.1,hroot.2.1⟩ hroot.2.2 hArin).mono ?_
   rintro _ S14 ⟨yb,rfl,hN⟩
   obtain ⟨gy,hy14⟩:=hN.at_
   have hlt:=hN.lt
   simp only [wps]
   refine WP.mono (hnext S14 yb _ gy hN.p hy14 (big _ (by omega)) (by omega) (by omega) (by omega) (by omega) (by rw [hw]; simp [gyV])) ?_
   rintro q S15 ⟨rfl,hR⟩
   exact hend S15 hR
  ·refine WP.mono (hnext S12 S9.length _ none List.prefix_rfl w12 (big _ (by omega)) (by omega) (by omega) nb2.1 (by omega) (by rw [hw]; simp [gyV])) ?_
   rintro q S15 ⟨rfl,hR⟩
   exact hend S15 hR
theorem acc_nil {m:Mm} (h:m.L=[]):m.acc=⟨m.W,[],m.t+1,m.ah⟩:=by
 unfold Mm.acc dueL lateL;rw [h]; rfl
theorem wr_nil {m:Mm} (h:m.L=[]) (a w:Int):m.wr a w=⟨m.W.set a.toNat w,[],m.t+1,m.ah⟩:=by
 unfold Mm.wr;rw [acc_nil h]
theorem live_fly:gyV P1 false false [3,5]=[8,998244351]:=by
 unfold gyV
 rw [if_neg (by simp),two_is (by decide)]
 decide +kernel
theorem live_tab:tabV P1 [⟨2,false⟩] false ⟨0,false,⟨2,1,1⟩⟩=[1,1]:=by
 have hk:known P1=true:=by decide
 unfold tabV
 rw [if_neg (by simp)]
 show rowsV P1 _ 2 1=_
 simp only [rowsV,List.nil_append]
 rw [powM_zero _ hk]
 simp [powsV,powM_one hk,List.range_succ]
theorem live_grp:grpsV [⟨2,false⟩] ⟨0,false,⟨2,1,1⟩⟩=[⟨[0,1],[0,1],[0,1]⟩]:=by kernel_rfl
theorem passV_facts {m:Mm} {p:Int} {l:List Ax} {inv:Bool} {s:Stp} {src dst tab:Int} :
 ((passV m p l inv s src dst tab).1.2≠0/\passV m p l inv s src dst tab=(((0,0),(passV m p l inv s src dst tab).1.2),m)) \/
 ((passV m p l inv s src dst tab).1.2=0/\(passV m p l inv s src dst tab).2.t=m.t+3*nV l+6/\(passV m p l inv s src dst tab).2.W.length=m.W.length/\inP p (passV m p l inv s src dst tab).1.1.1/\inP p (passV m p l inv s src dst tab).1.1.2/\stepV p l s=0):=by
 unfold passV
 by_cases hs:stepV p l s=0
 ·rw [if_pos hs]
  by_cases hc:m.hasN src (nV l+6)=true/\m.hasN dst (nV l+6)=true/\m.hasN tab (tabV p l inv s).length=true
  ·rw [if_pos hc]
   right
   have hk:=step_known hs
   obtain ⟨k,d,inner,nn,mm,hS⟩:=step_shape hs
   obtain ⟨gf1,gf2,gf3,gf4,gf5⟩:=grps_facts hS
   obtain ⟨f1,f2,f3,f4,f5⟩:=passG_facts (inv:=inv) (src:=src) (dst:=dst) (tab:=tab) (m:=m) (n:=nn) hk (grpsV l s) (m,List.replicate (nV l).toNat 0) gf1
   obtain ⟨u1,u2⟩:=predG_in (inv:=inv) (tw:=s.tw) (tab:=tabV p l inv s) (x:=(passG p inv s.tw src dst tab m (nV l).toNat (grpsV l s)).2) hk (grpsV l s) (0,0) ⟨inP_zero hk,inP_zero hk⟩
   have hfl:=gs_len_ok hS
   have hnn:=hS.nn
   obtain ⟨w1,w2,w3⟩:=Mm.wrs_len ((offs (dst+nV l) [0,1,2,3,4,5]).zip (sixL (predG p inv s.tw (grpsV l s) (tabV p l inv s) (passG p inv s.tw src dst tab m (nV l).toNat (grpsV l s)).2))) (passG p inv s.tw src dst tab m (nV l).toNat (grpsV l s)).1
   refine ⟨rfl,?_,?_,u1,u2,hs⟩
   ·dsimp only
    rw [w2]
    have e:(passG p inv s.tw src dst tab m (nV l).toNat (grpsV l s)).1.t=m.t+3*((grpsV l s).flatMap GrN.i).length:=f2
    rw [e,hfl,hnn]
    simp [sixL]
   ·dsimp only;rw [w1]; exact f1
  ·rw [if_neg hc]; left;exact ⟨by simp,rfl⟩
 ·rw [if_neg hs]; left;exact ⟨hs,rfl⟩
def wset (W:List Int) (l:List (Int×Int)):List Int:=l.foldl (λ w e=>w.set e.1.toNat e.2) W
theorem wset_len:∀ (l:List (Int×Int)) (W:List Int),(wset W l).length=W.length
 | [], W => rfl
 | e :: l, W => by rw [wset, List.foldl_cons]; exact (wset_len l _).trans (by simp)
theorem wset_app (W:List Int) (l k:List (Int×Int)):wset W (l++k)=wset (wset W l) k:=by unfold wset;rw [List.foldl_append]
theorem wset_other:∀ (l:List (Int×Int)) (W:List Int) (i:Nat),(∀ e∈l,e.1.toNat≠i)->(wset W l)[i]? = W[i]?
 | [], W, i, h => rfl
 | e :: l, W, i, h => by
   rw [wset,List.foldl_cons]
   exact (wset_other l _ i λ e' he'=>h e' (by simp [he'])).trans (by rw [List.getElem?_set_ne (h e (by simp))])
theorem wset_in {P:Int->Prop}:∀ (l:List (Int×Int)) (W:List Int) (i:Nat),i < W.length->(∀ e∈l,P e.2)->((∃ e∈l,e.1.toNat=i)\/∃ v,W[i]? = some v/\P v)->∃ v,(wset W l)[i]? = some v/\P v
 | [], W, i, hi, _, h => by
   rcases h with ⟨e,he,_⟩ | h
   ·cases he
   ·exact h
 | e :: l, W, i, hi, hP, h => by
   rw [wset,List.foldl_cons]
   refine wset_in l _ i (by simpa using hi) (λ e' he'=>hP e' (by simp [he'])) ?_
   by_cases hc:e.1.toNat=i
   ·right;exact ⟨e.2,by rw [<- hc,List.getElem?_set_self (by omega)],hP e (by simp)⟩
   ·rcases h with ⟨e',he',hi'⟩ | ⟨v,hv,hp⟩
    ·rcases List.mem_cons.1 he' with rfl | he'
     ·exact absurd hi' hc
     ·exact .inl ⟨e',he',hi'⟩
    ·exact .inr ⟨v,by rw [List.getElem?_set_ne hc]; exact hv,hp⟩
theorem rds_nil:∀ (l:List Int) (m:Mm),m.L=[]->m.rds l=(l.map λ a=>m.W.getD a.toNat 0,⟨m.W,[],m.t+l.length,m.ah⟩)
 | [], m, h => by simp [Mm.rds]; rw [<- h]
 | a :: l, m, h => by
   have e:(m.rd a).2=⟨m.W,[],m.t+1,m.ah⟩:=acc_nil h
   have e1:(m.rd a).1=m.W.getD a.toNat 0:=by unfold Mm.rd;rw [acc_nil h]
   rw [Mm.rds,e,e1,rds_nil l _ rfl]
   simp;omega
theorem wrs_nil:∀ (l:List (Int×Int)) (m:Mm),m.L=[]->m.wrs l=⟨wset m.W l,[],m.t+l.length,m.ah⟩
 | [], m, h => by simp [Mm.wrs, wset]; rw [<- h]
 | e :: l, m, h => by
   rw [Mm.wrs,wr_nil h,wrs_nil l _ rfl]
   simp [wset]; omega
section
variable {p:Int} {inv tw:Bool} {src dst tab:Int}
theorem step_nil (hk:known p=true) {g:GrN} (hg:g.ok tw) {st:Mm×List Int} (h:st.1.L=[]):∃ L:List (Int×Int),(passStep p inv tw src dst tab st g).1.W=wset st.1.W L/\L.map (·.1)=offs dst g.o/\(∀ e∈L,inP p e.2)/\(passStep p inv tw src dst tab st g).1.L=[]:=by
 have hz:=zipW_len (p:=p) (inv:=inv) (src:=src) (tab:=tab) hg st.1
 unfold passStep
 have h1:(st.1.rds (offs src g.i)).2.L=[]:=by rw [rds_nil _ _ h]
 have h2:((st.1.rds (offs src g.i)).2.rds (offs tab g.f)).2.L=[]:=by rw [rds_nil _ _ h1]
 have h3:((st.1.rds (offs src g.i)).2.rds (offs tab g.f)).2.W=st.1.W:=by rw [rds_nil _ _ h1]; rw [rds_nil _ _ h]
 refine ⟨(offs dst g.o).zip (List.zipWith (mulF p) (gyV p inv tw ((st.1.rds (offs src g.i)).1.map (red p))) ((st.1.rds (offs src g.i)).2.rds (offs tab g.f)).1),?_,?_,?_,?_⟩
 ·dsimp only;rw [wrs_nil _ _ h2,h3]
 ·rw [List.map_fst_zip]; rw [hz,List.length_map,hg.o]; omega
 ·intro e he
  obtain ⟨i,hi,hx⟩:=List.mem_iff_getElem.1 (List.of_mem_zip he).2
  rw [List.getElem_zipWith] at hx
  rw [<- hx]; exact inP_mul hk _ _
 ·dsimp only;rw [wrs_nil _ _ h2]
theorem steps_nil (hk:known p=true):∀ (gs:List GrN) (st:Mm×List Int),(∀ g∈gs,g.ok tw)->st.1.L=[]->∃ L:List (Int×Int),(gs.foldl (passStep p inv tw src dst tab) st).1.W=wset st.1.W L/\L.map (·.1)=offs dst (gs.flatMap GrN.o)/\(∀ e∈L,inP p e.2)/\(gs.foldl (passStep p inv tw src dst tab) st).1.L=[]
 | [], st, _, h => ⟨[], rfl, rfl, by simp, h⟩
 | g :: gs, st, hg, h => by
   obtain ⟨L1,a1,a2,a3,a4⟩:=step_nil (inv:=inv) (src:=src) (dst:=dst) (tab:=tab) hk (hg g (by simp)) h
   obtain ⟨L2,b1,b2,b3,b4⟩:=steps_nil hk gs (passStep p inv tw src dst tab st g) (λ g' hg'=>hg g' (by simp [hg'])) a4
   refine ⟨L1++L2,by rw [List.foldl_cons,b1,a1,wset_app],by rw [List.map_append,a2,b2,List.flatMap_cons]; exact (List.map_append ..).symm,λ e he=>?_,b4⟩
   rcases List.mem_append.1 he with he | he
   ·exact a3 e he
   ·exact b3 e he
end
theorem passW {m:Mm} (hL:m.L=[]) {p:Int} {l:List Ax} {inv:Bool} {s:Stp} {src dst tab:Int} (h0:(passV m p l inv s src dst tab).1.2=0) :
 ∃ nn d:Nat,nV l=nn/\dst=d/\d+nn+6<=m.W.length/\known p=true/\(passV m p l inv s src dst tab).2.W.length=m.W.length/\(allV (dimsOf l)).2=0/\1<=nn/\nn<=4096 /\
  (∀ i,i < d\/d+nn+6<=i->(passV m p l inv s src dst tab).2.W[i]? = m.W[i]?)/\∀ i,d<=i->i < d+nn+6->∃ v,(passV m p l inv s src dst tab).2.W[i]? = some v/\inP p v:=by
 have hs:stepV p l s=0:=by
  rcases (passV_facts (m:=m) (p:=p) (l:=l) (inv:=inv) (s:=s) (src:=src) (dst:=dst) (tab:=tab)) with ⟨h,_⟩ | h
  ·exact absurd h0 h
  ·exact h.2.2.2.2.2
 have hc:m.hasN src (nV l+6)=true/\m.hasN dst (nV l+6)=true/\m.hasN tab (tabV p l inv s).length=true:=by
  by_cases hc:m.hasN src (nV l+6)=true/\m.hasN dst (nV l+6)=true/\m.hasN tab (tabV p l inv s).length=true
  ·exact hc
  ·unfold passV at h0;rw [if_pos hs,if_neg hc] at h0;simp at h0
 have hk:=step_known hs
 obtain ⟨hg,_⟩:=stepV_inv hs
 obtain ⟨_,hal,_⟩:=grid_ok hg
 obtain ⟨k,dd,inner,nn,mm,hS⟩:=step_shape hs
 obtain ⟨gf1,gf2,gf3,gf4,gf5⟩:=grps_facts hS
 have hnn:=hS.nn
 have hn1:=hS.n1
 obtain ⟨r4,r5,r6⟩:=hasN_in hc.2.1
 obtain ⟨d,rfl⟩:=Int.eq_ofNat_of_zero_le r4
 obtain ⟨L,a1,a2,a3,a4⟩:=steps_nil (inv:=inv) (src:=src) (dst:=(d:Int)) (tab:=tab) hk (grpsV l s) (m,List.replicate (nV l).toNat 0) gf1 hL
 have hV:passV m p l inv s src d tab=((predG p inv s.tw (grpsV l s) (tabV p l inv s) (passG p inv s.tw src d tab m (nV l).toNat (grpsV l s)).2,0),(passG p inv s.tw src d tab m (nV l).toNat (grpsV l s)).1.wrs ((offs (d+nV l) [0,1,2,3,4,5]).zip (sixL (predG p inv s.tw (grpsV l s) (tabV p l inv s) (passG p inv s.tw src d tab m (nV l).toNat (grpsV l s)).2)))):=by unfold passV;rw [if_pos hs,if_pos hc]
 obtain ⟨u1,u2⟩:=predG_in (inv:=inv) (tw:=s.tw) (tab:=tabV p l inv s) (x:=(passG p inv s.tw src d tab m (nV l).toNat (grpsV l s)).2) hk (grpsV l s) (0,0) ⟨inP_zero hk,inP_zero hk⟩
 have u1:inP p (predG p inv s.tw (grpsV l s) (tabV p l inv s) (passG p inv s.tw src d tab m (nV l).toNat (grpsV l s)).2).1:=u1
 have u2:inP p (predG p inv s.tw (grpsV l s) (tabV p l inv s) (passG p inv s.tw src d tab m (nV l).toNat (grpsV l s)).2).2:=u2
 have a1:(passG p inv s.tw src d tab m (nV l).toNat (grpsV l s)).1.W=wset m.W L:=a1
 have a4:(passG p inv s.tw src d tab m (nV l).toNat (grpsV l s)).1.L=[]:=a4
 rw [hV]
 dsimp only
 generalize predG p inv s.tw (grpsV l s) (tabV p l inv s) (passG p inv s.tw src d tab m (nV l).toNat (grpsV l s)).2=Q at u1 u2 ⊢
 generalize passG p inv s.tw src d tab m (nV l).toNat (grpsV l s)=PG at a1 a4 ⊢
 rw [wrs_nil _ _ a4,a1]
 dsimp only
 rw [<- wset_app]
 have hmem:∀ e∈L++(offs ((d:Int)+nV l) [0,1,2,3,4,5]).zip (sixL Q),(d<=e.1.toNat/\e.1.toNat < d+nn+6)/\inP p e.2:=by
  intro e he
  rcases List.mem_append.1 he with he | he
  ·refine ⟨?_,a3 e he⟩
   have : e.1∈L.map (·.1):=List.mem_map_of_mem he
   rw [a2] at this
   obtain ⟨i,hi,hx⟩:=List.mem_map.1 this
   have:=List.mem_range.1 (gf3.mem_iff.1 hi)
   rw [<- hx]; omega
  ·have hm:=List.of_mem_zip he
   obtain ⟨i,hi,hx⟩:=List.mem_map.1 hm.1
   have hi5:i<=5:=by simp only [List.mem_cons,List.not_mem_nil,or_false] at hi;omega
   refine ⟨by rw [<- hx,hnn]; omega,?_⟩
   have : e.2=Q.1\/e.2=Q.2:=by
    have:=hm.2
    simp only [sixL,List.mem_cons,List.not_mem_nil,or_false] at this;omega
   rcases this with h | h <;> rw [h] <;> assumption
 refine ⟨nn,d,hnn,rfl,by omega,hk,wset_len _ _,hal,by omega,by omega,λ i hi=>?_,λ i hi1 hi2=>?_⟩
 ·exact wset_other _ _ i λ e he=>by have:=(hmem e he).1;omega
 ·refine wset_in _ _ i (by omega) (λ e he=>(hmem e he).2) (.inl ?_)
  by_cases hc2:i < d+nn
  ·have hin:(i-d)∈(grpsV l s).flatMap GrN.o:=gf3.mem_iff.2 (List.mem_range.2 (by omega))
   have : ((d:Int)+((i-d:Nat):Int))∈L.map (·.1):=by rw [a2]; exact List.mem_map_of_mem hin
   obtain ⟨e,he,hx⟩:=List.mem_map.1 this
   exact ⟨e,List.mem_append_left _ he,by rw [hx]; omega⟩
  ·have : ∀ j (hj:j < 6),∃ e∈(offs ((d:Int)+nV l) [0,1,2,3,4,5]).zip (sixL Q),e.1=(d:Int)+nV l+(j:Nat):=by
    intro j hj
    have hl:j < ((offs ((d:Int)+nV l) [0,1,2,3,4,5]).zip (sixL Q)).length:=by simp [sixL]; omega
    refine ⟨_,List.getElem_mem hl,?_⟩
    rw [List.getElem_zip]
    dsimp only
    rw [List.getElem_map]
    have : ([0,1,2,3,4,5]:List Nat)[j]'(by simpa using hj)=j:=by
     rcases (show j=0\/j=1\/j=2\/j=3\/j=4\/j=5 by omega) with rfl | rfl | rfl | rfl | rfl | rfl <;> rfl
    rw [this]
   obtain ⟨e,he,hx⟩:=this (i-d-nn) (by omega)
   exact ⟨e,List.mem_append_right _ he,by rw [hx,hnn]; omega⟩
theorem wset_getD {W:List Int} {l:List (Int×Int)} {i:Nat} (h:∀ e∈l,e.1.toNat≠i):(wset W l).getD i 0=W.getD i 0:=by
 rw [List.getD_eq_getElem?_getD,wset_other l W i h,List.getD_eq_getElem?_getD]
theorem zip_self {α:Type} (f:Nat->α):∀ l:List Nat,l.zip (l.map f)=l.map λ i=>(i,f i)
 | [] => rfl
 | a :: l => by simp [zip_self f l]
section
variable {p:Int} {inv tw:Bool} {src dst tab:Int}
theorem steps_met (hk:known p=true) {X:Nat->Int} {n:Nat} (hdis:∀ i o:Nat,i < n->o < n->(dst+(o:Int)).toNat≠(src+(i:Int)).toNat):∀ (gs:List GrN) (st:Mm×List Int),(∀ g∈gs,g.ok tw)->(∀ g∈gs,∀ i∈g.i,i < n)->(∀ g∈gs,∀ i∈g.o,i < n)->st.1.L=[]->(∀ i:Nat,i < n->st.1.W.getD (src+(i:Int)).toNat 0=X i) ->
 (gs.foldl (passStep p inv tw src dst tab) st).2=scat st.2 ((gs.flatMap GrN.i).map λ i=>(i,red p (X i)))
 | [], st, _, _, _, _, _ => rfl
 | g :: gs, st, hg, hi, ho, hL, hX => by
   obtain ⟨L,a1,a2,a3,a4⟩:=step_nil (inv:=inv) (src:=src) (dst:=dst) (tab:=tab) hk (hg g (by simp)) hL
   have e2:(passStep p inv tw src dst tab st g).2=scat st.2 (g.i.map λ i=>(i,red p (X i))):=by
    unfold passStep
    dsimp only
    rw [rds_nil _ _ hL]
    dsimp only
    rw [List.map_map,List.map_map,zip_self]
    congr 1
    apply List.map_congr_left
    intro i hi'
    simp only [Function.comp]
    rw [hX i (hi g (by simp) i hi')]
   have hW:∀ i:Nat,i < n->(passStep p inv tw src dst tab st g).1.W.getD (src+(i:Int)).toNat 0=X i:=λ i hin=>by
    rw [a1,wset_getD,hX i hin]
    intro e he
    have : e.1∈L.map (·.1):=List.mem_map_of_mem he
    rw [a2] at this
    obtain ⟨o,ho',hx⟩:=List.mem_map.1 this
    rw [<- hx]
    exact hdis i o hin (ho g (by simp) o ho')
   rw [List.foldl_cons,steps_met hk hdis gs _ (λ g' h'=>hg g' (by simp [h'])) (λ g' h'=>hi g' (by simp [h'])) (λ g' h'=>ho g' (by simp [h'])) a4 hW,e2,List.flatMap_cons,List.map_append,scat_app]
end
theorem scat_whole (f:Nat->Int) {l:List Nat} {n:Nat} (h:l.Perm (List.range n)):scat (List.replicate n 0) (l.map λ i=>(i,f i))=(List.range n).map f:=by
 apply List.ext_getElem?
 intro i
 by_cases hi:i < n
 ·have hmem:i∈l:=h.mem_iff.2 (List.mem_range.2 hi)
  have hnd:((l.map λ i=>(i,f i)).map (·.1)).Nodup:=by
   rw [List.map_map]
   have : ((λ x:Nat×Int=>x.1) ∘ λ i=>(i,f i))=id:=rfl
   rw [this,List.map_id]
   exact h.symm.nodup List.nodup_range
  have:=scat_at (l.map λ i=>(i,f i)) (List.replicate n 0) hnd (i,f i) (List.mem_map.2 ⟨i,hmem,rfl⟩) (by simpa using hi)
  rw [this,List.getElem?_map,List.getElem?_range hi]; rfl
 ·rw [List.getElem?_eq_none (by rw [scat_len]; simpa using hi),List.getElem?_eq_none (by simpa using hi)]
theorem passS {m:Mm} (hL:m.L=[]) {p:Int} {l:List Ax} {inv:Bool} {s:Stp} {src dst tab:Int} (h0:(passV m p l inv s src dst tab).1.2=0) (hd:dst+nV l+6<=src\/src+nV l+6<=dst) :
 ∃ nn d sr:Nat,nV l=nn/\dst=d/\src=sr/\d+nn+6<=m.W.length/\sr+nn+6<=m.W.length/\known p=true/\stepV p l s=0/\1<=nn/\nn<=4096 /\
  (passV m p l inv s src dst tab).2.W.length=m.W.length /\
  (passV m p l inv s src dst tab).1.1=predG p inv s.tw (grpsV l s) (tabV p l inv s) (((m.W.drop sr).take nn).map (red p)) /\
  ((passV m p l inv s src dst tab).2.W.drop (d+nn)).take 6=sixL (passV m p l inv s src dst tab).1.1:=by
 have hs:stepV p l s=0:=by
  rcases (passV_facts (m:=m) (p:=p) (l:=l) (inv:=inv) (s:=s) (src:=src) (dst:=dst) (tab:=tab)) with ⟨h,_⟩ | h
  ·exact absurd h0 h
  ·exact h.2.2.2.2.2
 have hc:m.hasN src (nV l+6)=true/\m.hasN dst (nV l+6)=true/\m.hasN tab (tabV p l inv s).length=true:=by
  by_cases hc:m.hasN src (nV l+6)=true/\m.hasN dst (nV l+6)=true/\m.hasN tab (tabV p l inv s).length=true
  ·exact hc
  ·unfold passV at h0;rw [if_pos hs,if_neg hc] at h0;simp at h0
 have hk:=step_known hs
 obtain ⟨k,dd,inner,nn,mm,hS⟩:=step_shape hs
 obtain ⟨gf1,gf2,gf3,gf4,gf5⟩:=grps_facts hS
 have hnn:=hS.nn
 have hn1:=hS.n1
 obtain ⟨r4,r5,r6⟩:=hasN_in hc.2.1
 obtain ⟨s4,s5,s6⟩:=hasN_in hc.1
 obtain ⟨d,rfl⟩:=Int.eq_ofNat_of_zero_le r4
 obtain ⟨sr,rfl⟩:=Int.eq_ofNat_of_zero_le s4
 obtain ⟨L,a1,a2,a3,a4⟩:=steps_nil (inv:=inv) (src:=(sr:Int)) (dst:=(d:Int)) (tab:=tab) hk (grpsV l s) (m,List.replicate (nV l).toNat 0) gf1 hL
 have hi:∀ g∈grpsV l s,∀ i∈g.i,i < nn:=λ g hg i hi=>List.mem_range.1 (gf2.mem_iff.1 (List.mem_flatMap.2 ⟨g,hg,hi⟩))
 have ho:∀ g∈grpsV l s,∀ i∈g.o,i < nn:=λ g hg i hi=>List.mem_range.1 (gf3.mem_iff.1 (List.mem_flatMap.2 ⟨g,hg,hi⟩))
 have met:=steps_met (inv:=inv) (tw:=s.tw) (src:=(sr:Int)) (dst:=(d:Int)) (tab:=tab) hk (X:=λ i=>m.W.getD (sr+i) 0) (n:=nn) (λ i o hi ho=>by rw [hnn] at hd;omega) (grpsV l s) (m,List.replicate (nV l).toNat 0) gf1 hi ho hL (λ i hin=>by
  dsimp only
  rw [show ((sr:Int)+(i:Int)).toNat=sr+i by omega])
 have en:(nV l).toNat=nn:=by rw [hnn]; rfl
 dsimp only at met
 have whole:=scat_whole (λ i=>red p (m.W.getD (sr+i) 0)) gf2
 rw [en] at met
 rw [whole] at met
 have hx:(List.range nn).map (λ i=>red p (m.W.getD (sr+i) 0))=((m.W.drop sr).take nn).map (red p):=by
  apply List.ext_getElem
  ·simp;omega
  ·intro i h1 h2
   simp at h1
   rw [List.getElem_map,List.getElem_map,List.getElem_take,List.getElem_drop,List.getElem_range,List.getD_eq_getElem?_getD,List.getElem?_eq_getElem (by omega)]
   rfl
 rw [hx] at met
 have hV:passV m p l inv s sr d tab=((predG p inv s.tw (grpsV l s) (tabV p l inv s) (passG p inv s.tw sr d tab m (nV l).toNat (grpsV l s)).2,0),(passG p inv s.tw sr d tab m (nV l).toNat (grpsV l s)).1.wrs ((offs (d+nV l) [0,1,2,3,4,5]).zip (sixL (predG p inv s.tw (grpsV l s) (tabV p l inv s) (passG p inv s.tw sr d tab m (nV l).toNat (grpsV l s)).2)))):=by unfold passV;rw [if_pos hs,if_pos hc]
 have a1:(passG p inv s.tw sr d tab m (nV l).toNat (grpsV l s)).1.W=wset m.W L:=a1
 have a4:(passG p inv s.tw sr d tab m (nV l).toNat (grpsV l s)).1.L=[]:=a4
 have met:(passG p inv s.tw sr d tab m nn (grpsV l s)).2=((m.W.drop sr).take nn).map (red p):=met
 rw [hV]
 dsimp only
 rw [en] at a1 a4 ⊢
 rw [met]
 generalize hQ:predG p inv s.tw (grpsV l s) (tabV p l inv s) (((m.W.drop sr).take nn).map (red p))=Q
 generalize passG p inv s.tw sr d tab m nn (grpsV l s)=PG at a1 a4 ⊢
 rw [wrs_nil _ _ a4,a1]
 dsimp only
 refine ⟨nn,d,sr,hnn,rfl,rfl,by omega,by omega,hk,hs,by omega,by omega,by rw [wset_len,wset_len],hQ.symm,?_⟩
 have hl:(wset m.W L).length=m.W.length:=wset_len _ _
 generalize wset m.W L=W1 at hl
 rw [hnn]
 have eo:offs ((d:Int)+(nn:Int)) [0,1,2,3,4,5]=[((d+nn:Nat):Int),((d+nn+1:Nat):Int),((d+nn+2:Nat):Int),((d+nn+3:Nat):Int),((d+nn+4:Nat):Int),((d+nn+5:Nat):Int)]:=by
  simp [offs] <;> omega
 rw [eo]
 unfold sixL wset
 simp only [List.zip_cons_cons,List.zip_nil_right,List.foldl_cons,List.foldl_nil,Int.toNat_natCast]
 apply List.ext_getElem?
 intro i
 by_cases h6:i < 6
 ·rw [List.getElem?_take,if_pos h6,List.getElem?_drop]
  rcases (show i=0\/i=1\/i=2\/i=3\/i=4\/i=5 by omega) with rfl | rfl | rfl | rfl | rfl | rfl <;> simp only [List.getElem?_set,List.length_set] <;> simp <;> omega
 ·rw [List.getElem?_eq_none (by simp;omega),List.getElem?_eq_none (by simp;omega)]
theorem rds_alike:∀ (l:List Int) {m o:Mm},m.acc=o.acc->(m.rds l).1=(o.rds l).1/\(m.rds l).2.acc=(o.rds l).2.acc
 | [], m, o, h => ⟨rfl, h⟩
 | a :: l, m, o, h => by
   have e:m.rd a=o.rd a:=by unfold Mm.rd;rw [h]
   rw [Mm.rds,Mm.rds,e]; exact ⟨rfl,rfl⟩
theorem wrs_same {l:List (Int×Int)} (hl:l≠[]) {m o:Mm} (h:m.acc=o.acc):m.wrs l=o.wrs l:=by
 cases l with
 | nil => exact absurd rfl hl
 | cons x l =>
   have e:m.wr x.1 x.2=o.wr x.1 x.2:=by unfold Mm.wr;rw [h]
   rw [Mm.wrs,Mm.wrs,e]
theorem wrs_alike (l:List (Int×Int)) {m o:Mm} (h:m.acc=o.acc):(m.wrs l).acc=(o.wrs l).acc:=by
 cases l with
 | nil => exact h
 | cons x l => rw [wrs_same (by simp) h]
section
variable {p:Int} {inv tw:Bool} {src dst tab:Int}
theorem step_alike {g:GrN} {st su:Mm×List Int} (h1:st.1.acc=su.1.acc) (h2:st.2=su.2) :
 (passStep p inv tw src dst tab st g).1.acc=(passStep p inv tw src dst tab su g).1.acc/\(passStep p inv tw src dst tab st g).2=(passStep p inv tw src dst tab su g).2:=by
 unfold passStep
 obtain ⟨a1,a2⟩:=rds_alike (offs src g.i) h1
 obtain ⟨b1,b2⟩:=rds_alike (offs tab g.f) a2
 dsimp only
 rw [a1,b1,h2]
 exact ⟨wrs_alike _ b2,rfl⟩
theorem steps_alike:∀ (gs:List GrN) {st su:Mm×List Int},st.1.acc=su.1.acc->st.2=su.2 ->
 (gs.foldl (passStep p inv tw src dst tab) st).1.acc=(gs.foldl (passStep p inv tw src dst tab) su).1.acc/\(gs.foldl (passStep p inv tw src dst tab) st).2=(gs.foldl (passStep p inv tw src dst tab) su).2
 | [], st, su, h1, h2 => ⟨h1, h2⟩
 | g :: gs, st, su, h1, h2 => by
   obtain ⟨a1,a2⟩:=step_alike (p:=p) (inv:=inv) (tw:=tw) (src:=src) (dst:=dst) (tab:=tab) (g:=g) h1 h2
   rw [List.foldl_cons,List.foldl_cons]
   exact steps_alike gs a1 a2
theorem steps_none:∀ (gs:List GrN) {st:Mm×List Int},st.1.L=[]->(gs.foldl (passStep p inv tw src dst tab) st).1.L=[]
 | [], st, h => h
 | g :: gs, st, h => by
   rw [List.foldl_cons]
   refine steps_none gs ?_
   unfold passStep
   dsimp only
   have h1:(st.1.rds (offs src g.i)).2.L=[]:=by rw [rds_nil _ _ h]
   have h2:((st.1.rds (offs src g.i)).2.rds (offs tab g.f)).2.L=[]:=by rw [rds_nil _ _ h1]
   rw [wrs_nil _ _ h2]
end
theorem passV_alike {m o:Mm} (h:m.acc=o.acc) (ho:o.L=[]) {p:Int} {l:List Ax} {inv:Bool} {s:Stp} {src dst tab:Int} :
 (passV m p l inv s src dst tab).1=(passV o p l inv s src dst tab).1 /\
   (((passV m p l inv s src dst tab).2=(passV o p l inv s src dst tab).2/\(passV o p l inv s src dst tab).2.L=[])\/((passV m p l inv s src dst tab).2=m/\(passV o p l inv s src dst tab).2=o)):=by
 have hl:m.W.length=o.W.length:=by rw [<- m.acc_len,<- o.acc_len,h]
 have hN:∀ a n,m.hasN a n=o.hasN a n:=λ a n=>by unfold Mm.hasN;rw [hl]
 unfold passV
 by_cases hs:stepV p l s=0
 ·rw [if_pos hs,if_pos hs,hN,hN,hN]
  by_cases hc:o.hasN src (nV l+6)=true/\o.hasN dst (nV l+6)=true/\o.hasN tab (tabV p l inv s).length=true
  ·rw [if_pos hc,if_pos hc]
   obtain ⟨a1,a2⟩:=steps_alike (p:=p) (inv:=inv) (tw:=s.tw) (src:=src) (dst:=dst) (tab:=tab) (grpsV l s) (st:=(m,List.replicate (nV l).toNat 0)) (su:=(o,List.replicate (nV l).toNat 0)) h rfl
   have a3:=steps_none (p:=p) (inv:=inv) (tw:=s.tw) (src:=src) (dst:=dst) (tab:=tab) (grpsV l s) (st:=(o,List.replicate (nV l).toNat 0)) ho
   have a1:(passG p inv s.tw src dst tab m (nV l).toNat (grpsV l s)).1.acc=(passG p inv s.tw src dst tab o (nV l).toNat (grpsV l s)).1.acc:=a1
   have a2:(passG p inv s.tw src dst tab m (nV l).toNat (grpsV l s)).2=(passG p inv s.tw src dst tab o (nV l).toNat (grpsV l s)).2:=a2
   have a3:(passG p inv s.tw src dst tab o (nV l).toNat (grpsV l s)).1.L=[]:=a3
   dsimp only
   rw [a2]
   refine ⟨rfl,.inl ⟨wrs_same ?_ a1,by rw [wrs_nil _ _ a3]⟩⟩
   simp [sixL]
  ·rw [if_neg hc,if_neg hc]; exact ⟨rfl,.inr ⟨rfl,rfl⟩⟩
 ·rw [if_neg hs,if_neg hs]; exact ⟨rfl,.inr ⟨rfl,rfl⟩⟩
theorem ahead_alike {ws:List Int} {E:List Ev} {ah:Int} (h:∀ x∈E,x.ti<=0):Mm.acc ⟨ws,E,0,ah⟩=Mm.acc ⟨strike E ws,[],0,ah⟩:=by
 have h1:dueL 0 E=E:=by unfold dueL;rw [List.filter_eq_self]; intro x hx;simpa using h x hx
 have h2:lateL 0 E=[]:=by unfold lateL;rw [List.filter_eq_nil_iff]; intro x hx;simpa using h x hx
 unfold Mm.acc
 dsimp only
 rw [h1,h2]
 rfl
theorem ahead {ws:List Int} {E:List Ev} {ah:Int} (h:∀ x∈E,x.ti<=0) {p:Int} {l:List Ax} {inv:Bool} {s:Stp} {src dst tab:Int} :
 (passV ⟨ws,E,0,ah⟩ p l inv s src dst tab).1=(passV ⟨strike E ws,[],0,ah⟩ p l inv s src dst tab).1/\((passV ⟨ws,E,0,ah⟩ p l inv s src dst tab).2.nxt []).W=(passV ⟨strike E ws,[],0,ah⟩ p l inv s src dst tab).2.W:=by
 obtain ⟨h1,h2⟩:=passV_alike (ahead_alike (ws:=ws) (ah:=ah) h) rfl (p:=p) (l:=l) (inv:=inv) (s:=s) (src:=src) (dst:=dst) (tab:=tab)
 refine ⟨h1,?_⟩
 rcases h2 with ⟨e1,e2⟩ | ⟨e1,e2⟩
 ·rw [e1]; unfold Mm.nxt;dsimp only;rw [e2]; rfl
 ·rw [e1,e2]; rfl
theorem scat_cons (a:List Int) (e:Nat×Int) (l:List (Nat×Int)):scat a (e :: l)=scat (a.set e.1 e.2) l:=rfl
def runA (p:Int):List Int->Int
 | [] => 0
 | x :: l => addF p (runA p l) x
def runB (p:Int):List Int->Int×Int
 | [] => (0, 0)
 | x :: l => (addF p (runB p l).1 (addF p (runB p l).2 x), addF p (runB p l).2 x)
theorem runA_is {p:Int} (hk:known p=true):∀ l,runA p l=l.sum % p
 | [] => by simp [runA]
 | x :: l => by rw [runA, addF_eq hk, runA_is hk l, List.sum_cons, Int.emod_add_emod, Int.add_comm]
theorem csum_shift:∀ (l:List Int) (k:Nat),csum (λ i=>(i:Int)+1) (k+1) l=csum (λ i=>(i:Int)+1) k l+l.sum
 | [], k => by simp [csum]
 | x :: l, k => by
   simp only [csum,List.sum_cons]
   rw [csum_shift l (k+1),show ((k+1:Nat):Int)=(k:Int)+1 by omega,Int.mul_add,Int.mul_add,Int.mul_one]
   omega
theorem runB_is {p:Int} (hk:known p=true):∀ l,(runB p l).2=l.sum % p/\(runB p l).1=csum (λ i=>(i:Int)+1) 0 l % p
 | [] => by simp [runB, csum]
 | x :: l => by
   obtain ⟨h1,h2⟩:=runB_is hk l
   have e1:addF p (runB p l).2 x=(x+l.sum) % p:=by rw [addF_eq hk,h1,Int.emod_add_emod,Int.add_comm]
   refine ⟨by rw [runB,e1,List.sum_cons],?_⟩
   rw [runB,e1]
   dsimp only
   rw [addF_eq hk,h2,Int.emod_add_emod,Int.add_emod_emod]
   congr 1
   simp only [csum]
   rw [csum_shift l 0]
   simp;omega
theorem runs_are {p:Int} (hk:known p=true) (l:List Int):(runA p l,(runB p l).1)=sumsV p l:=by
 unfold sumsV;rw [runA_is hk,(runB_is hk l).2]
theorem drop_cons {α:Type} {l:List α} {j:Nat} (h:j < l.length):l.drop j=l[j] :: l.drop (j+1):=List.drop_eq_getElem_cons h
theorem sums1_w {C:FuncId->List Value->M Value} {S:St} {lb n c:Nat} {a:Option Addr} {l:List Int} {f:Value} (hn:n=l.length) (hb:n<=100000) {J:List Int->Int->St->Prop} (h0:J [] 0 S)
 (hk:∀ suf acc S',J suf acc S'->S'[lb]? = some (.cells [.slice a n c] 22 none)/\Ar S' a n 1 eU l)
 (hs:∀ suf acc x S',J suf acc S'->x∈l->WP (callV C f [vU acc,vU x]) S' λ v S''=>∃ acc',v=vU acc'/\J (x :: suf) acc' S'') :
 WP (gq2d C [f,.pointer (some ⟨lb,0,none⟩)]) S λ v S'=>∃ acc,v=vU acc/\J l acc S':=by
 rw [gq2d_eq]
 obtain ⟨k1,k2⟩:=hk _ _ _ h0
 simp only [wps,cell_blk k1,List.getElem?_cons_zero]
 refine wp_loop (λ st S' t=>∃ (j:Nat) (acc:Int),st=[vU acc,vI ((j:Int)-1)]/\j=t/\j<=n/\J (l.drop j) acc S') ?_ n _ _ ⟨n,0,?_,rfl,by omega,?_⟩
 rotate_left
 ·rw [wI_ (n:=(n:Int)-1) (by omega) (by omega)]
 ·rw [List.drop_eq_nil_of_le (by omega)]; exact h0
 rintro st S' _ ⟨j,acc,rfl,rfl,hj,hJ⟩
 obtain ⟨g1,g2⟩:=hk _ _ _ hJ
 simp only [wps]
 refine ⟨λ h3=>?_,λ h3=>?_⟩
 ·obtain ⟨i,rfl⟩:∃ i,j=i+1:=⟨j-1,by omega⟩
  have e1:((i+1:Nat):Int)-1=(i:Int):=by omega
  have hi:i < l.length:=by omega
  obtain ⟨x,rfl,c0⟩:=g2.getU (i:=i) hi
  rw [e1]
  simp only [wps,cell_blk g1,List.getElem?_cons_zero,Int.toNat_natCast,c0]
  refine ⟨by omega,(hs _ _ _ _ hJ (List.getElem_mem hi)).mono ?_⟩
  rintro _ S2 ⟨acc',rfl,hJ2⟩
  simp only [wps]
  rw [wI_ (n:=(i:Int)-1) (by omega) (by omega)]
  refine ⟨i,by omega,i,acc',rfl,rfl,by omega,?_⟩
  rw [drop_cons hi]; exact hJ2
 ·obtain rfl:j=0:=by omega
  exact ⟨acc,rfl,by simpa using hJ⟩
theorem runA_u {p:Int}:∀ l,inU (runA p l)
 | [] => ⟨by show (0 : Int) <= 0; omega, by show (0 : Int) < 18446744073709551616; omega⟩
 | x :: l => addF_u _ _ _
theorem runB_u {p:Int}:∀ l,inU (runB p l).1/\inU (runB p l).2
 | [] => ⟨⟨by show (0 : Int) <= 0; omega, by show (0 : Int) < 18446744073709551616; omega⟩, ⟨by show (0 : Int) <= 0; omega, by show (0 : Int) < 18446744073709551616; omega⟩⟩
 | x :: l => ⟨addF_u _ _ _, addF_u _ _ _⟩
set_option maxHeartbeats 1000000 in
theorem codesums_w {C:FuncId->List Value->M Value} {S:St} {p:Int} {a:Option Addr} {n c:Nat} {l:List Int} (hx:Ar S a n 1 eU l) (hb:n<=100000) (hi:∀ y∈l,inU y) :
 WP (gq2c C [vU p,.slice a n c]) S λ v S'=>v=vA [vU (runA p l),vU (runB p l).1]/\S <+: S':=by
 have hl:=hx.1
 rw [gq2c_eq]
 simp only [wps,List.append_assoc,List.cons_append,List.nil_append,List.length_append,List.length_cons,List.length_nil,Nat.zero_add,Nat.reduceAdd,Nat.add_assoc]
 generalize hY:S++[AObj.cells [vU p] 24 none,AObj.cells [.slice a n c] 22 none,AObj.cells [vU 0,vU 0] 218 none,AObj.cells [vU 0,vU 0] 218 none]=Y
 have hp:S <+: Y:=⟨_,hY⟩
 have y0:Y[S.length]? = some (AObj.cells [vU p] 24 none):=by rw [<- hY]; exact gA0
 have y1:Y[S.length+1]? = some (AObj.cells [.slice a n c] 22 none):=by rw [<- hY]; exact gA
 have y2:Y[S.length+2]? = some (AObj.cells [vU 0,vU 0] 218 none):=by rw [<- hY]; exact gA
 have y3:Y[S.length+3]? = some (AObj.cells [vU 0,vU 0] 218 none):=by rw [<- hY]; exact gA
 have hYl:Y.length=S.length+4:=by rw [<- hY]; simp
 have hx1:=hx.mono hp
 refine (sums1_w (n:=n) (c:=c) (a:=a) (l:=l) hl hb (J:=λ suf acc S'=>acc=runA p suf/\S'=Y) ⟨rfl,rfl⟩ ?_ ?_).mono ?_
 ·rintro suf acc S' ⟨_,rfl⟩; exact ⟨y1,hx1⟩
 ·rintro suf acc x S' ⟨rfl,rfl⟩ hxl
  have hx':∀ v w,callV (lookD [((221:Nat),gq2f)] (lookD [((220:Nat),gq2e)] C)) (.func (.func 220) (ar []) (ar [.pointer (some (ad S.length 0))])) [v,w]=gq2e [v,w,.pointer (some (ad S.length 0))]:=λ _ _=>rfl
  rw [hx',gq2e_eq]
  simp only [wps,cell_blk y0,List.getElem?_cons_zero,addF_w (runA_u _) (hi x hxl)]
  exact ⟨_,rfl,rfl⟩
 rintro _ S1 ⟨acc,rfl,rfl,rfl⟩
 simp only [wps,y3,List.drop_succ_cons,List.drop_zero]
 try refine ⟨by simp,?_⟩
 generalize hA:S1.set (S.length+3) (AObj.cells [vU (runA p l),vU 0] 218 none)=A
 have aL:A.length=S.length+4:=by rw [<- hA,List.length_set,hYl]
 have pA:S <+: A:=by rw [<- hA]; exact pre_set' hp (by omega)
 have a0:A[S.length]? = some (AObj.cells [vU p] 24 none):=by rw [<- hA,List.getElem?_set_ne (by omega)]; exact y0
 have a1:A[S.length+1]? = some (AObj.cells [.slice a n c] 22 none):=by rw [<- hA,List.getElem?_set_ne (by omega)]; exact y1
 have a2:A[S.length+2]? = some (AObj.cells [vU 0,vU 0] 218 none):=by rw [<- hA,List.getElem?_set_ne (by omega)]; exact y2
 have a3:A[S.length+3]? = some (AObj.cells [vU (runA p l),vU 0] 218 none):=by rw [<- hA,List.getElem?_set_self (by omega)]
 have pB:=List.prefix_append A [AObj.cells [vU 0] 24 none]
 have b5:=get_new (S:=A) (o:=AObj.cells [vU 0] 24 none)
 generalize hB:A++[AObj.cells [vU 0] 24 none]=B at pB b5 ⊢
 have b0:=pre_get pB a0
 have b1:=pre_get pB a1
 have b2:=pre_get pB a2
 have b3:=pre_get pB a3
 have hxB:=hx.mono (pA.trans pB)
 rw [aL] at b5
 rw [aL]
 have bL:S.length+4 < B.length:=pre_lt b5
 refine (sums1_w (n:=n) (c:=c) (a:=a) (l:=l) hl hb (J:=λ suf acc S'=>acc=(runB p suf).1/\B.length<=S'.length/\(∀ i,i < B.length->i≠S.length+4->S'[i]? = B[i]?)/\S'[S.length+4]? = some (AObj.cells [vU (runB p suf).2] 24 none)) ⟨rfl,Nat.le_refl _,λ _ _ _=>rfl,b5⟩ ?_ ?_).mono ?_
 ·rintro suf acc S' ⟨_,j1,j2,j3⟩
  refine ⟨by rw [j2 _ (by omega) (by omega)]; exact b1,?_⟩
  refine (Kp.ar (M:=[S.length+4]) ⟨j1,λ i h1 h2=>j2 i h1 (by simpa using h2)⟩ hxB λ hne y hy=>?_)
  have:=hx.low (λ x=>⟨_,rfl⟩) hne y hy
  simp;omega
 ·rintro suf acc x S' ⟨rfl,j1,j2,j3⟩ hxl
  have hx':∀ v w,callV (lookD [((221:Nat),gq2f)] (lookD [((220:Nat),gq2e)] C)) (.func (.func 221) (ar []) (ar [.pointer (some (ad S.length 0)),.pointer (some (ad (S.length+4) 0))])) [v,w]=gq2f [v,w,.pointer (some (ad S.length 0)),.pointer (some (ad (S.length+4) 0))]:=λ _ _=>rfl
  rw [hx',gq2f_eq]
  have c0:S'[S.length]? = some (AObj.cells [vU p] 24 none):=by rw [j2 _ (by omega) (by omega)]; exact b0
  have lt4:=pre_lt j3
  have c1:(List.set S' (S.length+4) (AObj.cells [vU (addF p (runB p suf).2 x)] 24 none))[S.length]? = some (AObj.cells [vU p] 24 none):=by rw [List.getElem?_set_ne (by omega)]; exact c0
  have c4:(List.set S' (S.length+4) (AObj.cells [vU (addF p (runB p suf).2 x)] 24 none))[S.length+4]? = some (AObj.cells [vU (addF p (runB p suf).2 x)] 24 none):=List.getElem?_set_self lt4
  simp only [wps,cell_blk c0,cell_blk j3,List.getElem?_cons_zero,addF_w (runB_u suf).2 (hi x hxl),j3,List.drop_succ_cons,List.drop_zero,List.drop_nil,cell_blk c1,cell_blk c4,addF_w (runB_u suf).1 (addF_u p (runB p suf).2 x)]
  exact ⟨_,rfl,rfl,by rw [List.length_set]; exact j1,λ i h1 h2=>by rw [List.getElem?_set_ne (Ne.symm h2)]; exact j2 i h1 h2,c4⟩
 rintro _ S2 ⟨acc,rfl,rfl,j1,j2,j3⟩
 have d3:S2[S.length+3]? = some (AObj.cells [vU (runA p l),vU 0] 218 none):=by rw [j2 _ (by omega) (by omega)]; exact b3
 have d2:S2[S.length+2]? = some (AObj.cells [vU 0,vU 0] 218 none):=by rw [j2 _ (by omega) (by omega)]; exact b2
 have pS:S <+: S2:=by
  rw [List.prefix_iff_getElem?]
  intro i hi
  have h1:=(pA.trans pB)
  rw [j2 _ (by omega) (by omega),pre_at h1 hi,List.getElem?_eq_getElem hi]
 have e1:splice [vU (runA p l),vU 0] 1 [vU (runB p l).1]=[vU (runA p l),vU (runB p l).1]:=rfl
 have l3:=pre_lt d3
 simp only [wps,d3,e1]
 try refine ⟨by simp,?_⟩
 generalize hD:S2.set (S.length+3) (AObj.cells [vU (runA p l),vU (runB p l).1] 218 none)=D
 have f3:D[S.length+3]? = some (AObj.cells [vU (runA p l),vU (runB p l).1] 218 none):=by rw [<- hD,List.getElem?_set_self l3]
 have f2:D[S.length+2]? = some (AObj.cells [vU 0,vU 0] 218 none):=by rw [<- hD,List.getElem?_set_ne (by omega)]; exact d2
 have pD:S <+: D:=by rw [<- hD]; exact pre_set' pS (by omega)
 have l2:=pre_lt f2
 have f4:(List.set D (S.length+2) (AObj.cells [vU (runA p l),vU (runB p l).1] 218 none))[S.length+2]? = some (AObj.cells [vU (runA p l),vU (runB p l).1] 218 none):=List.getElem?_set_self l2
 simp only [wps,cell_blk f3,f2,gcz,gcs,List.drop_succ_cons,List.drop_zero,List.drop_nil,cell_blk f4]
 exact pre_set' pD (by omega)
theorem codeSums_w {S:St} {p:Int} {a:Option Addr} {n c:Nat} {l:List Int} (hk:known p=true) (hx:Ar S a n 1 eU l) (hb:n<=4096) (hi:∀ y∈l,inU y) :
 WP (gq2a [vU p,.slice a n c]) S λ v S'=>v=vT [vA [vU (sumsV p l).1,vU (sumsV p l).2],vI 0]/\S <+: S':=by
 rw [gq2a_eq,<- runs_are hk]
 have hp:=List.prefix_append S [AObj.cells [vU 0,vU 0] 40 none]
 have z:=get_new (S:=S) (o:=AObj.cells [vU 0,vU 0] 40 none)
 simp only [wps,known_w,hk]
 generalize hY:S++[AObj.cells [vU 0,vU 0] 40 none]=Y at hp z ⊢
 refine ⟨λ e=>by omega,λ _=>?_⟩
 refine (codesums_w (C:=noC) (c:=c) (hx.mono hp) (by omega) hi).mono ?_
 rintro _ S1 ⟨rfl,k1⟩
 have z1:=pre_get k1 z
 have l1:=pre_lt z1
 have f4:(List.set S1 S.length (AObj.cells [vU (runA p l),vU (runB p l).1] 40 none))[S.length]? = some (AObj.cells [vU (runA p l),vU (runB p l).1] 40 none):=List.getElem?_set_self l1
 simp only [wps,z1,List.drop_succ_cons,List.drop_zero,List.drop_nil,cell_blk f4,gcz,gcs,Nat.reduceAdd]
 exact pre_set' (hp.trans k1) (Nat.le_refl _)
def tri (l:List Int):List Int:=l.flatMap λ x=>[x,x,x]
theorem tri_len:∀ l,(tri l).length=3*l.length
 | [] => rfl
 | x :: l => by unfold tri; rw [List.flatMap_cons, List.length_append]; have := tri_len l; unfold tri at this; rw [this]; simp; omega
theorem tri_get:∀ (l:List Int) (i:Nat),(tri l)[i]? = l[i / 3]?
 | [], i => by simp [tri]
 | x :: l, i => by
   have ih:=tri_get l (i-3)
   unfold tri at ih ⊢
   rw [List.flatMap_cons]
   rcases (show i=0\/i=1\/i=2\/3<=i by omega) with rfl | rfl | rfl | h
   ·rfl
   ·rfl
   ·rfl
   ·rw [List.getElem?_append_right (by simpa using h),show i / 3=(i-3) / 3+1 by omega,List.getElem?_cons_succ]
    exact ih
theorem tri_two (q:Int×Int):tri [q.1,q.2]=sixL q:=rfl
set_option maxHeartbeats 1000000 in
theorem voteput_w {S:St} {a:Option Addr} {n c:Nat} {l:List Int} (hx:Ar S a n 1 eU l) (hn:n<=1024) :
 WP (gq5o [.slice a n c]) S λ v S'=>∃ b,v=vT [.slice (some ⟨b,0,none⟩) (3*n) (3*n),vI 0]/\Nw S S' b (tri l):=by
 have hl:=hx.1
 rw [gq5o_eq]
 have e3:wI (3*(n:Int))=((3*n:Nat):Int):=by rw [wI_ (by omega) (by omega)]; omega
 simp only [wps,e3,zeroC_one,Int.toNat_natCast]
 refine ⟨λ h=>by omega,λ _=>⟨⟨by omega,by omega,by omega,rfl⟩,?_⟩⟩
 have tl:=tri_len l
 have pw:=List.prefix_append S [AObj.cells (List.replicate (3*n) (vU 0)) 24 none]
 have zw:=get_new (S:=S) (o:=AObj.cells (List.replicate (3*n) (vU 0)) 24 none)
 refine wp_loop (λ st S' m=>∃ j:Nat,st=[vN j]/\3*n-j=m/\j<=3*n/\S <+: S'/\S'[S.length]? = some (.cells (((tri l).take j).map (.int .u64)++List.replicate (3*n-j) (vU 0)) 24 none)) ?_ (3*n) _ _ ⟨0,rfl,rfl,by omega,pw,by rw [zw]; simp⟩
 rintro st S1 _ ⟨j,rfl,rfl,hj,k1,hb⟩
 simp only [wps]
 refine ⟨λ h3=>?_,λ h3=>?_⟩
 ·have hj':j < 3*n:=by omega
  have ed:wI ((j:Int).tdiv 3)=((j / 3:Nat):Int):=by
   rw [Int.tdiv_eq_ediv_of_nonneg (by omega),wI_ (by omega) (by omega)]; omega
  have hx1:=hx.mono k1
  obtain ⟨x,rfl,c0⟩:=hx1.getU (i:=j / 3) (by omega)
  have eg:(tri l)[j]'(by omega)=l[j / 3]'(by omega):=by
   have:=tri_get l j
   rw [List.getElem?_eq_getElem (by omega),List.getElem?_eq_getElem (by omega)] at this
   exact Option.some.inj this
  have hb0:=pre_lt hb
  rw [ed]
  simp only [wps,c0,Int.toNat_natCast,hb]
  rw [wI_ (n:=(j:Int)+1) (by omega) (by omega)]
  have hl1:((tri l).take j).length=j:=by simp;omega
  refine ⟨by omega,by rw [e3,Int.toNat_natCast]; omega,by simp;omega,3*n-(j+1),by omega,j+1,rfl,rfl,by omega,pre_set' k1 (Nat.le_refl _),?_⟩
  rw [List.getElem?_set_self hb0,splice_set (by simp;omega),List.set_append_right _ _ (by simp;omega),take_snoc (show j < (tri l).length by omega),eg]
  simp only [List.length_map,hl1,Nat.sub_self]
  rw [show 3*n-j=(3*n-(j+1))+1 by omega,List.replicate_succ,List.set_cons_zero,List.map_append]
  simp
 ·obtain rfl:j=3*n:=by omega
  rw [List.take_of_length_le (by omega),Nat.sub_self] at hb
  refine ⟨_,rfl,k1,Nat.le_refl _,none,?_⟩
  rw [hb]
  simp only [List.replicate_zero,List.append_nil]
  rw [List.map_eq_flatMap]; rfl
theorem bif_self_ad {b:Bool} {x:Addr}:(bif b then x else x)=x:=by cases b <;> rfl
set_option maxHeartbeats 1000000 in
theorem whole_w {S:St} {a:Option Addr} {n c:Nat} {l:List Int} {q:Int×Int} (hx:Ar S a n 1 eU l) (hn:n<=4096) :
 WP (gq2g [.slice a n c,vA [vU q.1,vU q.2]]) S λ v S'=>∃ b,v=vT [.slice (some ⟨b,0,none⟩) (n+6) (n+6),vI 0]/\Nw S S' b (l++sixL q):=by
 have hl:=hx.1
 rw [gq2g_eq]
 have e6:wI ((n:Int)+6)=((n+6:Nat):Int):=by rw [wI_ (by omega) (by omega)]; omega
 simp only [wps,e6,zeroC_one,Int.toNat_natCast,List.append_assoc,List.cons_append,List.nil_append,List.length_append,List.length_cons,List.length_nil,Nat.zero_add,Nat.reduceAdd,Nat.min_self]
 generalize hY:S++[AObj.cells [vU q.1,vU q.2] 218 none,AObj.cells (List.replicate (n+6) (vU 0)) 24 none]=Y
 have hp:S <+: Y:=⟨_,hY⟩
 have y0:Y[S.length]? = some (AObj.cells [vU q.1,vU q.2] 218 none):=by rw [<- hY]; exact gA0
 have y1:Y[S.length+1]? = some (AObj.cells (List.replicate (n+6) (vU 0)) 24 none):=by rw [<- hY]; exact gA
 refine ⟨⟨by omega,by omega,by omega,rfl⟩,?_⟩
 have hr:=wp_rdA (hx.mono hp) (λ _=>rfl) (Q:=λ xs S'=>xs=l.flatMap eU/\Y=S') ⟨rfl,rfl⟩
 rw [Nat.mul_one] at hr
 refine hr.mono ?_
 rintro _ _ ⟨rfl,rfl⟩
 have hfl:=flat_len (e:=eU) (w:=1) (λ _=>rfl) l
 refine ⟨_,_,_,y1,⟨by rw [List.length_replicate]; omega,eU_leaf l⟩,?_⟩
 generalize hA:Y.set (S.length+1) (AObj.cells (l.flatMap eU++List.drop (l.flatMap eU).length (List.replicate (n+6) (vU 0))) 24 none)=A
 have a0:A[S.length]? = some (AObj.cells [vU q.1,vU q.2] 218 none):=by rw [<- hA,List.getElem?_set_ne (by omega)]; exact y0
 have a1:A[S.length+1]? = some (AObj.cells (l.flatMap eU++List.replicate 6 (vU 0)) 24 none):=by
  rw [<- hA,List.getElem?_set_self (pre_lt y1),List.drop_replicate,hfl]; congr 4;omega
 have pA:S <+: A:=by rw [<- hA]; exact pre_set' hp (by omega)
 have ex:exactB (ad S.length 0) A=some ((),A):=by unfold exactB;simp only [ad]; rw [a0]
 refine ⟨_,_,ex,?_⟩
 simp only [bif_self_ad]
 have arq:Ar A (some (ad S.length 0)) 2 1 eU [q.1,q.2]:=Ar.blk (e:=eU) (l:=[q.1,q.2]) (w:=1) a0 (λ _ _=>rfl) rfl
 refine (voteput_w (c:=2) arq (by omega)).mono ?_
 rintro _ S1 ⟨b,rfl,hN⟩
 rw [tri_two] at hN
 have a11:=pre_get hN.p a1
 simp only [wps]
 have hr2:=wp_rdA hN.ar (λ _=>rfl) (Q:=λ xs S'=>xs=(sixL q).flatMap eU/\S1=S') ⟨rfl,rfl⟩
 rw [Nat.mul_one] at hr2
 refine hr2.mono ?_
 rintro _ _ ⟨rfl,rfl⟩
 have hf6:((sixL q).flatMap eU).length=6:=rfl
 refine wp_app_in (w:=1) a11 (by simp) (by rw [hf6,List.length_append,List.length_replicate]; omega) (eU_leaf _) ?_
 simp only [wps]
 refine ⟨S.length+1,rfl,pre_set' (pA.trans hN.p) (by omega),by omega,none,?_⟩
 rw [List.getElem?_set_self (pre_lt a11)]
 have hn1:n=(l.flatMap eU).length:=by omega
 have : splice (l.flatMap eU++List.replicate 6 (vU 0)) n ((sixL q).flatMap eU)=(l++sixL q).flatMap eU:=by
  unfold splice
  rw [hf6,hn1,List.take_left,List.drop_append,List.flatMap_append]
  simp
 rw [this]
theorem codePut_w {S:St} {p:Int} {a:Option Addr} {n c:Nat} {l:List Int} (hk:known p=true) (hx:Ar S a n 1 eU l) (h1:1<=n) (hn:n<=4096) (hi:∀ y∈l,inP p y) :
 WP (gq29 [vU p,.slice a n c]) S λ v S'=>∃ b,v=vT [.slice (some ⟨b,0,none⟩) (n+6) (n+6),vI 0]/\Nw S S' b (l++sixL (sumsV p l)):=by
 have hl:=hx.1
 have hin:=in_w (p:=p) (c:=c) hx (by omega)
 rw [inV_of hk hi] at hin
 rw [gq29_eq]
 unfold kq5t
 simp only [wps,known_w,hk,hin.wp]
 refine ⟨λ e=>by omega,λ _=>⟨λ e=>by omega,λ _=>?_⟩⟩
 refine (codesums_w (C:=noC) (c:=c) hx (by omega) (λ y hy=>inP_u hk (hi y hy))).mono ?_
 rintro _ S1 ⟨rfl,k1⟩
 simp only [wps]
 have hw:=whole_w (c:=c) (q:=sumsV p l) (hx.mono k1) hn
 rw [<- runs_are hk] at hw ⊢
 refine hw.mono ?_
 rintro _ S2 ⟨b,rfl,hN⟩
 simp only [wps]
 exact ⟨b,rfl,hN.base k1⟩
def shf (dst:Int) (e:Nat×Int):Int×Int:=(dst+(e.1:Int),e.2)
theorem zip_shf (dst:Int):∀ (o:List Nat) (v:List Int),(offs dst o).zip v=(o.zip v).map (shf dst)
 | [], v => rfl
 | a :: o, [] => by simp [offs]
 | a :: o, b :: v => by
   have:=zip_shf dst o v
   unfold offs at this ⊢
   rw [List.map_cons,List.zip_cons_cons,List.zip_cons_cons,List.map_cons,this]; rfl
section
variable {p:Int} {inv tw:Bool} {src dst tab:Int}
theorem steps_do (hk:known p=true) {x T:List Int} {n:Nat} (hr:∀ i < n,red p (x.getD i 0)=x.getD i 0) (hds:∀ i o:Nat,i < n->o < n->(dst+(o:Int)).toNat≠(src+(i:Int)).toNat) (hdt:∀ i o:Nat,i < T.length->o < n->(dst+(o:Int)).toNat≠(tab+(i:Int)).toNat) :
 ∀ (gs:List GrN) (st:Mm×List Int),(∀ g∈gs,g.ok tw)->(∀ g∈gs,∀ i∈g.i,i < n)->(∀ g∈gs,∀ i∈g.o,i < n)->(∀ g∈gs,∀ i∈g.f,i < T.length)->st.1.L=[]->(∀ i:Nat,i < n->st.1.W.getD (src+(i:Int)).toNat 0=x.getD i 0)->(∀ i:Nat,i < T.length->st.1.W.getD (tab+(i:Int)).toNat 0=T.getD i 0) ->
 (gs.foldl (passStep p inv tw src dst tab) st).1.W=wset st.1.W ((gs.flatMap (gpairs p inv tw T x)).map (shf dst))/\(gs.foldl (passStep p inv tw src dst tab) st).1.L=[]
 | [], st, _, _, _, _, hL, _, _ => ⟨rfl, hL⟩
 | g :: gs, st, hg, hi, ho, hf, hL, hX, hT => by
   have e:(passStep p inv tw src dst tab st g).1.W=wset st.1.W ((gpairs p inv tw T x g).map (shf dst))/\(passStep p inv tw src dst tab st g).1.L=[]:=by
    unfold passStep gpairs
    dsimp only
    have h1:(st.1.rds (offs src g.i)).2.L=[]:=by rw [rds_nil _ _ hL]
    have h2:((st.1.rds (offs src g.i)).2.rds (offs tab g.f)).2.L=[]:=by rw [rds_nil _ _ h1]
    rw [wrs_nil _ _ h2]
    dsimp only
    rw [rds_nil _ _ h1]
    dsimp only
    rw [rds_nil _ _ hL]
    dsimp only
    refine ⟨?_,rfl⟩
    rw [zip_shf]
    have q1:((offs src g.i).map (λ a=>st.1.W.getD a.toNat 0)).map (red p)=g.i.map λ i=>x.getD i 0:=by
     unfold offs
     rw [List.map_map,List.map_map]
     apply List.map_congr_left
     intro i hi'
     simp only [Function.comp]
     rw [hX i (hi g (by simp) i hi'),hr i (hi g (by simp) i hi')]
    have q2:(offs tab g.f).map (λ a=>st.1.W.getD a.toNat 0)=g.f.map λ i=>T.getD i 0:=by
     unfold offs
     rw [List.map_map]
     apply List.map_congr_left
     intro i hi'
     simp only [Function.comp]
     rw [hT i (hf g (by simp) i hi')]
    rw [q1,q2]
   have key:∀ a:Nat,(∀ o:Nat,o < n->(dst+(o:Int)).toNat≠a)->(passStep p inv tw src dst tab st g).1.W.getD a 0=st.1.W.getD a 0:=λ a ha=>by
    rw [e.1,wset_getD]
    intro y hy
    obtain ⟨z,hz,rfl⟩:=List.mem_map.1 hy
    have : z.1∈(gpairs p inv tw T x g).map (·.1):=List.mem_map_of_mem hz
    rw [gpairs_fst (hg g (by simp))] at this
    exact ha z.1 (ho g (by simp) _ this)
   obtain ⟨b1,b2⟩:=steps_do hk hr hds hdt gs (passStep p inv tw src dst tab st g) (λ g' h'=>hg g' (by simp [h'])) (λ g' h'=>hi g' (by simp [h'])) (λ g' h'=>ho g' (by simp [h'])) (λ g' h'=>hf g' (by simp [h'])) e.2
    (λ i hi'=>by rw [key _ (λ o ho'=>hds i o hi' ho')]; exact hX i hi') (λ i hi'=>by rw [key _ (λ o ho'=>hdt i o hi' ho')]; exact hT i hi')
   rw [List.foldl_cons]
   refine ⟨?_,b2⟩
   rw [b1,e.1,List.flatMap_cons,List.map_append,wset_app]
end
theorem wset_shf {d n:Nat}:∀ (l:List (Nat×Int)) (W:List Int),d+n<=W.length->(∀ e∈l,e.1 < n)->((wset W (l.map (shf (d:Int)))).drop d).take n=scat ((W.drop d).take n) l
 | [], W, _, _ => rfl
 | e :: l, W, hW, h => by
   have he:=h e (by simp)
   have e1:(shf (d:Int) e).1.toNat=d+e.1:=by show ((d:Int)+(e.1:Int)).toNat=_;omega
   have e2:wset W ((e :: l).map (shf (d:Int)))=wset (W.set (d+e.1) e.2) (l.map (shf (d:Int))):=by
    rw [List.map_cons,wset,List.foldl_cons,e1]; rfl
   rw [e2,wset_shf l (W.set (d+e.1) e.2) (by simpa using hW) (λ e' h'=>h e' (by simp [h'])),scat_cons]
   congr 1
   apply List.ext_getElem?
   intro i
   by_cases hi:i < n
   ·rw [List.getElem?_take,if_pos hi,List.getElem?_drop,List.getElem?_set,List.getElem?_set]
    by_cases hc:e.1=i
    ·rw [if_pos (by omega),if_pos hc,if_pos (by omega),if_pos (by simp;omega)]
    ·rw [if_neg (by omega),if_neg hc,List.getElem?_take,if_pos hi,List.getElem?_drop]
   ·rw [List.getElem?_eq_none (by simp;omega),List.getElem?_eq_none (by simp;omega)]
theorem scat_full {n:Nat} {l:List (Nat×Int)} (h:(l.map (·.1)).Perm (List.range n)) {a b:List Int} (ha:a.length=n) (hb:b.length=n):scat a l=scat b l:=by
 apply List.ext_getElem?
 intro i
 by_cases hi:i < n
 ·have hm:i∈l.map (·.1):=h.mem_iff.2 (List.mem_range.2 hi)
  obtain ⟨e,he,rfl⟩:=List.mem_map.1 hm
  have hnd:(l.map (·.1)).Nodup:=h.nodup_iff.2 List.nodup_range
  rw [scat_at l a hnd e he (by omega),scat_at l b hnd e he (by omega)]
 ·rw [List.getElem?_eq_none (by rw [scat_len]; omega),List.getElem?_eq_none (by rw [scat_len]; omega)]
theorem take_more {α:Type} (l:List α) (a b:Nat):l.take (a+b)=l.take a++(l.drop a).take b:=by
 induction a generalizing l with
 | zero => simp
 | succ a ih =>
   cases l with
   | nil=>simp
   | cons x l=>rw [show a+1+b=(a+b)+1 by omega]; simp [ih]
theorem red_in {p y:Int} (hk:known p=true) (h:inP p y):red p y=y:=by
 unfold red;rw [if_pos hk]; exact Int.emod_eq_of_lt h.1 h.2
theorem passQ {m:Mm} (hL:m.L=[]) {p:Int} {l:List Ax} {inv:Bool} {s:Stp} {sr d tb n:Nat} {x:List Int} (hst:stepV p l s=0) (hn:nV l=(n:Int))
 (h1:sr+n+6<=m.W.length) (h2:d+n+6<=m.W.length) (h3:tb+(tabV p l inv s).length<=m.W.length)
 (hx:(m.W.drop sr).take n=x) (hi:∀ y∈x,inP p y) (hT:(m.W.drop tb).take (tabV p l inv s).length=tabV p l inv s)
 (hd:d+n+6<=sr\/sr+n+6<=d) (ht:d+n+6<=tb\/tb+(tabV p l inv s).length<=d) :
 (passV m p l inv s sr d tb).1=(sumsV p (doG p inv s.tw n (grpsV l s) (tabV p l inv s) x),0) /\
 ((passV m p l inv s sr d tb).2.W.drop d).take (n+6)=doG p inv s.tw n (grpsV l s) (tabV p l inv s) x++sixL (sumsV p (doG p inv s.tw n (grpsV l s) (tabV p l inv s) x)):=by
 have hk:=step_known hst
 obtain ⟨k,dd,inner,nn,mm,hS⟩:=step_shape hst
 have hnn:=hS.nn
 obtain rfl:nn=n:=by omega
 obtain ⟨gf1,gf2,gf3,gf4,gf5⟩:=grps_facts hS
 have hTl:=tab_length (p:=p) (inv:=inv) hS
 have hc:m.hasN sr (nV l+6)=true/\m.hasN d (nV l+6)=true/\m.hasN tb (tabV p l inv s).length=true:=by
  rw [hn]
  refine ⟨?_,?_,?_⟩ <;> unfold Mm.hasN <;> apply decide_eq_true <;> omega
 have hV:passV m p l inv s sr d tb=((predG p inv s.tw (grpsV l s) (tabV p l inv s) (passG p inv s.tw sr d tb m (nV l).toNat (grpsV l s)).2,0),(passG p inv s.tw sr d tb m (nV l).toNat (grpsV l s)).1.wrs ((offs (d+nV l) [0,1,2,3,4,5]).zip (sixL (predG p inv s.tw (grpsV l s) (tabV p l inv s) (passG p inv s.tw sr d tb m (nV l).toNat (grpsV l s)).2)))):=by unfold passV;rw [if_pos hst,if_pos hc]
 have h0:(passV m p l inv s sr d tb).1.2=0:=by rw [hV]
 obtain ⟨w,d',sr',e1,e2,e3,_,_,_,_,_,_,hWl,hq,hsix⟩:=passS hL h0 (by rw [hn]; omega)
 obtain rfl:w=nn:=by omega
 obtain rfl:d'=d:=by omega
 obtain rfl:sr'=sr:=by omega
 have hxl:x.length=w:=by rw [<- hx]; simp;omega
 have hmr:x.map (red p)=x:=by
  conv=>rhs;rw [<- List.map_id x]
  exact List.map_congr_left λ y hy=>red_in hk (hi y hy)
 rw [hx,hmr,pred_is hk (n:=w) gf1 gf3] at hq
 have hx1:(passV m p l inv s sr' d' tb).1=(sumsV p (doG p inv s.tw w (grpsV l s) (tabV p l inv s) x),0):=Prod.ext hq h0
 refine ⟨hx1,?_⟩
 rw [hq] at hsix
 rw [take_more,List.drop_drop,hsix]
 congr 1
 rw [hV]
 obtain ⟨b1,b2⟩:=steps_do (inv:=inv) (tw:=s.tw) (src:=(sr':Int)) (dst:=(d':Int)) (tab:=(tb:Int)) hk (x:=x) (T:=tabV p l inv s) (n:=w)
  (λ i hi'=>by rw [List.getD_eq_getElem?_getD,List.getElem?_eq_getElem (by omega)]; exact red_in hk (hi _ (List.getElem_mem _)))
  (λ i o hi' ho=>by omega) (λ i o hi' ho=>by omega) (grpsV l s) (m,List.replicate (nV l).toNat 0) gf1
  (λ g hg i hi=>List.mem_range.1 (gf2.mem_iff.1 (List.mem_flatMap.2 ⟨g,hg,hi⟩)))
  (λ g hg i hi=>List.mem_range.1 (gf3.mem_iff.1 (List.mem_flatMap.2 ⟨g,hg,hi⟩)))
  (λ g hg i hi=>by rw [hTl]; exact gf4 g hg i hi) hL
  (λ i hi'=>by
    dsimp only
    rw [<- hx,List.getD_eq_getElem?_getD,List.getD_eq_getElem?_getD,List.getElem?_take,if_pos hi',List.getElem?_drop,show ((sr':Int)+(i:Int)).toNat=sr'+i by omega])
  (λ i hi'=>by
    dsimp only
    conv=>rhs;rw [<- hT]
    rw [List.getD_eq_getElem?_getD,List.getD_eq_getElem?_getD,List.getElem?_take,if_pos hi',List.getElem?_drop,show ((tb:Int)+(i:Int)).toNat=tb+i by omega])
 have b1:(passG p inv s.tw sr' d' tb m (nV l).toNat (grpsV l s)).1.W=wset m.W (((grpsV l s).flatMap (gpairs p inv s.tw (tabV p l inv s) x)).map (shf d')):=b1
 have b2:(passG p inv s.tw sr' d' tb m (nV l).toNat (grpsV l s)).1.L=[]:=b2
 dsimp only
 generalize predG p inv s.tw (grpsV l s) (tabV p l inv s) (passG p inv s.tw sr' d' tb m (nV l).toNat (grpsV l s)).2=Q
 generalize passG p inv s.tw sr' d' tb m (nV l).toNat (grpsV l s)=PG at b1 b2 ⊢
 rw [wrs_nil _ _ b2,b1]
 dsimp only
 have hall:=gpairs_all (p:=p) (inv:=inv) (tab:=tabV p l inv s) (x:=x) gf1
 have hwin:=wset_shf (d:=d') (n:=w) ((grpsV l s).flatMap (gpairs p inv s.tw (tabV p l inv s) x)) m.W (by omega) (λ e he=>by
  have : e.1∈((grpsV l s).flatMap (gpairs p inv s.tw (tabV p l inv s) x)).map (·.1):=List.mem_map_of_mem he
  rw [hall] at this
  exact List.mem_range.1 (gf3.mem_iff.1 this))
 have hdo:((wset m.W (((grpsV l s).flatMap (gpairs p inv s.tw (tabV p l inv s) x)).map (shf d'))).drop d').take w=doG p inv s.tw w (grpsV l s) (tabV p l inv s) x:=by
  rw [hwin]
  exact scat_full (n:=w) (by rw [hall]; exact gf3) (by simp;omega) (by simp)
 rw [<- hdo]
 apply List.ext_getElem?
 intro i
 by_cases hi':i < w
 ·rw [List.getElem?_take,if_pos hi',List.getElem?_drop,List.getElem?_take,if_pos hi',List.getElem?_drop]
  apply wset_other
  intro e he
  obtain ⟨j,hj,hx⟩:=List.mem_map.1 (List.of_mem_zip he).1
  rw [<- hx,hn]; omega
 ·rw [List.getElem?_eq_none (by simp;omega),List.getElem?_eq_none (by simp;omega)]
abbrev rowO (at_:Int) (n:Nat):List Int:=offs at_ (List.range n)
def Fx.st (f:Fx):Int×Int:=(f.ad,f.good)
def scrubV (m:Mm) (p n at_:Int):((List Fx×(Int×Int))×Int)×Mm:=
 if known p=false then ((([],(0,0)),2),m)
 else if n < 1\/4096 < n\/m.hasN at_ (n+6)=false then ((([],(0,0)),1),m)
 else
  let r:=m.rds (rowO at_ (n.toNat+6))
  let f:=fixV p r.1
  if f.2≠0 then ((([],(0,0)),10),r.2)
  else (((f.1.2.map (Fx.up at_),(f.1.1.getD n.toNat 0,f.1.1.getD (n.toNat+3) 0)),0),r.2.wrs ((f.1.2.map (Fx.up at_)).map Fx.st))
def layV (m:Mm) (l:List Int) (at_:Int):Int×Mm:=if m.hasN at_ l.length=true then (0,m.wrs ((rowO at_ l.length).zip l)) else (1,m)
def holdsV (m:Mm) (l:List Int) (at_:Int):(Bool×Int)×Mm:=if m.hasN at_ l.length=true then ((decide ((m.rds (rowO at_ l.length)).1=l),0),(m.rds (rowO at_ l.length)).2) else ((false,1),m)
def agreesV (p:Int) (s:Int×Int) (l:List Int):Bool:=known p && decide (l.length<=4096) && decide (sumsV p l=s) && decide (∀ y∈l,y < p)
def soundV (m:Mm) (p n at_:Int) (s:Int×Int):(Bool×Int)×Mm:=
 if known p=false then ((false,2),m)
 else if n < 1\/4096 < n\/m.hasN at_ n=false then ((false,1),m)
 else ((agreesV p s (m.rds (rowO at_ n.toNat)).1,0),(m.rds (rowO at_ n.toNat)).2)
def turnV (m:Mm) (p:Int) (l:List Ax) (inv:Bool) (s:Stp) (src dst tab:Int):((Bool×List Fx)×Int)×Mm:=
 if stepV p l s≠0 then (((false,[]),stepV p l s),m)
 else if m.hasN src (nV l+6)=true/\m.hasN dst (nV l+6)=true/\m.hasN tab (tabV p l inv s).length=true then
  let a:=scrubV m p (nV l) src
  if a.1.2≠0 then (((false,[]),0),a.2)
  else
   let r:=passV (layV a.2 (tabV p l inv s) tab).2 p l inv s src dst tab
   let b:=soundV r.2 p (nV l) src a.1.1.2
   let c:=holdsV b.2 (tabV p l inv s) tab
   let d:=soundV c.2 p (nV l) dst r.1.1
   (((b.1.1 && c.1.1 && d.1.1,a.1.1.1),0),d.2)
 else (((false,[]),1),m)
def outV (m:Mm) (p n at_:Int):((List Int×(Bool×List Fx))×Int)×Mm:=
 let a:=scrubV m p n at_
 if a.1.2=10 then ((([],(false,[])),0),a.2)
 else if a.1.2≠0 then ((([],(false,[])),a.1.2),a.2)
 else
  let r:=a.2.rds (rowO at_ n.toNat)
  if agreesV p a.1.1.2 r.1=true then (((r.1,(true,a.1.1.1)),0),r.2)
  else ((([],(false,a.1.1.1)),0),r.2)
inductive One (e:Ev) (I:List Int) (m:Mm):Prop
 | pend (hL : m.L = [e]) (hW : m.W = I)
 | done (hL : m.L = []) (hW : m.W = hit I e)
 | gone (hL : m.L = []) (hW : m.W = I)
abbrev gI (I:List Int) (A:List Int):List Int:=A.map λ a=>I.getD a.toNat 0
theorem hit_len (I:List Int) (e:Ev):(hit I e).length=I.length:=strike_len [e] I
theorem rowO_len (a:Int) (n:Nat):(rowO a n).length=n:=by simp [rowO,offs]
theorem gI_row {I:List Int} {d n:Nat} (h:d+n<=I.length):gI I (rowO (d:Int) n)=(I.drop d).take n:=by
 apply List.ext_getElem
 ·simp [gI,rowO,offs]; omega
 ·intro i h1 h2
  simp [gI,rowO,offs] at h1
  unfold gI rowO offs
  rw [List.getElem_map,List.getElem_map,List.getElem_range,List.getElem_take,List.getElem_drop,List.getD_eq_getElem?_getD,show ((d:Int)+(i:Int)).toNat=d+i by omega,List.getElem?_eq_getElem (by omega)]
  rfl
theorem win_set {I:List Int} {d n a:Nat} (v:Int):((I.set a v).drop d).take n=if d<=a/\a < d+n then ((I.drop d).take n).set (a-d) v else (I.drop d).take n:=by
 by_cases hc:d<=a/\a < d+n
 ·rw [if_pos hc]
  apply List.ext_getElem?
  intro i
  by_cases hi:i < n
  ·rw [List.getElem?_take,if_pos hi,List.getElem?_drop,List.getElem?_set,List.getElem?_set,List.length_take,List.length_drop]
   by_cases ha:a=d+i
   ·rw [if_pos ha,if_pos (show a-d=i by omega)]
    by_cases hl:a < I.length
    ·rw [if_pos hl,if_pos (by omega)]
    ·rw [if_neg hl,if_neg (by omega)]
   ·rw [if_neg ha,if_neg (show ¬ a-d=i by omega),List.getElem?_take,if_pos hi,List.getElem?_drop]
  ·rw [List.getElem?_eq_none (by simp;omega),List.getElem?_eq_none (by simp;omega)]
 ·rw [if_neg hc]
  apply List.ext_getElem?
  intro i
  by_cases hi:i < n
  ·rw [List.getElem?_take,if_pos hi,List.getElem?_drop,List.getElem?_set,if_neg (by omega),List.getElem?_take,if_pos hi,List.getElem?_drop]
  ·rw [List.getElem?_eq_none (by simp;omega),List.getElem?_eq_none (by simp;omega)]
theorem sx_get (q:Int×Int) (x:List Int):(x++sx q).getD x.length 0=q.1/\(x++sx q).getD (x.length+3) 0=q.2:=by
 constructor
 ·rw [List.getD_eq_getElem?_getD,List.getElem?_append_right (Nat.le_refl _),Nat.sub_self]; rfl
 ·rw [List.getD_eq_getElem?_getD,List.getElem?_append_right (by omega),show x.length+3-x.length=3 by omega]; rfl
section
variable {p:Int} {inv tw:Bool} {src dst tab:Int}
end
theorem u64_of {p y:Int} (hk:known p=true) (h:inP p y):Go.Proofs.YtpecnaacgkgjmaaGreatDoor.u64r y:=by
 have:=known_pos hk
 exact ⟨h.1,by have:=h.2;omega⟩
theorem sums_in {p:Int} (hk:known p=true) (y:List Int):inP p (sumsV p y).1/\inP p (sumsV p y).2:=⟨inP_mod hk _,inP_mod hk _⟩
theorem thr_two (a b c:Int):(thrV a b c).2=0\/thrV a b c=((0,[]),10):=by
 unfold thrV
 split
 ·split <;> exact .inl rfl
 ·split
  ·exact .inl rfl
  ·split
   ·exact .inl rfl
   ·exact .inr rfl
theorem thr_at (a b c:Int):(thrV a b c).1.2=[]\/∃ k:Nat,k < 3/\(thrV a b c).1.2=[k]:=by
 unfold thrV
 split
 ·split
  ·exact .inl rfl
  ·exact .inr ⟨0,by omega,rfl⟩
 ·split
  ·exact .inr ⟨1,by omega,rfl⟩
  ·split
   ·exact .inr ⟨2,by omega,rfl⟩
   ·exact .inl rfl
theorem told_w {S:St} {c0 c1 c2:Int}:WP (gq5q [vA [vU c0,vU c1,vU c2]]) S λ v S'=>S <+: S'/\∃ a n c,v=vT [vU (thrV c0 c1 c2).1.1,.slice a n c,vB (decide ((thrV c0 c1 c2).2=0))]/\Ar S' a n 1 eI ((thrV c0 c1 c2).1.2.map λ k:Nat=>(k:Int))/\∀ y,a=some y->S.length<=y.block:=by
 rw [gq5q_eq]
 have hp:=List.prefix_append S [AObj.cells [vU c0,vU c1,vU c2] 311 none]
 have z:=get_new (S:=S) (o:=AObj.cells [vU c0,vU c1,vU c2] 311 none)
 simp only [wps]
 generalize hY:S++[AObj.cells [vU c0,vU c1,vU c2] 311 none]=Y at hp z ⊢
 have w1:wI (0+1)=1:=rfl
 have w2:wI (0+2)=2:=rfl
 have w3:wI (1+1)=2:=rfl
 have w4:wI (1+2)=3:=rfl
 have w5:wI (2+1)=3:=rfl
 have w6:wI (2+2)=4:=rfl
 have t1:(1:Int).tmod 3=1:=rfl
 have t2:(2:Int).tmod 3=2:=rfl
 have t3:(3:Int).tmod 3=0:=rfl
 have t4:(4:Int).tmod 3=1:=rfl
 have d1:(λ k:Nat=>(k:Int)) 0=0:=rfl
 have fin:∀ {S':St} {x:Int} {a:Option Addr} {n:Nat} {l:List Nat},Y <+: S'->thrV c0 c1 c2=((x,l),0)->Ar S' a n 1 eI (l.map λ k:Nat=>(k:Int))->(∀ y,a=some y->S.length<=y.block)->S <+: S'/\∃ a' n' c',vT [vU x,.slice a n n,vB true]=vT [vU (thrV c0 c1 c2).1.1,.slice a' n' c',vB (decide ((thrV c0 c1 c2).2=0))]/\Ar S' a' n' 1 eI ((thrV c0 c1 c2).1.2.map λ k:Nat=>(k:Int))/\∀ y,a'=some y->S.length<=y.block:=by
  intro S' x a n l k e h hy
  rw [e]
  exact ⟨hp.trans k,a,n,n,rfl,h,hy⟩
 have hlen:=hp.length_le
 have nw:∀ y,some (ad Y.length 0)=some y->S.length<=y.block:=λ y e=>by cases e;exact hlen
 have one:∀ k:Nat,Ar (Y++[AObj.cells [vI (k:Int)] 3 none]) (some (ad Y.length 0)) 1 1 eI (([k]:List Nat).map λ k:Nat=>(k:Int)):=λ k=>Ar.blk (l:=([(k:Int)]:List Int)) get_new (λ _ _=>rfl) rfl
 refine wp_round ?_
 simp only [wps,w1,w2,t1,t2,cell_blk z]
 refine ⟨λ _=>⟨by decide,by decide,λ h1=>?_,λ h1=>⟨by decide,λ h2=>?_,λ h2=>?_⟩⟩,λ e=>absurd e (by decide)⟩
 ·refine wp_round ?_
  simp only [wps,w3,w4,t2,t3,cell_blk z]
  refine ⟨λ _=>⟨by decide,by decide,λ h2=>?_,λ h2=>⟨by decide,λ h3=>?_,λ h3=>?_⟩⟩,λ e=>absurd e (by decide)⟩
  ·refine wp_round ?_
   simp only [wps,w5,w6,t3,t4,cell_blk z]
   refine ⟨λ _=>⟨by decide,by decide,λ h3=>?_,λ h3=>⟨by decide,λ h4=>?_,λ h4=>?_⟩⟩,λ e=>absurd e (by decide)⟩
   ·refine wp_round ?_
    simp only [wps]
    refine ⟨λ e=>absurd e (by decide),λ _=>?_⟩
    have e:thrV c0 c1 c2=((0,[]),10):=by unfold thrV;rw [if_neg h1,if_neg h2,if_neg h3]
    rw [e]
    exact ⟨hp,none,0,0,rfl,.nil,λ y e=>by cases e⟩
   ·exact absurd h3 (by omega)
   ·exact fin (List.prefix_append _ _) (by unfold thrV;rw [if_neg h1,if_neg h2,if_pos h3]) (one 2) nw
  ·exact absurd h3 (by omega)
  ·exact fin (List.prefix_append _ _) (by unfold thrV;rw [if_neg h1,if_pos h2]) (one 1) nw
 ·exact fin (List.prefix_refl _) (by unfold thrV;rw [if_pos h1,if_pos (by omega)]) .nil (λ y e=>by cases e)
 ·exact fin (List.prefix_append _ _) (by unfold thrV;rw [if_pos h1,if_neg (by omega)]) (one 0) nw
theorem vthree_w {S:St} {a:Option Addr} {c:Nat} {c0 c1 c2:Int} (h:Ar S a 3 1 eU [c0,c1,c2]):WP (gq5p [.slice a 3 c]) S λ v S'=>S <+: S'/\∃ a n c,v=vT [vU (thrV c0 c1 c2).1.1,.slice a n c,vI (thrV c0 c1 c2).2]/\Ar S' a n 1 eI ((thrV c0 c1 c2).1.2.map λ k:Nat=>(k:Int))/\∀ y,a=some y->S.length<=y.block:=by
 rw [gq5p_eq]
 obtain ⟨x,rfl,x0⟩:=h.getU (i:=0) (by simp)
 have x1:=cellU h 1 (v:=c1) rfl
 have x2:=cellU h 2 (v:=c2) rfl
 have x0:S.cell (x.add 0)=some (vU c0):=x0
 rw [add_zero_] at x0
 simp only [wps,x0,x1,x2]
 refine ⟨λ e=>absurd rfl e,λ _=>?_⟩
 refine told_w.mono ?_
 rintro _ S1 ⟨k1,a,n,c',rfl,ha,hn⟩
 simp only [wps]
 refine ⟨λ e=>?_,λ e=>?_⟩
 ·have:=thr_two c0 c1 c2
  rcases this with h | h
  ·rw [h] at e;simp at e
  ·rw [h]; exact ⟨k1,none,0,0,rfl,.nil,λ y e=>by cases e⟩
 ·rw [e]
  exact ⟨k1,a,n,c',rfl,ha,hn⟩
abbrev eFx (f:Fx):List Value:=[vI f.ad,vU f.bad,vU f.good]
def OwnF (L:Nat) (S':St) (a:Option Addr) (out:List Fx):Prop:=(a=none/\out=[])\/∃ b,a=some ⟨b,0,none⟩/\L<=b/\S'[b]? = some (.cells (out.flatMap eFx) 78 (some 3))
theorem OwnF.ar {L:Nat} {S':St} {a:Option Addr} {out:List Fx} (h:OwnF L S' a out):Ar S' a out.length 3 eFx out:=by
 rcases h with ⟨rfl,rfl⟩ | ⟨b,rfl,_,hb⟩
 ·exact .nil
 ·exact Ar.blk hb (λ _ _=>rfl) rfl
theorem OwnF.pre {L:Nat} {S S':St} {a:Option Addr} {out:List Fx} (h:OwnF L S a out) (k:S <+: S'):OwnF L S' a out:=h.imp id λ ⟨b,h1,h2,h3⟩=>⟨b,h1,h2,pre_get k h3⟩
theorem OwnF.lt {L:Nat} {S:St} {a:Option Addr} {out:List Fx} (h:OwnF L S a out):∀ i,a=some ⟨i,0,none⟩->L<=i/\i < S.length:=by
 intro i hi
 rcases h with ⟨e,_⟩ | ⟨b,e,e2,hb⟩
 ·rw [hi] at e;cases e
 ·rw [hi] at e;injection e with e;injection e with e;subst e;exact ⟨e2,pre_lt hb⟩
theorem OwnF.keep {L:Nat} {S S':St} {a:Option Addr} {out:List Fx} (h:OwnF L S a out) (k:∀ i,a=some ⟨i,0,none⟩->S'[i]? = S[i]?):OwnF L S' a out:=by
 rcases h with h | ⟨b,e1,e2,e3⟩
 ·exact .inl h
 ·exact .inr ⟨b,e1,e2,by rw [k b e1]; exact e3⟩
theorem wp_pushF {L:Nat} {S:St} {a:Option Addr} {n:Nat} {out:List Fx} {y:Fx} {Q:Sl->St->Prop} (h:OwnF L S a out) (hn:n=out.length) (hsz:n<=1000000) (hL:L<=S.length)
 (q:∀ b S',S.length<=b->b < S'.length->S.length<=S'.length->(∀ i,i < S.length->a≠some ⟨i,0,none⟩->S'[i]? = S[i]?)->OwnF L S' (some ⟨b,0,none⟩) (out++[y])->Q ⟨some ⟨b,0,none⟩,n+1,n+1⟩ S') :
 WP (rdN (some (ad S.length 0)) 3) (S++[AObj.cells [vI y.ad,vU y.bad,vU y.good] 78 none]) λ xs S1=>WP (appM 78 3 24 a n n 1 xs) S1 Q:=by
 refine rdN_ar (get_new (S:=S) (o:=AObj.cells [vI y.ad,vU y.bad,vU y.good] 78 none)) rfl ?_
 have own':(a=none/\n=0/\out.flatMap eFx=[])\/∃ b,a=some ⟨b,0,none⟩/\(S++[AObj.cells [vI y.ad,vU y.bad,vU y.good] 78 none])[b]? = some (.cells (out.flatMap eFx) 78 (some 3)):=by
  rcases h with ⟨e1,e2⟩ | ⟨b,e1,_,e3⟩
  ·exact .inl ⟨e1,by rw [hn,e2]; rfl,by rw [e2]; rfl⟩
  ·exact .inr ⟨b,e1,get_add e3⟩
 refine wp_appN own' (by rw [flat_len (e:=eFx) (w:=3) (λ _=>rfl)]; omega) (by omega) (by omega) (by omega) rfl ?_
 intro S' h1 h2 h3
 simp only [List.length_append,List.length_singleton] at h1 h2 h3 ⊢
 refine q _ S' (by omega) (by omega) (by omega) (λ i hi hne=>by rw [h2 i (by omega) hne,List.getElem?_append_left hi]) (.inr ⟨_,rfl,by omega,?_⟩)
 rw [h3,List.flatMap_append]; rfl
theorem pre_of_keep {S S1 S2:St} (h:S <+: S1) (hl:S1.length<=S2.length) (k:∀ i,i < S.length->S2[i]? = S1[i]?):S <+: S2:=by
 have hs:=h.length_le
 refine ⟨S2.drop S.length,?_⟩
 have : S2.take S.length=S:=by
  apply List.ext_getElem?
  intro i
  rw [List.getElem?_take]
  split
  ·rename_i hi;rw [k i hi,pre_at h hi]
  ·rw [List.getElem?_eq_none (by omega)]
 conv=>rhs;rw [<- List.take_append_drop S.length S2,this]
abbrev uN (t:List Int) (j:Nat):(Int×List Nat)×Int:=thrV (t.getD (3*j) 0) (t.getD (3*j+1) 0) (t.getD (3*j+2) 0)
def fxU (t:List Int) (j:Nat):List Fx:=(List.range j).flatMap λ i=>fxAt t (3*i) (uN t i).1.1 (uN t i).1.2
def outU (t:List Int) (j:Nat):List Int:=(List.range j).map (λ i=>(uN t i).1.1)++List.replicate (2-j) 0
theorem fxU_succ (t:List Int) (j:Nat):fxU t (j+1)=fxU t j++fxAt t (3*j) (uN t j).1.1 (uN t j).1.2:=by
 unfold fxU;rw [List.range_succ,List.flatMap_append]; simp
theorem outU_succ (t:List Int) {j:Nat} (h:j < 2):(outU t j).set j (uN t j).1.1=outU t (j+1):=by
 rcases (show j=0\/j=1 by omega) with rfl | rfl <;> rfl
theorem outU_len (t:List Int) {j:Nat} (h:j<=2):(outU t j).length=2:=by
 unfold outU;simp;omega
theorem cells_bad {t:List Int} {j:Nat} (h:j < 2) (e:(uN t j).2≠0):(cellsV t).2≠0:=by
 unfold cellsV
 rcases (show j=0\/j=1 by omega) with rfl | rfl
 ·rw [if_pos (show (thrV (t.getD 0 0) (t.getD 1 0) (t.getD 2 0)).2≠0 from e)]; decide
 ·by_cases h0:(thrV (t.getD 0 0) (t.getD 1 0) (t.getD 2 0)).2≠0
  ·rw [if_pos h0]; decide
  ·rw [if_neg h0,if_pos (show (thrV (t.getD 3 0) (t.getD 4 0) (t.getD 5 0)).2≠0 from e)]; decide
theorem cells_good {t:List Int} (h:∀ i < 2,(uN t i).2=0):cellsV t=((((uN t 0).1.1,(uN t 1).1.1),fxU t 2),0):=by
 have h0:(thrV (t.getD 0 0) (t.getD 1 0) (t.getD 2 0)).2=0:=h 0 (by omega)
 have h1:(thrV (t.getD 3 0) (t.getD 4 0) (t.getD 5 0)).2=0:=h 1 (by omega)
 unfold cellsV
 rw [if_neg (λ h=>h h0),if_neg (λ h=>h h1)]
 have e:fxU t 2=fxAt t 0 (uN t 0).1.1 (uN t 0).1.2++fxAt t 3 (uN t 1).1.1 (uN t 1).1.2:=by rw [fxU_succ,fxU_succ]; rfl
 rw [e]
set_option maxHeartbeats 1000000 in
theorem cells6_w {S:St} {a:Option Addr} {c:Nat} {t:List Int} (h:Ar S a 6 1 eU t) (hc:6<=c) :
 WP (gq5n [.slice a 6 c]) S λ v S'=>S <+: S'/\(((cellsV t).2=0/\∃ ob fa,v=vT [.slice (some ⟨ob,0,none⟩) 2 2,.slice fa (cellsV t).1.2.length (cellsV t).1.2.length,vI 0]/\Ar S' (some ⟨ob,0,none⟩) 2 1 eU [(cellsV t).1.1.1,(cellsV t).1.1.2]/\OwnF S.length S' fa (cellsV t).1.2) \/
  ((cellsV t).2≠0/\v=vT [.slice none 0 0,.slice none 0 0,vI 10])):=by
 rw [gq5n_eq]
 have tl:t.length=6:=h.1.symm
 have e1:((6:Nat):Int).tmod 3=0:=rfl
 have e2:wI (((6:Nat):Int).tdiv 3)=2:=rfl
 simp only [wps,e1,e2,zeroC_one]
 refine ⟨λ e=>absurd e (by decide),λ _=>⟨by decide,?_⟩⟩
 have pw:=List.prefix_append S [AObj.cells (List.replicate 2 (vU 0)) 24 none]
 have zw:=get_new (S:=S) (o:=AObj.cells (List.replicate 2 (vU 0)) 24 none)
 refine wp_loop (λ st S' m=>∃ (j:Nat) (fa:Option Addr),st=[.slice fa (fxU t j).length (fxU t j).length,vN j]/\2-j=m/\j<=2/\S <+: S'/\OwnF (S.length+1) S' fa (fxU t j)/\S'[S.length]? = some (.cells ((outU t j).flatMap eU) 24 none)/\∀ i < j,(uN t i).2=0) ?_ 2 _ _ ⟨0,none,rfl,rfl,by omega,pw,.inl ⟨rfl,rfl⟩,by rw [zw]; rfl,λ i hi=>by omega⟩
 rintro st S1 _ ⟨j,fa,rfl,rfl,hj,k1,hf,hb,hok⟩
 simp only [wps]
 refine ⟨λ h3=>?_,λ h3=>?_⟩
 ·have hj':j=0\/j=1:=by omega
  have ht:(t.drop (3*j)).take 3=[t.getD (3*j) 0,t.getD (3*j+1) 0,t.getD (3*j+2) 0]:=by
   obtain ⟨a,b,c,d,e,f,rfl⟩:=six_of tl
   rcases hj' with rfl | rfl <;> rfl
  have x1:wI ((j:Int)*3)=((3*j:Nat):Int):=by rw [wI_ (by omega) (by omega)]; omega
  have x2:wI (wI ((j:Int)+1)*3)=((3*j+3:Nat):Int):=by rw [wI_ (n:=(j:Int)+1) (by omega) (by omega),wI_ (by omega) (by omega)]; omega
  rw [x1,x2]
  refine cut_ar (h.mono k1) (λ _=>rfl) (by decide) (by omega) (by omega) (by omega) hc ?_
  intro u k hk hu
  rw [show (((3*j+3:Nat):Int)).toNat-(((3*j:Nat):Int)).toNat=3 by omega,Int.toNat_natCast] at hu
  rw [show (((3*j+3:Nat):Int)).toNat-(((3*j:Nat):Int)).toNat=3 by omega]
  rw [ht] at hu
  dsimp only
  refine (vthree_w (c:=k) hu).mono ?_
  rintro _ S2 ⟨k2,at',an,ac,rfl,hat,hnew⟩
  simp only [wps]
  refine ⟨λ e=>?_,λ e=>?_⟩
  ·rcases thr_two (t.getD (3*j) 0) (t.getD (3*j+1) 0) (t.getD (3*j+2) 0) with q | q
   ·exact absurd q e
   ·refine ⟨k1.trans k2,.inr ⟨cells_bad (j:=j) (by omega) e,by rw [q]⟩⟩
  ·have hb2:=pre_get k2 hb
   have hol:=outU_len t hj
   have hfl:=flat_len (e:=eU) (w:=1) (λ _=>rfl) (outU t j)
   have hput:=(Ob.refl (e:=eU) hb2).put (w:=1) (λ _=>rfl) (i:=j) (by omega) (uN t j).1.1
   rw [Nat.mul_one] at hput
   have l1:=k1.length_le
   have lb:=pre_lt hb
   simp only [wps,hb2,Int.toNat_natCast]
   refine ⟨by rw [e2]; omega,by omega,?_⟩
   have p3:S <+: S2.set S.length (AObj.cells (splice ((outU t j).flatMap eU) j [vU (uN t j).1.1]) 24 none):=pre_set' (k1.trans k2) (Nat.le_refl _)
   have f3:OwnF (S.length+1) (S2.set S.length (AObj.cells (splice ((outU t j).flatMap eU) j [vU (uN t j).1.1]) 24 none)) fa (fxU t j):=(hf.pre k2).keep λ i hi=>by
    have:=hf.lt i hi
    rw [List.getElem?_set_ne (by omega)]
   have a3:Ar (S2.set S.length (AObj.cells (splice ((outU t j).flatMap eU) j [vU (uN t j).1.1]) 24 none)) at' an 1 eI ((uN t j).1.2.map λ k:Nat=>(k:Int)):=hat.keepL λ y hy=>by
    have:=hnew y hy
    rw [List.getElem?_set_ne (by omega)]
   have b3:=hput.at_
   rw [outU_succ t (by omega)] at b3
   have b3:(S2.set S.length (AObj.cells (splice ((outU t j).flatMap eU) j [vU (uN t j).1.1]) 24 none))[S.length]? = some (.cells ((outU t (j+1)).flatMap eU) 24 none):=b3
   generalize S2.set S.length (AObj.cells (splice ((outU t j).flatMap eU) j [vU (uN t j).1.1]) 24 none)=S3 at p3 f3 a3 b3 ⊢
   have fs:=fxU_succ t j
   have ok':∀ i < j+1,(uN t i).2=0:=λ i hi=>by
    rcases (show i < j\/i=j by omega) with h | rfl
    ·exact hok i h
    ·exact e
   rcases thr_at (t.getD (3*j) 0) (t.getD (3*j+1) 0) (t.getD (3*j+2) 0) with q | ⟨k,hk3,q⟩
   ·have q:(uN t j).1.2=[]:=q
    rw [q] at a3 fs
    have fs:fxU t (j+1)=fxU t j:=by rw [fs]; simp [fxAt]
    have an0:an=0:=a3.1
    subst an0
    refine wp_round ?_
    simp only [wps]
    refine ⟨λ e=>by omega,λ _=>?_⟩
    rw [wI_ (n:=(j:Int)+1) (by omega) (by omega)]
    exact ⟨2-(j+1),by omega,j+1,fa,by rw [fs]; rfl,rfl,by omega,p3,by rw [fs]; exact f3,b3,ok'⟩
   ·have q:(uN t j).1.2=[k]:=q
    rw [q] at a3 fs
    have an0:an=1:=a3.1
    subst an0
    refine wp_round ?_
    obtain ⟨x,rfl,c0⟩:=(h.mono p3).getU (i:=3*j+k) (by omega)
    obtain ⟨y,rfl,c1⟩:=a3.getI (i:=0) (by simp)
    have c1:St.cell S3 y=some (vI (k:Int)):=by have c1:St.cell S3 (y.add 0)=some (vI (k:Int)):=c1;rwa [add_zero_] at c1
    have y1:wI (((3*j:Nat):Int)+(k:Int))=((3*j+k:Nat):Int):=by rw [wI_ (by omega) (by omega)]; omega
    have c0:St.cell S3 (x.add (3*j+k))=some (vU (t.getD (3*j+k) 0)):=by
     rw [List.getD_eq_getElem?_getD,List.getElem?_eq_getElem (by omega)]; exact c0
    simp only [wps,c1,y1,c0,Int.toNat_natCast]
    have fl:(fxU t j).length<=100:=by
     unfold fxU
     rcases hj' with rfl | rfl
     ·simp
     ·simp [fxAt]
      rcases thr_at (t.getD 0 0) (t.getD 1 0) (t.getD 2 0) with q | ⟨k,_,q⟩
      ·have q:(uN t 0).1.2=[]:=q
       rw [q]; simp
      ·have q:(uN t 0).1.2=[k]:=q
       rw [q]; simp
    have l3:=p3.length_le
    have lb3:=pre_lt b3
    refine ⟨λ _=>⟨by omega,by omega,?_⟩,λ e=>by omega⟩
    refine wp_pushF (y:=⟨((3*j+k:Nat):Int),t.getD (3*j+k) 0,(uN t j).1.1⟩) f3 rfl (by omega) (by omega) ?_
    intro b S4 h1 h2 h3 h4 h5
    have w1:wI (0+1)=1:=rfl
    simp only [wps,w1]
    refine wp_round ?_
    simp only [wps]
    refine ⟨λ e=>by omega,λ _=>?_⟩
    rw [wI_ (n:=(j:Int)+1) (by omega) (by omega)]
    have fs:fxU t (j+1)=fxU t j++[⟨((3*j+k:Nat):Int),t.getD (3*j+k) 0,(uN t j).1.1⟩]:=by rw [fs]; rfl
    have hfa:∀ i,fa=some ⟨i,0,none⟩->S.length+1<=i:=λ i hi=>(f3.lt i hi).1
    refine ⟨2-(j+1),by omega,j+1,some ⟨b,0,none⟩,by rw [fs]; simp,rfl,by omega,?_,by rw [fs]; exact h5,?_,ok'⟩
    ·refine pre_of_keep p3 h3 λ i hi=>h4 i (by omega) λ e=>by have:=hfa i e;omega
    ·rw [h4 _ lb3 λ e=>by have:=hfa _ e;omega]; exact b3
 ·obtain rfl:j=2:=by omega
  rw [cells_good hok]
  dsimp only
  refine ⟨k1,.inl ⟨rfl,_,_,rfl,?_,hf.imp id λ ⟨b,h1,h2,h3⟩=>⟨b,h1,by omega,h3⟩⟩⟩
  exact Ar.blk (l:=[(uN t 0).1.1,(uN t 1).1.1]) hb (λ _ _=>rfl) rfl
theorem parts_w {S:St} {p:Int} {a:Option Addr} {n cc:Nat} {c:List Int} (h:Ar S a n 1 eU c) (hcc:n<=cc) (hb:n<=1000000) :
 WP (gq2b [vU p,.slice a n cc]) S λ v S'=>S'=S/\((known p=false/\v=vT [.slice none 0 0,.slice none 0 0,vI 2])\/(known p=true/\(n < 7\/4102 < n)/\v=vT [.slice none 0 0,.slice none 0 0,vI 6]) \/
  (known p=true/\7<=n/\n<=4102/\∃ x xc t tc,v=vT [.slice x (n-6) xc,.slice t 6 tc,vI 0]/\Ar S x (n-6) 1 eU (c.take (n-6))/\Ar S t 6 1 eU (c.drop (n-6))/\n-6<=xc/\6<=tc)):=by
 rw [gq2b_eq]
 have hn:=h.1
 have e1:wI ((n:Int)-6)=(n:Int)-6:=wI_ (by omega) (by omega)
 simp only [wps,known_w,e1]
 refine ⟨λ hk=>.inl hk,λ hk=>⟨λ h1=>.inr (.inl ⟨hk,.inl (by omega)⟩),λ h1=>⟨λ h2=>.inr (.inl ⟨hk,.inr (by omega)⟩),λ h2=>?_⟩⟩⟩
 have e2:(n:Int)-6=((n-6:Nat):Int):=by omega
 rw [e2]
 refine cut_ar h (λ _=>rfl) (by decide) (by omega) (by omega) (by omega) hcc ?_
 intro u1 k1 hk1 hu1
 simp only [Int.toNat_natCast,Int.toNat_zero,List.drop_zero,Nat.sub_zero,Int.natCast_zero] at hu1 hk1 ⊢
 refine cut_ar h (λ _=>rfl) (by decide) (by omega) (by omega) (by omega) hcc ?_
 intro u2 k2 hk2 hu2
 simp only [Int.toNat_natCast] at hu2 hk2 ⊢
 have e6:n-(n-6)=6:=by omega
 rw [e6] at hu2 hk2 ⊢
 rw [List.take_of_length_le (by rw [List.length_drop]; omega)] at hu2
 simp only [wps]
 exact .inr (.inr ⟨hk,by omega,by omega,u1,k1,u2,k2,rfl,hu1,hu2,hk1,hk2⟩)
def badU (p:Int) (x:List Int) (j:Nat):List Nat:=(List.range j).filter λ i=>!decide (x.getD i 0 < p)
theorem badU_succ (p:Int) (x:List Int) (j:Nat):badU p x (j+1)=if x.getD j 0 < p then badU p x j else badU p x j++[j]:=by
 unfold badU
 rw [List.range_succ,List.filter_append]
 by_cases h:x.getD j 0 < p
 ·rw [if_pos h]; simp [List.filter_cons,h]
  have : ¬ p<=x.getD j 0:=by omega
  rw [List.getD_eq_getElem?_getD] at this
  omega
 ·rw [if_neg h]; simp [List.filter_cons]
  rw [List.getD_eq_getElem?_getD] at h
  omega
theorem badU_len (p:Int) (x:List Int):∀ j,(badU p x j).length<=j:=λ j=>by
 unfold badU
 exact Nat.le_trans (List.length_filter_le _ _) (by simp)
def lastN (l:List Nat):Nat:=l.getLast?.getD 0
theorem lastN_app (l:List Nat) (j:Nat):lastN (l++[j])=j:=by simp [lastN]
theorem inV_one {p y:Int} (hk:known p=true):inV p [y]=decide (y < p):=by
 unfold inV;rw [hk]; simp
def wrongT (p:Int) (x:List Int) (w:Int×Int) (o:Option Nat):(Int×Int)×Int:=match o with
 | none => ((0, 0), 2)
 | some i => if mulF p (subF p w.1 (sumsV p x).1) ((i : Int) + 1) ≠ subF p w.2 (sumsV p x).2 then ((0, 0), 2) else (((i : Int), addF p (x.getD i 0) (subF p w.1 (sumsV p x).1)), 1)
theorem wrongV_T {p:Int} {x:List Int} {w:Int×Int} (c1:¬ 1 < (badL p x).length) (c2:¬ ((badL p x).length=0/\sumsV p x=w)):wrongV p x w=wrongT p x w (whichV p x (subF p w.1 (sumsV p x).1) (subF p w.2 (sumsV p x).2)):=by
 unfold wrongV wrongT;rw [if_neg c1,if_neg c2]; rfl
set_option maxHeartbeats 1000000 in
theorem wtail_w {S:St} {p:Int} {a:Option Addr} {n nb hb:Nat} {x:List Int} {w:Int×Int} (hk:known p=true) (h:Ar S a n 1 eU x) (hbn:n<=4096) (hi:∀ y∈x,inU y) (hw:inU w.1/\inU w.2)
 (zn:S[nb]? = some (AObj.cells [vU w.1,vU w.2] 218 none)) (zh:S[hb]? = some (AObj.cells [vU (sumsV p x).1,vU (sumsV p x).2] 218 none))
 (c1:¬ 1 < (badL p x).length) (c2:¬ ((badL p x).length=0/\sumsV p x=w)) :
 WP (kq5u p a n nb hb (0,[vN (lastN (badL p x)),vN (badL p x).length])) S λ q S'=>S <+: S'/\q=(0,[vT [vI (wrongV p x w).1.1,vU (wrongV p x w).1.2,vI (wrongV p x w).2]]):=by
 have hn:=h.1
 unfold kq5u
 have hs:=sums_in hk x
 have u1:=inP_u hk hs.1
 have u2:=inP_u hk hs.2
 have s0:inU (subF p w.1 (sumsV p x).1):=inP_u hk (inP_sub hk _ _)
 simp only [wps,cell_blk zn,cell_blk zh,gcz,gcs,subF_w hw.1 u1,subF_w hw.2 u2]
 have wV:=wrongV_T c1 c2
 have hpos:∀ i:Nat,wU (wU (i:Int)+1)=(i:Int)+1\/4096 < i:=λ i=>by
  by_cases hi:4096 < i
  ·exact .inr hi
  ·left;rw [wU_ (n:=(i:Int)) (by omega) (by omega),wU_ (by omega) (by omega)]
 generalize hd0:subF p w.1 (sumsV p x).1=d0 at *
 generalize hd1:subF p w.2 (sumsV p x).2=d1 at *
 have hT0:whichV p x d0 d1=none->wrongV p x w=((0,0),2):=λ e=>by rw [wV,e]; rfl
 have hT1:∀ i:Nat,whichV p x d0 d1=some i->wrongV p x w=if mulF p d0 ((i:Int)+1)≠d1 then ((0,0),2) else (((i:Int),addF p (x.getD i 0) d0),1):=λ i e=>by rw [wV,e]; unfold wrongT;rw [hd0,hd1]
 have hlen:(badL p x).length=0\/(badL p x).length=1:=by omega
 have two:∀ i:Nat,i < n->inU ((i:Int)+1):=λ i hi=>⟨by omega,by omega⟩
 have last:∀ (i:Nat) (S':St),S <+: S'->i < n->whichV p x d0 d1=some i ->
  ((mulF p d0 ((i:Int)+1)≠d1->S <+: S'/\(0,[vT [vI 0,vU 0,vI 2]])=(0,[vT [vI (wrongV p x w).1.1,vU (wrongV p x w).1.2,vI (wrongV p x w).2]])) /\
   (mulF p d0 ((i:Int)+1)=d1->S <+: S'/\(0,[vT [vI (i:Int),vU (addF p (x.getD i 0) d0),vI 1]])=(0,[vT [vI (wrongV p x w).1.1,vU (wrongV p x w).1.2,vI (wrongV p x w).2]]))):=λ i S' k hi e=>by
  rw [hT1 i e]
  exact ⟨λ e=>⟨k,by rw [if_pos e]⟩,λ e=>⟨k,by rw [if_neg (λ h=>h e)]⟩⟩
 refine ⟨λ m0=>?_,λ m0=>?_⟩
 ·have m0:(badL p x).length=0:=by omega
  have hwh:whichV p x d0 d1=if d0=0 then none else findV p d0 d1 n d0 0:=by unfold whichV;rw [if_pos m0,hn]
  refine wp_loop (λ st S' m=>∃ (at_:Int) (j:Nat) (s:Int),st=[vI at_,vN j,vU s]/\n-j=m/\j<=n/\inU s/\S'=S/\((at_ = -1/\(d0≠0->findV p d0 d1 n d0 0=findV p d0 d1 (n-j) s j))\/(∃ i:Nat,at_=i/\i < n/\d0≠0/\findV p d0 d1 n d0 0=some i))) ?_ n _ _ ⟨-1,0,d0,rfl,rfl,by omega,s0,rfl,.inl ⟨rfl,λ _=>rfl⟩⟩
  rintro st S1 _ ⟨at_,j,s,rfl,rfl,hj,hsu,rfl,hat⟩
  simp only [wps,addF_w hsu s0]
  rcases hat with ⟨rfl,hf⟩ | ⟨i,rfl,hi',hd,hf⟩
  ·have nf:whichV p x d0 d1=none->S1 <+: S1/\(0,[vT [vI 0,vU 0,vI 2]])=(0,[vT [vI (wrongV p x w).1.1,vU (wrongV p x w).1.2,vI (wrongV p x w).2]]):=λ e=>by
    rw [hT0 e]; exact ⟨List.prefix_refl _,rfl⟩
   have hsn:inU (addF p s d0):=inP_u hk (inP_add hk _ _)
   refine ⟨λ e1=>⟨λ e2=>⟨λ e3=>⟨λ e4=>?_,λ e4=>?_⟩,λ e3=>absurd (by decide) e3⟩,λ e2=>⟨λ _=>nf ?_,λ e=>absurd (by decide) e⟩⟩,λ e1=>⟨λ _=>nf ?_,λ e=>absurd (by decide) e⟩⟩
   ·rw [wI_ (n:=(j:Int)+1) (by omega) (by omega)]
    refine ⟨n-(j+1),by omega,j,j+1,addF p s d0,rfl,rfl,by omega,hsn,.inr ⟨j,rfl,by omega,e2,?_⟩⟩
    rw [hf e2,show n-j=(n-(j+1))+1 by omega]; unfold findV;rw [if_pos e4]
   ·rw [wI_ (n:=(j:Int)+1) (by omega) (by omega)]
    refine ⟨n-(j+1),by omega,-1,j+1,addF p s d0,rfl,rfl,by omega,hsn,.inl ⟨rfl,λ _=>?_⟩⟩
    rw [hf e2,show n-j=(n-(j+1))+1 by omega]; conv=>lhs;unfold findV
    rw [if_neg e4]
   ·rw [hwh,if_pos e2]
   ·rw [hwh]
    by_cases e0:d0=0
    ·rw [if_pos e0]
    ·rw [if_neg e0,hf e0,show n-j=0 by omega]; rfl
  ·have hw2:whichV p x d0 d1=some i:=by rw [hwh,if_neg hd,hf]
   have hq:wU (wU (i:Int)+1)=(i:Int)+1:=(hpos i).resolve_right (by omega)
   obtain ⟨y,rfl,c0⟩:=h.getU (i:=i) (by omega)
   have hxi:inU x[i]:=hi _ (List.getElem_mem _)
   have hxd:x.getD i 0=x[i]:=by rw [List.getD_eq_getElem?_getD,List.getElem?_eq_getElem (by omega)]; rfl
   have fin:=last i S1 (List.prefix_refl _) hi' hw2
   rw [hxd] at fin
   refine ⟨λ e1=>⟨λ e2=>⟨λ e3=>absurd e3 (by omega),λ e3=>⟨λ e=>absurd e (by omega),λ _=>?_⟩⟩,λ e2=>⟨λ e=>absurd e (by omega),λ _=>?_⟩⟩,λ e1=>⟨λ e=>absurd e (by omega),λ _=>?_⟩⟩
   all_goals
    simp only [hq,wps,mul_w s0 (two i hi'),c0,Int.toNat_natCast,addF_w hxi s0]
    exact ⟨fin.1,λ e=>⟨by omega,fin.2 e⟩⟩
 ·obtain ⟨i,hb1⟩:=List.length_eq_one_iff.1 (show (badL p x).length=1 by omega)
  have hl:lastN (badL p x)=i:=by rw [hb1]; rfl
  have hi':i < n:=by have:=(mem_badL (p:=p) (x:=x) (j:=i)).1 (by rw [hb1]; simp); omega
  have hw2:whichV p x d0 d1=some i:=by unfold whichV;rw [if_neg (by omega),hb1]; rfl
  have hq:wU (wU (i:Int)+1)=(i:Int)+1:=(hpos i).resolve_right (by omega)
  obtain ⟨y,rfl,c0⟩:=h.getU (i:=i) (by omega)
  have hxi:inU x[i]:=hi _ (List.getElem_mem _)
  have hxd:x.getD i 0=x[i]:=by rw [List.getD_eq_getElem?_getD,List.getElem?_eq_getElem (by omega)]; rfl
  have fin:=last i S (List.prefix_refl _) hi' hw2
  rw [hxd] at fin
  rw [hl]
  simp only [hq,wps,mul_w s0 (two i hi'),c0,Int.toNat_natCast,addF_w hxi s0]
  exact ⟨fin.1,λ e=>⟨by omega,fin.2 e⟩⟩
theorem wdone_w {S:St} {p:Int} {a:Option Addr} {n nb hb:Nat} {u v z:Int} {Q:Nat×List Value->St->Prop} (h:Q (0,[vT [vI u,vU v,vI z]]) S):WP (kq5u p a n nb hb (1,[vI u,vU v,vI z])) S Q:=by
 unfold kq5u
 simp only [wps]
 exact h
set_option maxHeartbeats 1000000 in
theorem wrong_w {S:St} {p:Int} {a:Option Addr} {n c:Nat} {x:List Int} {w0 w1:Int} (hk:known p=true) (h:Ar S a n 1 eU x) (hb:n<=4096) (hi:∀ y∈x,inU y) (hw0:inU w0) (hw1:inU w1) :
 WP (gq2h [vU p,.slice a n c,vA [vU w0,vU w1]]) S λ v S'=>S <+: S'/\v=vT [vI (wrongV p x (w0,w1)).1.1,vU (wrongV p x (w0,w1)).1.2,vI (wrongV p x (w0,w1)).2]:=by
 rw [gq2h_eq]
 have hn:=h.1
 have pw:=List.prefix_append S [AObj.cells [vU w0,vU w1] 218 none]
 have zw:=get_new (S:=S) (o:=AObj.cells [vU w0,vU w1] 218 none)
 simp only [wps]
 generalize hY:S++[AObj.cells [vU w0,vU w1] 218 none]=Y at pw zw ⊢
 refine wp_loop (λ st S' m=>∃ j:Nat,st=[vN (lastN (badU p x j)),vN (badU p x j).length,vN j]/\n-j=m/\j<=n/\Y <+: S') ?_ n _ _ ⟨0,rfl,rfl,by omega,List.prefix_refl _⟩
 rintro st S1 _ ⟨j,rfl,rfl,hj,k1⟩
 simp only [wps]
 refine ⟨λ h3=>?_,λ h3=>?_⟩
 ·obtain ⟨y,rfl,c0⟩:=(h.mono (pw.trans k1)).getU (i:=j) (by omega)
  have har:Ar (S1++[AObj.cells [vU x[j]] 24 none]) (some (ad S1.length 0)) 1 1 eU [x[j]]:=Ar.blk (l:=[x[j]]) get_new (λ _ _=>rfl) rfl
  have hin:=in_w (p:=p) (c:=1) har (by omega)
  rw [inV_one hk] at hin
  have hgx:x.getD j 0=x[j]:=by rw [List.getD_eq_getElem?_getD,List.getElem?_eq_getElem (by omega)]; rfl
  have hs:=badU_succ p x j
  rw [hgx] at hs
  have hbl:=badU_len p x j
  simp only [wps,c0,Int.toNat_natCast,hin.wp]
  rw [wI_ (n:=(j:Int)+1) (by omega) (by omega),wI_ (n:=((badU p x j).length:Int)+1) (by omega) (by omega)]
  refine ⟨by omega,λ e=>?_,λ e=>?_⟩
  ·rw [if_neg e] at hs
   exact ⟨n-(j+1),by omega,j+1,by rw [hs,lastN_app,List.length_append]; rfl,rfl,by omega,k1.trans (List.prefix_append _ _)⟩
  ·rw [if_pos e] at hs
   exact ⟨n-(j+1),by omega,j+1,by rw [hs]; rfl,rfl,by omega,k1.trans (List.prefix_append _ _)⟩
 ·obtain rfl:j=n:=by omega
  have hbL:badU p x j=badL p x:=by rw [hn]; rfl
  rw [hbL]
  have r1:runA p x=(sumsV p x).1:=by rw [<- runs_are hk]
  have r2:(runB p x).1=(sumsV p x).2:=by rw [<- runs_are hk]
  refine (codesums_w (C:=noC) (c:=c) (h.mono (pw.trans k1)) (by omega) hi).mono ?_
  rintro _ S2 ⟨rfl,k2⟩
  rw [r1,r2]
  have k12:=k1.trans k2
  have z2:=pre_get k12 zw
  have pz:=List.prefix_append S2 [AObj.cells [vU (sumsV p x).1,vU (sumsV p x).2] 218 none]
  have zz:=get_new (S:=S2) (o:=AObj.cells [vU (sumsV p x).1,vU (sumsV p x).2] 218 none)
  have z22:=pre_get pz z2
  have pS:=pw.trans (k12.trans pz)
  generalize hZ:S2++[AObj.cells [vU (sumsV p x).1,vU (sumsV p x).2] 218 none]=Z at pz zz z22 pS
  have tail:¬ 1 < (badL p x).length->¬ ((badL p x).length=0/\sumsV p x=(w0,w1))->WP (kq5u p a j S.length S2.length (0,[vN (lastN (badL p x)),vN (badL p x).length])) Z λ q S'=>WP (oneV q) S' λ v S'=>S <+: S'/\v=vT [vI (wrongV p x (w0,w1)).1.1,vU (wrongV p x (w0,w1)).1.2,vI (wrongV p x (w0,w1)).2]:=λ c1 c2=>by
   refine (wtail_w (w:=(w0,w1)) hk (h.mono pS) hb hi ⟨hw0,hw1⟩ z22 zz c1 c2).mono ?_
   rintro _ S3 ⟨k3,rfl⟩
   simp only [wps]
   exact pS.trans k3
  have e0:∀ q:Int×Int,eqL [vU q.1,vU q.2] [vU w0,vU w1]=decide (q=(w0,w1)):=by
   rintro ⟨a,b⟩
   rw [Bool.eq_iff_iff]
   simp [eqL]
  have e0:=e0 (sumsV p x)
  simp only [wps,hZ,cell_blk z22,gcz,gcs,e0]
  refine ⟨λ c1=>wdone_w ?_,λ c1=>⟨λ c2=>⟨λ e=>wdone_w ?_,λ e=>?_⟩,λ c2=>tail (by omega) λ h=>c2 (by omega)⟩⟩
  ·have : wrongV p x (w0,w1)=((0,0),2):=by unfold wrongV;rw [if_pos (by omega)]
   rw [this]
   simp only [wps]
   refine ⟨pS,?_⟩
   have : (if (2:Int) < ((badL p x).length:Int) then (2:Int) else ((badL p x).length:Int))=2:=by split <;> omega
   rw [this]
  ·have : wrongV p x (w0,w1)=((0,0),0):=by unfold wrongV;rw [if_neg (by omega),if_pos ⟨by omega,e⟩]
   rw [this,if_neg (by omega),c2]
   simp only [wps]
   exact pS
  ·exact tail (by omega) λ h=>e h.2
theorem getFx {S:St} {p:Option Addr} {n:Nat} {l:List Fx} (h:Ar S p n 3 eFx l) {i:Nat} (hi:i < l.length) :
 ∃ a,p=some a/\S.cell (a.add (i*3))=some (vI l[i].ad)/\S.cell ((a.add (i*3)).add 1)=some (vU l[i].bad)/\S.cell ((a.add (i*3)).add 2)=some (vU l[i].good):=by
 obtain ⟨a,h1,h2⟩:=h.2 i hi
 exact ⟨a,h1,by have:=h2 0 _ rfl;rwa [add_zero_] at this,h2 1 _ rfl,h2 2 _ rfl⟩
set_option maxHeartbeats 1000000 in
theorem fixloop_w {S:St} {L n xc on oc:Nat} {xa ca a oa:Option Addr} {cc:Nat} {cl f0:List Fx} (hc:Ar S ca cl.length 3 eFx cl) (hf:OwnF L S a f0) (hL:L<=S.length) (hcl:cl.length<=100) (hf0:f0.length<=100) (hn:n<=1000000)
 (had:∀ f∈cl,0<=f.ad/\f.ad<=1000) (hne:∀ y,ca=some y->y.block < S.length/\a≠some ⟨y.block,0,none⟩) :
 WP (kq5s ⟨xa,n,xc⟩ ⟨ca,cl.length,cc⟩ ⟨oa,on,oc⟩ (0,[.slice a f0.length f0.length])) S λ q S'=>∃ fa,q=(0,[vT [.slice oa on oc,.slice fa (f0++cl.map (Fx.up n)).length (f0++cl.map (Fx.up n)).length,vI 0]])/\OwnF L S' fa (f0++cl.map (Fx.up n))/\(fa=a\/∃ b,fa=some ⟨b,0,none⟩/\S.length<=b)/\S.length<=S'.length/\∀ i,i < S.length->a≠some ⟨i,0,none⟩->S'[i]? = S[i]?:=by
 unfold kq5s
 simp only [wps]
 refine wp_loop (λ st S' m=>∃ (j:Nat) (fa:Option Addr),st=[.slice fa (f0++(cl.take j).map (Fx.up n)).length (f0++(cl.take j).map (Fx.up n)).length,vN j]/\cl.length-j=m/\j<=cl.length/\OwnF L S' fa (f0++(cl.take j).map (Fx.up n))/\(fa=a\/∃ b,fa=some ⟨b,0,none⟩/\S.length<=b)/\S.length<=S'.length/\∀ i,i < S.length->a≠some ⟨i,0,none⟩->S'[i]? = S[i]?) ?_ cl.length _ _ ⟨0,a,by simp,rfl,by omega,by simpa using hf,.inl rfl,Nat.le_refl _,λ _ _ _=>rfl⟩
 rintro st S1 _ ⟨j,fa,rfl,rfl,hj,h1,h2,h3,h4⟩
 simp only [wps]
 refine ⟨λ h5=>?_,λ h5=>?_⟩
 ·have hc1:Ar S1 ca cl.length 3 eFx cl:=hc.keepL λ y hy=>h4 _ (hne y hy).1 (hne y hy).2
  obtain ⟨y,rfl,b0,b1,b2⟩:=getFx hc1 (i:=j) (by omega)
  have hm:=had cl[j] (List.getElem_mem _)
  simp only [wps,Int.toNat_natCast,b0,b1,b2]
  rw [wI_ (n:=cl[j].ad+(n:Int)) (by omega) (by omega),wI_ (n:=(j:Int)+1) (by omega) (by omega)]
  have hp:=List.prefix_append S1 [AObj.cells [vI (cl[j].ad+(n:Int)),vU cl[j].bad,vU cl[j].good] 78 none]
  have hln:=hp.length_le
  generalize S1++[AObj.cells [vI (cl[j].ad+(n:Int)),vU cl[j].bad,vU cl[j].good] 78 none]=S2 at hp hln ⊢
  refine ⟨by omega,by omega,?_⟩
  refine wp_pushF (y:=⟨cl[j].ad+(n:Int),cl[j].bad,cl[j].good⟩) (h1.pre hp) rfl (by simp;omega) (by omega) ?_
  intro b S3 g1 g2 g3 g4 g5
  have hsn:f0++(cl.take (j+1)).map (Fx.up n)=(f0++(cl.take j).map (Fx.up n))++[⟨cl[j].ad+(n:Int),cl[j].bad,cl[j].good⟩]:=by
   rw [take_snoc (show j < cl.length by omega),List.map_append,<- List.append_assoc]; rfl
  refine ⟨cl.length-(j+1),by omega,j+1,some ⟨b,0,none⟩,by rw [hsn]; simp [Nat.add_assoc],rfl,by omega,by rw [hsn]; exact g5,.inr ⟨b,rfl,by omega⟩,by omega,λ i hi hne'=>?_⟩
  rw [g4 i (by omega),pre_at hp (by omega),h4 i hi hne']
  rcases h2 with h2 | ⟨b',h2,h2'⟩
  ·rw [h2]; exact hne'
  ·rw [h2]; intro e;injection e with e;injection e with e;omega
 ·obtain rfl:j=cl.length:=by omega
  rw [List.take_of_length_le (Nat.le_refl _)] at h1 ⊢
  exact ⟨fa,rfl,h1,h2,h3,h4⟩
theorem OwnF.blk {L:Nat} {S:St} {a:Option Addr} {out:List Fx} (h:OwnF L S a out) {y:Addr} (hy:a=some y):L<=y.block/\y.block < S.length/\y=⟨y.block,0,none⟩:=by
 rcases h with ⟨e,_⟩ | ⟨b,e,e2,hb⟩
 ·rw [hy] at e;cases e
 ·rw [hy] at e;injection e with e;subst e;exact ⟨e2,pre_lt hb,rfl⟩
theorem fixV_eq {p:Int} {c:List Int} (hk:known p=true) (h1:7<=c.length) (h2:c.length<=4102):fixV p c=(if (cellsV (c.drop (c.length-6))).2≠0 then (([],[]),10)
 else if ¬ ((cellsV (c.drop (c.length-6))).1.1.1 < p/\(cellsV (c.drop (c.length-6))).1.1.2 < p) then (([],[]),10)
 else if 1 < (wrongV p (c.take (c.length-6)) (cellsV (c.drop (c.length-6))).1.1).2 then (([],[]),10)
 else if (wrongV p (c.take (c.length-6)) (cellsV (c.drop (c.length-6))).1.1).2=1 then (((c.take (c.length-6)).set (wrongV p (c.take (c.length-6)) (cellsV (c.drop (c.length-6))).1.1).1.1.toNat (wrongV p (c.take (c.length-6)) (cellsV (c.drop (c.length-6))).1.1).1.2++sx (cellsV (c.drop (c.length-6))).1.1,⟨(wrongV p (c.take (c.length-6)) (cellsV (c.drop (c.length-6))).1.1).1.1,(c.take (c.length-6)).getD (wrongV p (c.take (c.length-6)) (cellsV (c.drop (c.length-6))).1.1).1.1.toNat 0,(wrongV p (c.take (c.length-6)) (cellsV (c.drop (c.length-6))).1.1).1.2⟩ :: (cellsV (c.drop (c.length-6))).1.2.map (Fx.up (c.take (c.length-6)).length)),0)
 else ((c.take (c.length-6)++sx (cellsV (c.drop (c.length-6))).1.1,(cellsV (c.drop (c.length-6))).1.2.map (Fx.up (c.take (c.length-6)).length)),0)):=by
 unfold fixV
 rw [if_neg (by rw [hk]; simp),if_neg (by omega)]
def FixR (S S':St) (n:Nat) (F:(List Int×List Fx)×Int) (v:Value):Prop:=S <+: S'/\((F.2≠0/\v=vT [.slice none 0 0,.slice none 0 0,vI F.2]) \/
 (F.2=0/\∃ gb fa,v=vT [.slice (some ⟨gb,0,none⟩) n n,.slice fa F.1.2.length F.1.2.length,vI 0]/\Ar S' (some ⟨gb,0,none⟩) n 1 eU F.1.1/\OwnF S.length S' fa F.1.2/\(∀ i,fa=some ⟨i,0,none⟩->i≠gb)/\S.length<=gb/\gb < S'.length))
theorem FixR.err {S S':St} {n:Nat} {F:(List Int×List Fx)×Int} {e:Int} (h:S <+: S') (he:e≠0) (hF:F=(([],[]),e)):FixR S S' n F (vT [.slice none 0 0,.slice none 0 0,vI e]):=by
 subst hF;exact ⟨h,.inl ⟨he,rfl⟩⟩
set_option maxHeartbeats 2000000 in
theorem fix_w {S:St} {p:Int} {a:Option Addr} {n cc:Nat} {c:List Int} (h:Ar S a n 1 eU c) (hcc:n<=cc) (hb:n<=1000000) (hu:∀ y∈c,inU y) :
 WP (gq28 [vU p,.slice a n cc]) S λ v S'=>FixR S S' n (fixV p c) v:=by
 rw [gq28_eq]
 simp only [wps]
 have hn:=h.1
 refine (parts_w (p:=p) h hcc hb).mono ?_
 rintro v S' ⟨e,hcs⟩
 obtain rfl:S=S':=e.symm
 rcases hcs with ⟨hk,rfl⟩ | ⟨hk,hn',rfl⟩ | ⟨hk,h7,h4,xa,xc,ta,tc,rfl,hx,ht,hxc,htc⟩
 ·simp only [wps]
  exact ⟨λ _=>FixR.err (List.prefix_refl _) (by decide) (by unfold fixV;rw [if_pos hk]),λ e=>absurd e (by decide)⟩
 ·simp only [wps]
  exact ⟨λ _=>FixR.err (List.prefix_refl _) (by decide) (by unfold fixV;rw [if_neg (by rw [hk]; simp),if_pos (by omega)]),λ e=>absurd e (by decide)⟩
 have hF:=fixV_eq hk (show 7<=c.length by omega) (by omega)
 rw [<- hn] at hF
 generalize fixV p c=F at hF ⊢
 have hx1:∀ y∈c.take (n-6),inU y:=λ y hy=>hu y (List.mem_of_mem_take hy)
 have ht1:∀ y∈c.drop (n-6),inU y:=λ y hy=>hu y (List.mem_of_mem_drop hy)
 have hxl:(c.take (n-6)).length=n-6:=hx.1.symm
 have htl:(c.drop (n-6)).length=6:=ht.1.symm
 generalize c.take (n-6)=x at hx hx1 hxl hF ⊢
 generalize c.drop (n-6)=t at ht ht1 htl hF ⊢
 simp only [wps]
 have hcell:=cells6_w ht htc
 have hsound:=λ q l=>cells_sound htl (q:=q) (l:=l)
 generalize cellsV t=Q at hF hcell hsound
 obtain ⟨⟨q,cl⟩,zz⟩:=Q
 dsimp only at hF hcell
 refine hcell.mono ?_
 rintro _ S1 ⟨k1,⟨hc0,ob,fa,rfl,har,hown⟩ | ⟨hc0,rfl⟩⟩
 ·subst hc0
  obtain ⟨b1,b2,b3,b4,b5⟩:=hsound q cl rfl
  have hin:=in_w (p:=p) (c:=2) har (by omega)
  have hq1:=ht1 _ b4
  have hq2:=ht1 _ b5
  rw [if_neg (by simp)] at hF
  have hinv:inV p [q.1,q.2]=decide (q.1 < p/\q.2 < p):=by unfold inV;rw [hk]; simp [Bool.decide_and]
  rw [hinv] at hin
  have c0:=cellU har 0 (v:=q.1) rfl
  have c1:=cellU har 1 (v:=q.2) rfl
  rw [add_zero_] at c0
  simp only [add_off,Nat.zero_add] at c1
  simp only [wps,hin.wp,c0,c1]
  refine ⟨λ hi2=>FixR.err k1 (by decide) (by rw [hF,if_pos hi2]),λ hi2=>?_⟩
  rw [if_neg (λ h=>h hi2)] at hF
  refine (wrong_w (c:=xc) (w0:=q.1) (w1:=q.2) hk (hx.mono k1) (by omega) hx1 hq1 hq2).mono ?_
  rintro _ S2 ⟨k2,rfl⟩
  have c02:=pre_cell k2 c0
  have c12:=pre_cell k2 c1
  have har2:=har.mono k2
  have hsl:(x++sixL q).length=n:=by rw [List.length_append]; show x.length+6=n;omega
  have had:∀ f∈cl,0<=f.ad/\f.ad<=1000:=λ f hf=>by have:=b2 f hf;omega
  have en:n-6+6=n:=by omega
  have exl:((n-6:Nat):Int)=(x.length:Int):=by rw [hxl]
  have hsw:=wrong_sound hk (x:=x) (w:=q) (λ y hy=>(hx1 y hy).1) ⟨⟨hq1.1,hi2.1⟩,⟨hq2.1,hi2.2⟩⟩
  rw [show ((q.1,q.2):Int×Int)=q from rfl]
  generalize wrongV p x q=r at hF hsw ⊢
  simp only [wps,c02,c12]
  refine ⟨λ e1=>FixR.err (k1.trans k2) (by decide) (by rw [hF,if_pos e1]),λ e1=>?_⟩
  rw [if_neg e1] at hF
  refine (whole_w (c:=xc) (q:=q) ((hx.mono k1).mono k2) (by omega)).mono ?_
  rintro _ S3 ⟨gb,rfl,hN⟩
  have k3:=hN.p
  have k03:=k1.trans (k2.trans k3)
  have hsw:r.2=1->∃ i:Nat,i < x.length/\r.1.1=i/\inP p r.1.2:=λ e=>by
   rcases hsw (by rw [e]; decide) with ⟨h0,_⟩ | ⟨_,i,hi,hi1,hi2',_⟩
   ·rw [e] at h0;cases h0
   ·exact ⟨i,hi,hi1,hi2'⟩
  have hown3:=hown.pre (k2.trans k3)
  have hgb:=hN.lt
  obtain ⟨gg,hat⟩:=hN.at_
  have lgb:=pre_lt hat
  have l03:=k03.length_le
  have l12:=(k1.trans k2).length_le
  have hne3:∀ y,fa=some y->S.length<=y.block/\y.block < S3.length/\y.block≠gb:=λ y hy=>by
   have h1:=(hown.pre k2).blk hy
   exact ⟨h1.1,by have:=k3.length_le;omega,by omega⟩
  simp only [wps]
  refine ⟨λ e2=>?_,λ e2=>?_⟩
  ·rw [if_pos e2] at hF
   obtain ⟨i,hi,hi1,hi2'⟩:=hsw e2
   clear hsw
   have hgood:=inP_u hk hi2'
   rw [hi1] at hF ⊢
   rw [Int.toNat_natCast] at hF
   obtain ⟨y,rfl,cx⟩:=(hx.mono k03).getU (i:=i) hi
   have hgx:x.getD i 0=x[i]:=by rw [List.getD_eq_getElem?_getD,List.getElem?_eq_getElem hi]; rfl
   simp only [wps,Int.toNat_natCast,cx]
   refine ⟨by omega,?_⟩
   refine wp_pushF (L:=S.length) (a:=none) (n:=0) (out:=[]) (y:=⟨(i:Int),x[i],r.1.2⟩) (.inl ⟨rfl,rfl⟩) rfl (by omega) l03 ?_
   intro b4 S4 g1 g2 g3 g4 g5
   have hat4:S4[gb]? = some (.cells ((x++sixL q).flatMap eU) 24 gg):=by rw [g4 gb lgb (by intro e;cases e)]; exact hat
   have hput:=(Ob.refl (e:=eU) hat4).put (w:=1) (λ _=>rfl) (i:=i) (by omega) r.1.2
   have hfl:=flat_len (e:=eU) (w:=1) (λ _=>rfl) (x++sixL q)
   rw [Nat.mul_one] at hput
   simp only [wps,hat4]
   refine ⟨by omega,by omega,?_⟩
   have hl5:(S4.set gb (AObj.cells (splice ((x++sixL q).flatMap eU) i [vU r.1.2]) 24 gg)).length=S4.length:=List.length_set ..
   have k5:∀ j,j≠gb->(S4.set gb (AObj.cells (splice ((x++sixL q).flatMap eU) i [vU r.1.2]) 24 gg))[j]? = S4[j]?:=λ j hj=>List.getElem?_set_ne (Ne.symm hj)
   have a5:(S4.set gb (AObj.cells (splice ((x++sixL q).flatMap eU) i [vU r.1.2]) 24 gg))[gb]? = some (.cells (((x++sixL q).set i r.1.2).flatMap eU) 24 gg):=hput.at_
   generalize S4.set gb (AObj.cells (splice ((x++sixL q).flatMap eU) i [vU r.1.2]) 24 gg)=S5 at hl5 k5 a5 ⊢
   have hown5:OwnF S.length S5 fa cl:=hown3.keep λ j hj=>by
    have h3:=hne3 _ hj
    dsimp only at h3
    rw [k5 j h3.2.2,g4 j h3.2.1 (by intro e;cases e)]
   have g55:OwnF S.length S5 (some ⟨b4,0,none⟩) [⟨(i:Int),x[i],r.1.2⟩]:=OwnF.keep g5 λ j hj=>by
    injection hj with hj;injection hj with hj
    rw [k5 j (by omega)]
   refine (fixloop_w (L:=S.length) (xa:=some y) (xc:=xc) (on:=n-6+6) (oc:=n-6+6) (oa:=some ⟨gb,0,none⟩) (cc:=cl.length) (n:=n-6) (cl:=cl) hown5.ar g55 (by omega) (by omega) (by simp) (by omega) had λ z hz=>⟨by have:=hne3 z hz;omega,by
    intro e;injection e with e;injection e with e
    have:=hne3 z hz;omega⟩).mono ?_
   rintro _ S6 ⟨fa',rfl,ho,hfa,hl6,k6⟩
   simp only [wps]
   have a6:S6[gb]? = some (.cells (((x++sixL q).set i r.1.2).flatMap eU) 24 gg):=by
    rw [k6 gb (by omega) (by intro e;injection e with e;injection e with e;omega)]; exact a5
   have hgoodeq:(x++sixL q).set i r.1.2=x.set i r.1.2++sx q:=by rw [List.set_append,if_pos hi]; rfl
   have hF2:F=((x.set i r.1.2++sx q,[⟨(i:Int),x[i],r.1.2⟩]++cl.map (Fx.up ((n-6:Nat):Int))),0):=by rw [hF,hgx,exl]; rfl
   rw [hF2,en]
   refine ⟨pre_of_keep k03 (by omega) λ j hj=>by rw [k6 j (by omega) (by intro e;injection e with e;injection e with e;omega),k5 j (by omega),g4 j (by omega) (by intro e;cases e)],.inr ⟨rfl,gb,fa',rfl,?_,ho,?_,by omega,by omega⟩⟩
   ·have:=Ar.blk (w:=1) a6 (λ _ _=>rfl) rfl
    rw [List.length_set,hsl,hgoodeq] at this
    exact this
   ·intro j hj
    rcases hfa with hfa | ⟨b,hfa,hb⟩
    ·rw [hfa] at hj;injection hj with hj;injection hj with hj;omega
    ·rw [hfa] at hj;injection hj with hj;injection hj with hj;omega
  ·clear hsw
   rw [if_neg e2] at hF
   refine (fixloop_w (L:=S.length) (xa:=xa) (xc:=xc) (on:=n-6+6) (oc:=n-6+6) (oa:=some ⟨gb,0,none⟩) (cc:=cl.length) (a:=none) (f0:=[]) (n:=n-6) (cl:=cl) hown3.ar (.inl ⟨rfl,rfl⟩) l03 (by omega) (by simp) (by omega) had λ z hz=>⟨(hne3 z hz).2.1,by intro e;cases e⟩).mono ?_
   rintro _ S6 ⟨fa',rfl,ho,hfa,hl6,k6⟩
   simp only [wps]
   have a6:S6[gb]? = some (.cells ((x++sixL q).flatMap eU) 24 gg):=by
    rw [k6 gb lgb (by intro e;cases e)]; exact hat
   have hF2:F=((x++sx q,[]++cl.map (Fx.up ((n-6:Nat):Int))),0):=by rw [hF,exl]; rfl
   rw [hF2,en]
   refine ⟨pre_of_keep k03 hl6 λ j hj=>k6 j (by omega) (by intro e;cases e),.inr ⟨rfl,gb,fa',rfl,?_,ho,?_,by omega,by omega⟩⟩
   ·have:=Ar.blk (w:=1) a6 (λ _ _=>rfl) rfl
    rw [hsl] at this
    exact this
   ·intro j hj
    rcases hfa with hfa | ⟨b,hfa,hb⟩
    ·rw [hfa] at hj;cases hj
    ·rw [hfa] at hj;injection hj with hj;injection hj with hj;omega
 ·simp only [wps]
  exact ⟨λ _=>FixR.err k1 (by decide) (by rw [hF,if_pos hc0]),λ e=>absurd e (by decide)⟩
theorem rowO_get {a:Int} {k j:Nat} (h:j < (rowO a k).length):(rowO a k)[j]=a+(j:Int):=by simp [rowO,offs]
set_option maxHeartbeats 1000000 in
theorem rowload_w {S:St} {b:Nat} {m:Mm} {T:List Nat} (h:MS S b m T) {a:Int} {k:Nat} (hin:0<=a/\a+k<=m.W.length) (ht:0<=m.t/\m.t+k < 4611686018427387904) :
 WP (gq5k [vA [.pointer (some ⟨b,0,none⟩),vI a,vN k]]) S λ v S'=>v=vT [.slice (some ⟨S.length+1,0,none⟩) k k,vI 0]/\Kp T S S'/\MS S' b (m.rds (rowO a k)).2 T /\
  S'[S.length+1]? = some (.cells ((m.rds (rowO a k)).1.flatMap eU) 24 none):=by
 rw [gq5k_eq]
 have hw:=h.w
 have hTlt:=h.lt
 have p0:=List.prefix_append S [AObj.cells [.pointer (some ⟨b,0,none⟩),vI a,vN k] 145 none]
 have z0:=get_new (S:=S) (o:=AObj.cells [.pointer (some ⟨b,0,none⟩),vI a,vN k] 145 none)
 simp only [wps,zeroC_one,Int.toNat_natCast]
 refine ⟨⟨by omega,by omega,by omega,rfl⟩,?_⟩
 have hYl:(S++[AObj.cells [.pointer (some ⟨b,0,none⟩),vI a,vN k] 145 none]).length=S.length+1:=by simp
 generalize S++[AObj.cells [.pointer (some ⟨b,0,none⟩),vI a,vN k] 145 none]=Y at p0 z0 hYl ⊢
 have pw:=List.prefix_append Y [AObj.cells (List.replicate k (vU 0)) 24 none]
 have zw:=get_new (S:=Y) (o:=AObj.cells (List.replicate k (vU 0)) 24 none)
 rw [<- hYl]
 have lA:(rowO a k).length=k:=rowO_len a k
 have h0:=(h.pre p0).pre pw
 have k0:Kp T S (Y++[AObj.cells (List.replicate k (vU 0)) 24 none]):=Kp.of (p0.trans pw)
 have z00:=pre_get pw z0
 generalize Y++[AObj.cells (List.replicate k (vU 0)) 24 none]=Z at pw zw h0 k0 z00 ⊢
 have nT:S.length∉T:=λ hx=>by have:=hTlt _ hx;omega
 have nT1:Y.length∉T:=λ hx=>by have:=hTlt _ hx;omega
 refine wp_loop (λ st S' n=>∃ j:Nat,st=[vN j]/\n=k-j/\j<=k/\Kp T S S'/\MS S' b (m.rds ((rowO a k).take j)).2 T/\S'[S.length]? = some (AObj.cells [.pointer (some ⟨b,0,none⟩),vI a,vN k] 145 none)/\S'[Y.length]? = some (.cells ((m.rds ((rowO a k).take j)).1.map (.int .u64)++List.replicate (k-j) (vU 0)) 24 none)) ?_ k _ _ ⟨0,rfl,rfl,by omega,k0,h0,z00,by rw [zw]; simp [Mm.rds]⟩
 rintro st S1 n ⟨j,rfl,rfl,hj,k1,hM,hz,hb⟩
 simp only [wps]
 obtain ⟨g1,g2,g3,g4⟩:=Mm.rds_len ((rowO a k).take j) m
 refine ⟨λ h3=>?_,λ h3=>?_⟩
 ·have hj':j < k:=by omega
  have hjA:j < (rowO a k).length:=by omega
  have eA:=rowO_get hjA
  have hb0:=pre_lt hb
  have hl1:(m.rds ((rowO a k).take j)).1.length=j:=by rw [g2]; simp;omega
  simp only [wps,cell_blk hz,gcz,gcs]
  rw [wI_ (n:=a+(j:Int)) (by omega) (by omega),wI_ (n:=(j:Int)+1) (by omega) (by omega),<- eA]
  refine (load_w hM (by rw [g1,eA]; omega) (by rw [g3]; simp;omega)).mono ?_
  rintro _ S2 ⟨rfl,k2,hM2⟩
  have hb2:=k2.get hb nT1
  have hb2l:=pre_lt hb2
  have e:=rds_take (m:=m) hjA
  simp only [wps,hb2,Int.toNat_natCast]
  refine ⟨by omega,by simp;omega,k-(j+1),by omega,j+1,rfl,rfl,by omega,?_,?_,?_,?_⟩
  ·have k12:=k1.trans k2
   exact ⟨by rw [List.length_set]; exact k12.len,λ i hi hn=>by rw [List.getElem?_set_ne (by omega),k12.keep i hi hn]⟩
  ·rw [e]; exact hM2.kp (M:=[Y.length]) ⟨by simp,λ i hi hn=>by rw [List.getElem?_set_ne]; rintro rfl;simp at hn⟩ (λ i hi=>by have:=hTlt i hi;simp;omega)
  ·rw [List.getElem?_set_ne (by omega)]; exact k2.get hz nT
  ·rw [List.getElem?_set_self hb2l,e,splice_set (by simp;omega),List.set_append_right _ _ (by simp;omega)]
   simp only [List.length_map,hl1,Nat.sub_self]
   rw [show k-j=(k-(j+1))+1 by omega,List.replicate_succ,List.set_cons_zero,List.map_append]
   simp
 ·obtain rfl:j=k:=by omega
  rw [List.take_of_length_le (by omega)] at hM hb
  refine ⟨k1,hM,?_⟩
  rw [hb,Nat.sub_self]
  simp only [List.replicate_zero,List.append_nil]
  rw [List.map_eq_flatMap]; rfl
theorem rowthere_w {S:St} {b:Nat} {m:Mm} {T:List Nat} (h:MS S b m T) {a n:Int}:Sp (gq5l [vA [.pointer (some ⟨b,0,none⟩),vI a,vI n]]) S λ v _=>v=vB (m.hasN a n):=by
 unfold Sp
 rw [gq5l_eq]
 have p0:=List.prefix_append S [AObj.cells [.pointer (some ⟨b,0,none⟩),vI a,vI n] 145 none]
 have z0:=get_new (S:=S) (o:=AObj.cells [.pointer (some ⟨b,0,none⟩),vI a,vI n] 145 none)
 simp only [wps,cell_blk z0,gcz,gcs]
 refine (there_w (h.pre p0)).use ?_
 rintro _ S1 k1 rfl
 simp only [wps]
 exact p0.trans k1
def askedV (m:Mm) (p n a more:Int):Int:=if known p=false then 2 else if n < 1\/4096 < n\/m.hasN a (n+more)=false then 1 else 0
theorem asked_w {S:St} {b:Nat} {m:Mm} {T:List Nat} (h:MS S b m T) {p n a more:Int} (hm:0<=more/\more<=100):Sp (gq5i [.pointer (some ⟨b,0,none⟩),vU p,vI n,vI a,vI more]) S λ v _=>v=vI (askedV m p n a more):=by
 unfold Sp
 rw [gq5i_eq]
 simp only [wps,known_w]
 unfold askedV
 refine ⟨λ hk=>⟨List.prefix_refl _,by rw [if_pos hk]⟩,λ hk=>?_⟩
 rw [if_neg (by rw [hk]; simp)]
 refine ⟨λ h1=>⟨List.prefix_refl _,by rw [if_pos (.inl h1)]⟩,λ h1=>⟨λ h2=>⟨List.prefix_refl _,by rw [if_pos (.inr (.inl h2))]⟩,λ h2=>?_⟩⟩
 rw [wI_ (n:=n+more) (by omega) (by omega)]
 refine (there_w h).use ?_
 rintro _ S1 k1 rfl
 simp only [wps]
 cases hc:m.hasN a (n+more)
 ·simp [k1]
 ·simp [k1,h1,h2]
set_option maxHeartbeats 1000000 in
theorem lay_w {S:St} {b:Nat} {m:Mm} {T:List Nat} (h:MS S b m T) {la:Option Addr} {ln lc:Nat} {l:List Int} (hl:Ar S la ln 1 eU l) (hlT:∀ y,la=some y->l≠[]->y.block∉T) {a:Int} (hu:∀ y∈l,Go.Proofs.YtpecnaacgkgjmaaGreatDoor.u64r y) (ht:0<=m.t/\m.t < 2305843009213693952) (hln:ln<=100000) :
 WP (gq5e [.pointer (some ⟨b,0,none⟩),.slice la ln lc,vI a]) S λ v S'=>v=vI (layV m l a).1/\Kp T S S'/\MS S' b (layV m l a).2 T:=by
 rw [gq5e_eq]
 have hw:=h.w
 have hln':=hl.1
 simp only [wps]
 refine (rowthere_w h).use ?_
 rintro _ S1 k1 rfl
 have h1:=h.pre k1
 have hl1:=hl.mono k1
 simp only [wps]
 unfold layV
 rw [<- hln']
 refine ⟨λ e=>⟨by rw [if_neg (by rw [e]; simp)],Kp.of k1,by rw [if_neg (by rw [e]; simp)]; exact h1⟩,λ e=>?_⟩
 obtain ⟨e1,e2,e3⟩:=hasN_in e
 rw [if_pos e]
 dsimp only
 generalize hP:(rowO a ln).zip l=P
 have lP:P.length=ln:=by rw [<- hP,List.length_zip,rowO_len]; omega
 refine wp_loop (λ st S' n=>∃ j:Nat,st=[vN j]/\n=ln-j/\j<=ln/\Kp T S S'/\MS S' b (m.wrs (P.take j)) T) ?_ ln _ _ ⟨0,rfl,rfl,by omega,Kp.of k1,h1⟩
 rintro st S2 n ⟨j,rfl,rfl,hj,k2,hM⟩
 simp only [wps]
 obtain ⟨g1,g2,g3⟩:=Mm.wrs_len (P.take j) m
 refine ⟨λ h3=>?_,λ h3=>?_⟩
 ·have hj':j < ln:=by omega
  have hjP:j < P.length:=by omega
  have hl2:Ar S2 la ln 1 eU l:=k2.ar hl λ hne y hy=>hlT y hy hne
  obtain ⟨y,rfl,c0⟩:=hl2.getU (i:=j) (by omega)
  have eP1:P[j].1=a+(j:Int):=by
   have : P[j]=((rowO a ln)[j]'(by rw [rowO_len]; omega),l[j]):=by simp [<- hP]
   rw [this,rowO_get]
  have eP2:P[j].2=l[j]:=by simp [<- hP]
  simp only [wps,c0,Int.toNat_natCast]
  rw [wI_ (n:=a+(j:Int)) (by omega) (by omega),wI_ (n:=(j:Int)+1) (by omega) (by omega),<- eP1,<- eP2]
  refine ⟨by omega,?_⟩
  refine (store_w hM (by rw [g1,eP1]; omega) (by rw [g2]; simp;omega) (by rw [eP2]; exact hu _ (List.getElem_mem _))).mono ?_
  rintro _ S3 ⟨rfl,k3,hM3⟩
  simp only [wps]
  exact ⟨ln-(j+1),by omega,j+1,rfl,rfl,by omega,k2.trans k3,by rw [wrs_take hjP]; exact hM3⟩
 ·obtain rfl:j=ln:=by omega
  rw [List.take_of_length_le (by omega)] at hM
  exact ⟨k2,hM⟩
theorem agrees_w {S:St} {p:Int} {s:Int×Int} {a:Option Addr} {n c:Nat} {l:List Int} (hk:known p=true) (hl:Ar S a n 1 eU l) (hn:n<=4096) (hu:∀ y∈l,inU y) :
 Sp (gq5m [vA [vU p,vU s.1,vU s.2],.slice a n c]) S λ v _=>v=vB (agreesV p s l):=by
 unfold Sp
 rw [gq5m_eq]
 have hln:=hl.1
 have p0:=List.prefix_append S [AObj.cells [vU p,vU s.1,vU s.2] 159 none]
 have z0:=get_new (S:=S) (o:=AObj.cells [vU p,vU s.1,vU s.2] 159 none)
 simp only [wps,cell_blk z0,gcz,gcs]
 generalize S++[AObj.cells [vU p,vU s.1,vU s.2] 159 none]=Y at p0 z0 ⊢
 refine (codeSums_w (c:=c) hk (hl.mono p0) hn hu).mono ?_
 rintro _ S1 ⟨rfl,k1⟩
 have p1:=p0.trans k1
 have pz:=List.prefix_append S1 [AObj.cells [vU (sumsV p l).1,vU (sumsV p l).2] 40 none]
 have zz:=get_new (S:=S1) (o:=AObj.cells [vU (sumsV p l).1,vU (sumsV p l).2] 40 none)
 have z1:=pre_get pz (pre_get k1 z0)
 have hin:=in_w (p:=p) (c:=c) (hl.mono (p1.trans pz)) (by omega)
 generalize hZ:S1++[AObj.cells [vU (sumsV p l).1,vU (sumsV p l).2] 40 none]=Z at pz zz z1 hin
 have e0:∀ q s:Int×Int,eqL [vU q.1,vU q.2] [vU s.1,vU s.2]=decide (q=s):=by
  rintro ⟨a,b⟩ ⟨c,d⟩
  rw [Bool.eq_iff_iff]
  simp [eqL]
 simp only [wps,hZ,cell_blk z1,cell_blk zz,gcz,gcs,e0,hin.wp]
 have pf:=p1.trans pz
 unfold agreesV inV
 rw [hk,<- hln]
 refine ⟨λ e=>⟨pf,?_⟩,λ e=>⟨pf,?_⟩⟩
 ·rw [decide_eq_true e,decide_eq_true hn]
  simp only [Bool.and_true,Bool.true_and]
  have : (l.all λ a=>decide (a < p))=decide (∀ y∈l,y < p):=by rw [Bool.eq_iff_iff]; simp
  rw [this]
 ·rw [decide_eq_false e]; simp
theorem sound_w {S:St} {b:Nat} {m:Mm} {T:List Nat} (h:MS S b m T) {p n a:Int} {s:Int×Int} (ht:0<=m.t/\m.t < 2305843009213693952) :
 WP (gq5h [.pointer (some ⟨b,0,none⟩),vU p,vI n,vI a,vA [vU s.1,vU s.2]]) S λ v S'=>v=vT [vB (soundV m p n a s).1.1,vI (soundV m p n a s).1.2]/\Kp T S S'/\MS S' b (soundV m p n a s).2 T:=by
 rw [gq5h_eq]
 have p0:=List.prefix_append S [AObj.cells [vU s.1,vU s.2] 40 none]
 have z0:=get_new (S:=S) (o:=AObj.cells [vU s.1,vU s.2] 40 none)
 simp only [wps]
 generalize S++[AObj.cells [vU s.1,vU s.2] 40 none]=Y at p0 z0 ⊢
 have h0:=h.pre p0
 refine (asked_w h0 (by omega)).use ?_
 rintro _ S1 k1 rfl
 have h1:=h0.pre k1
 have z1:=pre_get k1 z0
 have p1:=p0.trans k1
 have hw:=h.w
 simp only [wps,cell_blk z1,gcz,gcs]
 unfold askedV soundV
 simp only [Int.add_zero]
 by_cases hk:known p=false
 ·rw [if_pos hk,if_pos hk]
  exact ⟨λ _=>⟨rfl,Kp.of p1,h1⟩,λ e=>absurd e (by decide)⟩
 rw [if_neg hk,if_neg hk]
 by_cases hc:n < 1\/4096 < n\/m.hasN a n=false
 ·rw [if_pos hc,if_pos hc]
  exact ⟨λ _=>⟨rfl,Kp.of p1,h1⟩,λ e=>absurd e (by decide)⟩
 rw [if_neg hc,if_neg hc]
 refine ⟨λ e=>absurd rfl e,λ _=>?_⟩
 have hN:m.hasN a n=true:=by
  cases hN:m.hasN a n
  ·exact absurd (.inr (.inr hN)) hc
  ·rfl
 obtain ⟨e1,e2,e3⟩:=hasN_in hN
 have hk:known p=true:=by simpa using hk
 obtain ⟨k,rfl⟩:=Int.eq_ofNat_of_zero_le e2
 have hl:=rowload_w h1 (a:=a) (k:=k) ⟨e1,by omega⟩ ⟨by omega,by omega⟩
 rw [gq5j_eq]
 simp only [wps,Nat.reduceBEq,Bool.false_eq_true,false_implies,true_implies,true_and,and_true,Bool.true_eq_false,reduceCtorEq,forall_const]
 refine hl.mono ?_
 rintro _ S2 ⟨rfl,k2,h2,hb⟩
 have rl:=(Mm.rds_len (rowO a k) m).2.1
 rw [rowO_len] at rl
 have hr:Ar S2 (some ⟨S1.length+1,0,none⟩) k 1 eU (m.rds (rowO a k)).1:=by
  have:=Ar.blk (w:=1) hb (λ _ _=>rfl) rfl
  rwa [rl] at this
 have hu:∀ y∈(m.rds (rowO a k)).1,inU y:=λ y hy=>by
  have:=(h.ok.rds (rowO a k)).2 y hy
  exact ⟨this.1,by have:=this.2;omega⟩
 simp only [wps,Nat.reduceBEq,Bool.false_eq_true,false_implies,true_implies,true_and,and_true,Bool.true_eq_false,reduceCtorEq,forall_const]
 refine (agrees_w (c:=k) (s:=s) hk hr (by omega) hu).use ?_
 rintro _ S3 k3 rfl
 simp only [wps]
 exact ⟨((Kp.of p1).trans k2).more k3,h2.pre k3⟩
theorem equal_w {S:St} {p r:Option Addr} {n m c d:Nat} {x y:List Int} (h:Ar S p n 1 eU x) (k:Ar S r m 1 eU y) (hn:n<=140737488355328) :
 Gv (gq4l [.slice p n c,.slice r m d]) S (vB (decide (x=y))):=by
 have h1:=h.1
 have k1:=k.1
 refine .of ?_
 rw [gq4l_eq]
 simp only [wps]
 refine ⟨λ e=>?_,λ e=>?_⟩
 ·have : x≠y:=λ q=>e (by rw [h1,k1,q])
  simp [this]
 refine wp_loop (λ st S' t=>∃ j:Nat,st=[vI j]/\j<=n/\t=n-j/\S'=S/\x.take j=y.take j) ?_ n _ _ ⟨0,rfl,by omega,by omega,rfl,rfl⟩
 rintro st S' t ⟨j,rfl,hj,rfl,rfl,ht⟩
 simp only [wps]
 refine ⟨λ h3=>⟨h3,?_⟩,λ h3=>?_⟩
 ·have hx:j < x.length:=by omega
  have hy:j < y.length:=by omega
  obtain ⟨a,rfl,c0⟩:=h.getU hx
  obtain ⟨b,rfl,d0⟩:=k.getU hy
  simp only [wps,c0,d0]
  rw [wI_ (n:=(j:Int)+1) (by omega) (by omega)]
  refine ⟨by omega,λ e3=>?_,λ e3=>?_⟩
  ·have : x≠y:=λ q=>e3 (by subst q;rfl)
   simp [this]
  ·exact ⟨n-(j+1),by omega,j+1,rfl,by omega,rfl,take_eq_step ht hx hy e3⟩
 ·rw [List.take_of_length_le (by omega),List.take_of_length_le (by omega)] at ht
  simp [ht]
theorem holds_w {S:St} {b:Nat} {m:Mm} {T:List Nat} (h:MS S b m T) {la:Option Addr} {ln lc:Nat} {l:List Int} (hl:Ar S la ln 1 eU l) (hlT:∀ y,la=some y->l≠[]->y.block∉T) {a:Int} (ht:0<=m.t/\m.t < 2305843009213693952) (hln:ln<=100000) :
 WP (gq5c [.pointer (some ⟨b,0,none⟩),.slice la ln lc,vI a]) S λ v S'=>v=vT [vB (holdsV m l a).1.1,vI (holdsV m l a).1.2]/\Kp T S S'/\MS S' b (holdsV m l a).2 T:=by
 rw [gq5c_eq]
 have hTlt:=h.lt
 have hw:=h.w
 have hln':=hl.1
 have p0:=List.prefix_append S [AObj.cells [.slice la ln lc] 22 none]
 have z0:=get_new (S:=S) (o:=AObj.cells [.slice la ln lc] 22 none)
 simp only [wps,cell_blk z0,gcz,gcs]
 have hYl:(S++[AObj.cells [.slice la ln lc] 22 none]).length=S.length+1:=by simp
 generalize S++[AObj.cells [.slice la ln lc] 22 none]=Y at p0 z0 hYl ⊢
 have py:=List.prefix_append Y [AObj.cells [.pointer (some ⟨b,0,none⟩),vI a,vN ln] 145 none]
 have zy:=get_new (S:=Y) (o:=AObj.cells [.pointer (some ⟨b,0,none⟩),vI a,vN ln] 145 none)
 have z0y:=pre_get py z0
 have h0:=h.pre (p0.trans py)
 generalize Y++[AObj.cells [.pointer (some ⟨b,0,none⟩),vI a,vN ln] 145 none]=Z at py zy z0y h0 ⊢
 have nT:S.length∉T:=λ hx=>by have:=hTlt _ hx;omega
 refine (rowthere_w h0).use ?_
 rintro _ S1 k1 rfl
 have p1:=(p0.trans py).trans k1
 have h1:=h0.pre k1
 have zy1:=pre_get k1 zy
 have z01:=pre_get k1 z0y
 simp only [wps,cell_blk zy1,gcz,gcs]
 unfold holdsV
 rw [<- hln']
 refine ⟨λ e=>?_,λ e=>?_⟩
 ·rw [if_neg (by rw [e]; simp)]
  exact ⟨rfl,Kp.of p1,h1⟩
 rw [if_pos e]
 obtain ⟨e1,e2,e3⟩:=hasN_in e
 have hld:=rowload_w h1 (a:=a) (k:=ln) ⟨e1,by omega⟩ ⟨by omega,by omega⟩
 rw [gq5j_eq]
 simp only [wps,Nat.reduceBEq,Bool.false_eq_true,false_implies,true_implies,true_and,and_true,Bool.true_eq_false,reduceCtorEq,forall_const]
 refine hld.mono ?_
 rintro _ S2 ⟨rfl,k2,h2,hb⟩
 have rl:=(Mm.rds_len (rowO a ln) m).2.1
 rw [rowO_len] at rl
 have hr:Ar S2 (some ⟨S1.length+1,0,none⟩) ln 1 eU (m.rds (rowO a ln)).1:=by
  have:=Ar.blk (w:=1) hb (λ _ _=>rfl) rfl
  rwa [rl] at this
 have z02:=k2.get z01 nT
 have hl2:Ar S2 la ln 1 eU l:=((Kp.of p1).trans k2).ar hl λ hne y hy=>hlT y hy hne
 simp only [wps,Nat.reduceBEq,Bool.false_eq_true,false_implies,true_implies,true_and,and_true,Bool.true_eq_false,reduceCtorEq,forall_const,gq5d_eq,cell_blk z02,List.getElem?_cons_zero,(equal_w (c:=ln) (d:=lc) hr hl2 (by omega)).wp]
 exact ⟨(Kp.of p1).trans k2,h2⟩
theorem fx_set:∀ (l:List Fx) (j:Nat) (hj:j < l.length) (v:Int),splice (l.flatMap eFx) (j*3) [vI v]=(l.set j ⟨v,l[j].bad,l[j].good⟩).flatMap eFx:=by
 intro l j hj v
 have hlen:∀ l:List Fx,(l.flatMap eFx).length=l.length*3:=flat_len λ _=>rfl
 have key:∀ (l:List Fx) (j:Nat) (hj:j < l.length),(l.flatMap eFx).set (j*3) (vI v)=(l.set j ⟨v,l[j].bad,l[j].good⟩).flatMap eFx:=by
  intro l
  induction l with
  | nil=>intro j hj;simp at hj
  | cons x l ih=>
    intro j hj
    cases j with
    | zero=>rfl
    | succ j=>
      rw [List.flatMap_cons,List.set_cons_succ,List.flatMap_cons,List.set_append_right _ _ (by simp;omega)]
      congr 1
      have:=ih j (by simpa using hj)
      rw [show (j+1)*3-(eFx x).length=j*3 by simp;omega]
      exact this
 rw [splice_set (by rw [hlen]; omega)]
 exact key l j hj
def upTo (a:Int) (F:List Fx) (j:Nat):List Fx:=(F.take j).map (Fx.up a)++F.drop j
theorem upTo_len (a:Int) (F:List Fx) (j:Nat) (h:j<=F.length):(upTo a F j).length=F.length:=by unfold upTo;simp;omega
theorem upTo_succ (a:Int) (F:List Fx) {j:Nat} (h:j < F.length):(upTo a F j).set j ⟨F[j].ad+a,F[j].bad,F[j].good⟩=upTo a F (j+1):=by
 unfold upTo
 have hl:((F.take j).map (Fx.up a)).length=j:=by simp;omega
 rw [List.set_append_right _ _ (by omega),hl,Nat.sub_self,take_snoc h,List.map_append,List.append_assoc,List.drop_eq_getElem_cons h,List.set_cons_zero]
 rfl
theorem upTo_get (a:Int) (F:List Fx) {j:Nat} (h:j < F.length):(upTo a F j)[j]? = some F[j]:=by
 have hl:((F.take j).map (Fx.up a)).length=j:=by simp;omega
 unfold upTo
 rw [List.getElem?_append_right (by omega),hl,Nat.sub_self,List.getElem?_drop,Nat.add_zero,List.getElem?_eq_getElem h]
set_option maxHeartbeats 2000000 in
theorem scrub_w {S:St} {b:Nat} {m:Mm} {T:List Nat} (h:MS S b m T) {p n a:Int} (ht:0<=m.t/\m.t < 1152921504606846976) :
 WP (gq5g [.pointer (some ⟨b,0,none⟩),vU p,vI n,vI a]) S λ v S'=>∃ fa,v=vT [.slice fa (scrubV m p n a).1.1.1.length (scrubV m p n a).1.1.1.length,vA [vU (scrubV m p n a).1.1.2.1,vU (scrubV m p n a).1.1.2.2],vI (scrubV m p n a).1.2]/\Kp T S S'/\MS S' b (scrubV m p n a).2 T/\OwnF S.length S' fa (scrubV m p n a).1.1.1:=by
 rw [gq5g_eq]
 have hw:=h.w
 have hTlt:=h.lt
 simp only [wps,List.append_assoc,List.cons_append,List.nil_append,List.length_append,List.length_cons,List.length_nil,Nat.zero_add,Nat.reduceAdd,Nat.add_assoc]
 generalize hY:S++[AObj.cells [vU 0,vU 0] 40 none,AObj.cells [vU 0,vU 0] 40 none]=Y
 have p0:S <+: Y:=⟨_,hY⟩
 have z0:Y[S.length]? = some (AObj.cells [vU 0,vU 0] 40 none):=by rw [<- hY]; exact gA0
 have z1:Y[S.length+1]? = some (AObj.cells [vU 0,vU 0] 40 none):=by rw [<- hY]; exact gA
 have hYl:Y.length=S.length+2:=by rw [<- hY]; simp
 have n0:S.length∉T:=λ hx=>by have:=hTlt _ hx;omega
 have n1:S.length+1∉T:=λ hx=>by have:=hTlt _ hx;omega
 have h0:=h.pre p0
 have errs:∀ {S':St} {m':Mm},S'[S.length]? = some (AObj.cells [vU 0,vU 0] 40 none)->Kp T S S'->MS S' b m' T->(S'.set S.length (AObj.cells [vU 0,vU 0] 40 none))[S.length]? = some (AObj.cells [vU 0,vU 0] 40 none)/\Kp T S (S'.set S.length (AObj.cells [vU 0,vU 0] 40 none))/\MS (S'.set S.length (AObj.cells [vU 0,vU 0] 40 none)) b m' T:=fun {S' m'} z k hm=>by
  have hl:=pre_lt z
  refine ⟨List.getElem?_set_self hl,⟨by rw [List.length_set]; exact k.len,λ i hi hn=>by rw [List.getElem?_set_ne (by omega),k.keep i hi hn]⟩,hm.kp (M:=[S.length]) ⟨by simp,λ i hi hn=>by rw [List.getElem?_set_ne]; rintro rfl;simp at hn⟩ (λ i hi=>by have:=hTlt i hi;simp;omega)⟩
 refine (asked_w h0 (by omega)).use ?_
 rintro _ S1 k1 rfl
 have h1:=h0.pre k1
 have p1:=p0.trans k1
 have z01:=pre_get k1 z0
 have z11:=pre_get k1 z1
 have hl1:=k1.length_le
 obtain ⟨q1,q2,q3⟩:=errs z01 (Kp.of p1) h1
 simp only [wps,cell_blk z11,z01,gcz,gcs,List.drop_succ_cons,List.drop_zero,List.drop_nil,cell_blk q1]
 unfold askedV scrubV
 by_cases hk:known p=false
 ·rw [if_pos hk,if_pos hk]
  exact ⟨λ _=>⟨none,rfl,q2,q3,.inl ⟨rfl,rfl⟩⟩,λ e=>absurd e (by decide)⟩
 rw [if_neg hk,if_neg hk]
 by_cases hc:n < 1\/4096 < n\/m.hasN a (n+6)=false
 ·rw [if_pos hc,if_pos hc]
  exact ⟨λ _=>⟨none,rfl,q2,q3,.inl ⟨rfl,rfl⟩⟩,λ e=>absurd e (by decide)⟩
 rw [if_neg hc,if_neg hc]
 refine ⟨λ e=>absurd rfl e,λ _=>?_⟩
 have hN:m.hasN a (n+6)=true:=by
  cases hN:m.hasN a (n+6)
  ·exact absurd (.inr (.inr hN)) hc
  ·rfl
 obtain ⟨e1,e2,e3⟩:=hasN_in hN
 have hk:known p=true:=by simpa using hk
 obtain ⟨k,rfl⟩:=Int.eq_ofNat_of_zero_le (show 0<=n by omega)
 rw [show wI ((k:Int)+6)=((k+6:Nat):Int) by rw [wI_ (by omega) (by omega)]; omega]
 refine (rowload_w h1 (a:=a) (k:=k+6) ⟨e1,by omega⟩ ⟨by omega,by omega⟩).mono ?_
 rintro _ S2 ⟨rfl,k2,h2,hb⟩
 have rl:=(Mm.rds_len (rowO a (k+6)) m).2.1
 rw [rowO_len] at rl
 have hr:Ar S2 (some ⟨S1.length+1,0,none⟩) (k+6) 1 eU (m.rds (rowO a (k+6))).1:=by
  have:=Ar.blk (w:=1) hb (λ _ _=>rfl) rfl
  rwa [rl] at this
 have hu:∀ y∈(m.rds (rowO a (k+6))).1,inU y:=λ y hy=>by
  have:=(h.ok.rds (rowO a (k+6))).2 y hy
  exact ⟨this.1,by have:=this.2;omega⟩
 have kp2:=(Kp.of p1).trans k2
 have z02:=k2.get z01 n0
 have z12:=k2.get z11 n1
 simp only [wps]
 refine (fix_w (p:=p) (cc:=k+6) hr (Nat.le_refl _) (by omega) hu).mono ?_
 rintro v S3 ⟨k3,hfx⟩
 have z03:=pre_get k3 z02
 have z13:=pre_get k3 z12
 have kp3:=kp2.more k3
 have h3:=h2.pre k3
 have hsd:=λ good fx=>fix_sound (p:=p) (c:=(m.rds (rowO a (k+6))).1) (λ y hy=>(hu y hy).1) (good:=good) (fx:=fx)
 generalize fixV p (m.rds (rowO a (k+6))).1=F at hfx hsd ⊢
 have hR:(m.rds (rowO a (k+6))).2.W.length=m.W.length/\(m.rds (rowO a (k+6))).2.t=m.t+((k+6:Nat):Int):=⟨(Mm.rds_len _ m).1,by rw [(Mm.rds_len _ m).2.2.1,rowO_len]⟩
 generalize m.rds (rowO a (k+6))=R at hR hb hr hu h2 h3 rl hsd ⊢
 rcases hfx with ⟨he,rfl⟩ | ⟨he,gb,fa,rfl,hg,ho,hne,hge,hlt⟩
 ·obtain ⟨q1,q2,q3⟩:=errs z03 kp3 h3
  simp only [wps,cell_blk z13,z03,gcz,gcs,List.drop_succ_cons,List.drop_zero,List.drop_nil,cell_blk q1]
  rw [if_pos he]
  exact ⟨λ _=>⟨none,rfl,q2,q3,.inl ⟨rfl,rfl⟩⟩,λ e=>absurd e he⟩
 ·obtain ⟨⟨good,fx⟩,z⟩:=F
  dsimp only at he hg ho
  subst he
  obtain ⟨x,_,hxl,hx1,hx2,hxi,hgd,hfl,hfa,hmd⟩:=hsd good fx rfl
  rw [if_neg (by simp)]
  simp only [wps]
  have hl12:=k2.len
  have hl23:=k3.length_le
  have hmW:R.2.W.length=m.W.length:=hR.1
  have hmt:R.2.t=m.t+((k+6:Nat):Int):=hR.2
  have hcl:R.1.length=k+6:=rl
  refine wp_loop (λ st S' n=>∃ j:Nat,st=[vN j]/\n=fx.length-j/\j<=fx.length/\S3.length<=S'.length/\(∀ i,i < S3.length->i∉T->fa≠some ⟨i,0,none⟩->S'[i]? = S3[i]?)/\MS S' b (R.2.wrs (((fx.take j).map (Fx.up a)).map Fx.st)) T/\OwnF S2.length S' fa (upTo a fx j)) ?_ fx.length _ _ ⟨0,rfl,rfl,by omega,Nat.le_refl _,λ _ _ _ _=>rfl,h3,ho⟩
  rintro st S4 _ ⟨j,rfl,rfl,hj,l4,k4,h4,o4⟩
  simp only [wps]
  refine ⟨λ h5=>?_,λ h5=>?_⟩
  ·have hj':j < fx.length:=by omega
   have hul:=upTo_len a fx j hj
   rcases o4 with ⟨_,e⟩ | ⟨fb,rfl,hfb,hb4⟩
   ·rw [e] at hul;simp at hul;omega
   have hA4:Ar S4 (some ⟨fb,0,none⟩) (upTo a fx j).length 3 eFx (upTo a fx j):=Ar.blk hb4 (λ _ _=>rfl) rfl
   have hgj:(upTo a fx j)[j]'(by omega)=fx[j]:=by
    have:=upTo_get a fx hj'
    rw [List.getElem?_eq_getElem (by omega)] at this
    exact Option.some.inj this
   obtain ⟨y,hy,c0,c1,c2⟩:=getFx hA4 (i:=j) (by omega)
   injection hy with hy
   subst hy
   rw [hgj] at c0 c1 c2
   have hfxj:=hfa fx[j] (List.getElem_mem _)
   have lfb:=pre_lt hb4
   have hbset:=fx_set (upTo a fx j) j (by omega) (fx[j].ad+a)
   rw [hgj,upTo_succ a fx hj'] at hbset
   have hfl:=flat_len (e:=eFx) (w:=3) (λ _=>rfl) (upTo a fx j)
   have w1:wI (fx[j].ad+a)=fx[j].ad+a:=wI_ (by omega) (by omega)
   simp only [add_off,Nat.zero_add] at c0 c1 c2
   have b5:(S4.set fb (AObj.cells ((upTo a fx (j+1)).flatMap eFx) 78 (some 3)))[fb]? = some (AObj.cells ((upTo a fx (j+1)).flatMap eFx) 78 (some 3)):=List.getElem?_set_self lfb
   have hul5:=upTo_len a fx (j+1) (by omega)
   have hgj5:(upTo a fx (j+1))[j]'(by omega)=⟨fx[j].ad+a,fx[j].bad,fx[j].good⟩:=by
    have : (upTo a fx (j+1))[j]? = some ⟨fx[j].ad+a,fx[j].bad,fx[j].good⟩:=by rw [<- upTo_succ a fx hj']; exact List.getElem?_set_self (by omega)
    rw [List.getElem?_eq_getElem (by omega)] at this
    exact Option.some.inj this
   have hA5:Ar (S4.set fb (AObj.cells ((upTo a fx (j+1)).flatMap eFx) 78 (some 3))) (some ⟨fb,0,none⟩) (upTo a fx (j+1)).length 3 eFx (upTo a fx (j+1)):=Ar.blk b5 (λ _ _=>rfl) rfl
   obtain ⟨y,hy,d0,d1,d2⟩:=getFx hA5 (i:=j) (by omega)
   injection hy with hy
   subst hy
   rw [hgj5] at d0 d1 d2
   simp only [add_off,Nat.zero_add] at d0 d1 d2
   have hfT:fb∉T:=λ hx=>by have:=hTlt _ hx;omega
   have h5m:MS (S4.set fb (AObj.cells ((upTo a fx (j+1)).flatMap eFx) 78 (some 3))) b (R.2.wrs (((fx.take j).map (Fx.up a)).map Fx.st)) T:=h4.kp (M:=[fb]) ⟨by simp,λ i hi hn=>by rw [List.getElem?_set_ne]; rintro rfl;simp at hn⟩ (λ i hi=>by simp;rintro rfl;exact hfT hi)
   obtain ⟨g1,g2,g3⟩:=Mm.wrs_len (((fx.take j).map (Fx.up a)).map Fx.st) R.2
   have hfl3:=hfl
   simp only [wps,c0,c1,c2,Int.toNat_natCast,w1,hb4,hbset,d0,d1,d2]
   refine ⟨by omega,by omega,by omega,by omega,by omega,?_⟩
   refine (store_w h5m (a:=fx[j].ad+a) (w:=fx[j].good) (by rw [g1,hmW]; omega) (by rw [g2,hmt]; simp;omega) (u64_of hk hfxj.2.2)).mono ?_
   rintro _ S6 ⟨rfl,k6,h6⟩
   simp only [wps]
   rw [wI_ (n:=(j:Int)+1) (by omega) (by omega)]
   have l6:=k6.len
   rw [List.length_set] at l6
   refine ⟨fx.length-(j+1),by omega,j+1,rfl,rfl,by omega,by omega,λ i hi hn hne'=>?_,?_,.inr ⟨fb,rfl,hfb,k6.get b5 hfT⟩⟩
   ·have hne2:i≠fb:=λ e=>hne' (by rw [e])
    rw [k6.keep i (by rw [List.length_set]; omega) hn,List.getElem?_set_ne (Ne.symm hne2),k4 i hi hn hne']
   ·have : ((fx.take (j+1)).map (Fx.up a)).map Fx.st=((fx.take j).map (Fx.up a)).map Fx.st++[(fx[j].ad+a,fx[j].good)]:=by
     rw [take_snoc hj',List.map_append,List.map_append]; rfl
    rw [this,Mm.wrs_app]
    exact h6
  ·obtain rfl:j=fx.length:=by omega
   have hgT:gb∉T:=λ hx=>by have:=hTlt _ hx;omega
   have hfg:fa≠some ⟨gb,0,none⟩:=λ e=>hne gb e rfl
   have hg4:Ar S4 (some ⟨gb,0,none⟩) (k+6) 1 eU good:=hg.keepL λ y hy=>by injection hy with hy;subst hy;exact k4 gb hlt hgT hfg
   have hgl:=hg.1
   have e0:good[k]? = some (good.getD k 0):=by rw [List.getD_eq_getElem?_getD,List.getElem?_eq_getElem (by omega)]; rfl
   have e3':good[k+3]? = some (good.getD (k+3) 0):=by rw [List.getD_eq_getElem?_getD,List.getElem?_eq_getElem (by omega)]; rfl
   have c0:=cellU hg4 k e0
   have c3:=cellU hg4 (k+3) e3'
   simp only [add_off,Nat.zero_add] at c0 c3
   have w3:wI ((k:Int)+3)=((k+3:Nat):Int):=by rw [wI_ (by omega) (by omega)]; omega
   have hfaS:fa≠some ⟨S.length,0,none⟩:=λ e=>by have:=(ho.lt _ e).1;omega
   have z04:S4[S.length]? = some (AObj.cells [vU 0,vU 0] 40 none):=by rw [k4 _ (pre_lt z03) n0 hfaS]; exact z03
   have z5:(S4.set S.length (AObj.cells [vU (good.getD k 0),vU (good.getD (k+3) 0)] 40 none))[S.length]? = some (AObj.cells [vU (good.getD k 0),vU (good.getD (k+3) 0)] 40 none):=List.getElem?_set_self (pre_lt z04)
   rw [List.take_of_length_le (Nat.le_refl _)] at h4
   have hup:upTo a fx fx.length=fx.map (Fx.up a):=by unfold upTo;simp
   rw [hup] at o4
   simp only [w3,wps,c0,c3,Int.toNat_natCast,z04,List.drop_succ_cons,List.drop_zero,List.drop_nil,cell_blk z5,gcz,gcs]
   refine ⟨by omega,by omega,fa,by rw [List.length_map],?_,?_,?_⟩
   ·refine ⟨by rw [List.length_set]; omega,λ i hi hn=>?_⟩
    rw [List.getElem?_set_ne (by omega),k4 i (by omega) hn (λ e=>by have:=(ho.lt _ e).1;omega),kp3.keep i hi hn]
   ·exact h4.kp (M:=[S.length]) ⟨by simp,λ i hi hn=>by rw [List.getElem?_set_ne]; rintro rfl;simp at hn⟩ (λ i hi=>by have:=hTlt i hi;simp;omega)
   ·rcases o4 with o4 | ⟨fb,e,hfb,hb4⟩
    ·exact .inl o4
    ·exact .inr ⟨fb,e,by omega,by rw [List.getElem?_set_ne (by omega)]; exact hb4⟩
end Go.AM
