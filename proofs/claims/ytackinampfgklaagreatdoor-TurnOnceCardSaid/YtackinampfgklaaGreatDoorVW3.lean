/-
  Part of the proof of a law: what the functions compute. Conditions: none.
-/
import Derived.Test.YtackinampfgklaaGreatDoorVW2
set_option linter.unusedVariables false
set_option linter.unusedSectionVars false
set_option linter.unusedSimpArgs false
set_option linter.deprecated false
set_option linter.unusedVariables false
set_option linter.unusedSimpArgs false
namespace Go.AM
open Go Go.Proofs.YtackinampfgklaaGreatDoor
theorem getFx {S:St} {p:Option Addr} {n:Nat} {l:List Fx} (h:Ar S p n 3 eFx l) {i:Nat} (hi:i < l.length) :
    ∃ a,p=some a∧S.cell (a.add (i*3))=some (vI l[i].ad)∧S.cell ((a.add (i*3)).add 1)=some (vU l[i].bad)∧S.cell ((a.add (i*3)).add 2)=some (vU l[i].good):=by
  obtain ⟨a,h1,h2⟩:=h.2 i hi
  exact ⟨a,h1,by have:=h2 0 _ rfl;rwa [add_zero_] at this,h2 1 _ rfl,h2 2 _ rfl⟩
set_option maxHeartbeats 1000000 in
theorem fixloop_w {S:St} {L n xc on oc:Nat} {xa ca a oa:Option Addr} {cc:Nat} {cl f0:List Fx} (hc:Ar S ca cl.length 3 eFx cl) (hf:OwnF L S a f0) (hL:L≤S.length) (hcl:cl.length≤100) (hf0:f0.length≤100) (hn:n≤1000000)
    (had:∀ f∈cl,0≤f.ad∧f.ad≤1000) (hne:∀ y,ca=some y→y.block < S.length∧a≠some ⟨y.block,0,none⟩) :
    WP (k_code_Fix_1 ⟨xa,n,xc⟩ ⟨ca,cl.length,cc⟩ ⟨oa,on,oc⟩ (0,[.slice a f0.length f0.length])) S fun q S'=>∃ fa,q=(0,[vT [.slice oa on oc,.slice fa (f0++cl.map (Fx.up n)).length (f0++cl.map (Fx.up n)).length,vI 0]])∧OwnF L S' fa (f0++cl.map (Fx.up n))∧(fa=a∨∃ b,fa=some ⟨b,0,none⟩∧S.length≤b)∧S.length≤S'.length∧∀ i,i < S.length→a≠some ⟨i,0,none⟩→S'[i]? = S[i]?:=by
  unfold k_code_Fix_1
  simp only [wps]
  refine wp_loop (fun st S' m=>∃ (j:Nat) (fa:Option Addr),st=[.slice fa (f0++(cl.take j).map (Fx.up n)).length (f0++(cl.take j).map (Fx.up n)).length,vN j]∧cl.length-j=m∧j≤cl.length∧OwnF L S' fa (f0++(cl.take j).map (Fx.up n))∧(fa=a∨∃ b,fa=some ⟨b,0,none⟩∧S.length≤b)∧S.length≤S'.length∧∀ i,i < S.length→a≠some ⟨i,0,none⟩→S'[i]? = S[i]?) ?_ cl.length _ _ ⟨0,a,by simp,rfl,by omega,by simpa using hf,.inl rfl,Nat.le_refl _,fun _ _ _=>rfl⟩
  rintro st S1 _ ⟨j,fa,rfl,rfl,hj,h1,h2,h3,h4⟩
  simp only [wps]
  refine ⟨fun h5=>?_,fun h5=>?_⟩
  · have hc1:Ar S1 ca cl.length 3 eFx cl:=hc.keepL fun y hy=>h4 _ (hne y hy).1 (hne y hy).2
    obtain ⟨y,rfl,b0,b1,b2⟩:=getFx hc1 (i:=j) (by omega)
    have hm:=had cl[j] (List.getElem_mem _)
    simp only [wps,Int.toNat_natCast,b0,b1,b2]
    rw [wI_ (n:=cl[j].ad+(n:Int)) (by omega) (by omega),wI_ (n:=(j:Int)+1) (by omega) (by omega)]
    have hp:=List.prefix_append S1 [AObj.cells [vI (cl[j].ad+(n:Int)),vU cl[j].bad,vU cl[j].good] 83 none]
    have hln:=hp.length_le
    generalize S1++[AObj.cells [vI (cl[j].ad+(n:Int)),vU cl[j].bad,vU cl[j].good] 83 none]=S2 at hp hln ⊢
    refine ⟨by omega,by omega,?_⟩
    refine wp_pushF (y:=⟨cl[j].ad+(n:Int),cl[j].bad,cl[j].good⟩) (h1.pre hp) rfl (by simp;omega) (by omega) ?_
    intro b S3 g1 g2 g3 g4 g5
    have hsn:f0++(cl.take (j+1)).map (Fx.up n)=(f0++(cl.take j).map (Fx.up n))++[⟨cl[j].ad+(n:Int),cl[j].bad,cl[j].good⟩]:=by
      rw [take_snoc (show j < cl.length by omega),List.map_append,← List.append_assoc]; rfl
    refine ⟨cl.length-(j+1),by omega,j+1,some ⟨b,0,none⟩,by rw [hsn]; simp [Nat.add_assoc],rfl,by omega,by rw [hsn]; exact g5,.inr ⟨b,rfl,by omega⟩,by omega,fun i hi hne'=>?_⟩
    rw [g4 i (by omega),pre_at hp (by omega),h4 i hi hne']
    rcases h2 with h2 | ⟨b',h2,h2'⟩
    · rw [h2]; exact hne'
    · rw [h2]; intro e;injection e with e;injection e with e;omega
  · obtain rfl:j=cl.length:=by omega
    rw [List.take_of_length_le (Nat.le_refl _)] at h1 ⊢
    exact ⟨fa,rfl,h1,h2,h3,h4⟩
theorem OwnF.blk {L:Nat} {S:St} {a:Option Addr} {out:List Fx} (h:OwnF L S a out) {y:Addr} (hy:a=some y):L≤y.block∧y.block < S.length∧y=⟨y.block,0,none⟩:=by
  rcases h with ⟨e,_⟩ | ⟨b,e,e2,hb⟩
  · rw [hy] at e;cases e
  · rw [hy] at e;injection e with e;subst e;exact ⟨e2,pre_lt hb,rfl⟩
theorem fixV_eq {p:Int} {c:List Int} (hk:known p=true) (h1:7≤c.length) (h2:c.length≤4102):fixV p c=(if (cellsV (c.drop (c.length-6))).2≠0 then (([],[]),10)
    else if ¬ ((cellsV (c.drop (c.length-6))).1.1.1 < p∧(cellsV (c.drop (c.length-6))).1.1.2 < p) then (([],[]),10)
    else if 1 < (wrongV p (c.take (c.length-6)) (cellsV (c.drop (c.length-6))).1.1).2 then (([],[]),10)
    else if (wrongV p (c.take (c.length-6)) (cellsV (c.drop (c.length-6))).1.1).2=1 then (((c.take (c.length-6)).set (wrongV p (c.take (c.length-6)) (cellsV (c.drop (c.length-6))).1.1).1.1.toNat (wrongV p (c.take (c.length-6)) (cellsV (c.drop (c.length-6))).1.1).1.2++sx (cellsV (c.drop (c.length-6))).1.1,⟨(wrongV p (c.take (c.length-6)) (cellsV (c.drop (c.length-6))).1.1).1.1,(c.take (c.length-6)).getD (wrongV p (c.take (c.length-6)) (cellsV (c.drop (c.length-6))).1.1).1.1.toNat 0,(wrongV p (c.take (c.length-6)) (cellsV (c.drop (c.length-6))).1.1).1.2⟩ :: (cellsV (c.drop (c.length-6))).1.2.map (Fx.up (c.take (c.length-6)).length)),0)
    else ((c.take (c.length-6)++sx (cellsV (c.drop (c.length-6))).1.1,(cellsV (c.drop (c.length-6))).1.2.map (Fx.up (c.take (c.length-6)).length)),0)):=by
  unfold fixV
  rw [if_neg (by rw [hk]; simp),if_neg (by omega)]
def FixR (S S':St) (n:Nat) (F:(List Int×List Fx)×Int) (v:Value):Prop:=S <+: S'∧((F.2≠0∧v=vT [.slice none 0 0,.slice none 0 0,vI F.2]) ∨
  (F.2=0∧∃ gb fa,v=vT [.slice (some ⟨gb,0,none⟩) n n,.slice fa F.1.2.length F.1.2.length,vI 0]∧Ar S' (some ⟨gb,0,none⟩) n 1 eU F.1.1∧OwnF S.length S' fa F.1.2∧(∀ i,fa=some ⟨i,0,none⟩→i≠gb)∧S.length≤gb∧gb < S'.length))
theorem FixR.err {S S':St} {n:Nat} {F:(List Int×List Fx)×Int} {e:Int} (h:S <+: S') (he:e≠0) (hF:F=(([],[]),e)):FixR S S' n F (vT [.slice none 0 0,.slice none 0 0,vI e]):=by
  subst hF;exact ⟨h,.inl ⟨he,rfl⟩⟩
set_option maxHeartbeats 2000000 in
theorem fix_w {S:St} {p:Int} {a:Option Addr} {n cc:Nat} {c:List Int} (h:Ar S a n 1 eU c) (hcc:n≤cc) (hb:n≤1000000) (hu:∀ y∈c,inU y) :
    WP (g_code_Fix [vU p,.slice a n cc]) S fun v S'=>FixR S S' n (fixV p c) v:=by
  rw [g_code_Fix_eq]
  simp only [wps]
  have hn:=h.1
  refine (parts_w (p:=p) h hcc hb).mono ?_
  rintro v S' ⟨e,hcs⟩
  obtain rfl:S=S':=e.symm
  rcases hcs with ⟨hk,rfl⟩ | ⟨hk,hn',rfl⟩ | ⟨hk,h7,h4,xa,xc,ta,tc,rfl,hx,ht,hxc,htc⟩
  · simp only [wps]
    exact ⟨fun _=>FixR.err (List.prefix_refl _) (by decide) (by unfold fixV;rw [if_pos hk]),fun e=>absurd e (by decide)⟩
  · simp only [wps]
    exact ⟨fun _=>FixR.err (List.prefix_refl _) (by decide) (by unfold fixV;rw [if_neg (by rw [hk]; simp),if_pos (by omega)]),fun e=>absurd e (by decide)⟩
  have hF:=fixV_eq hk (show 7≤c.length by omega) (by omega)
  rw [← hn] at hF
  generalize fixV p c=F at hF ⊢
  have hx1:∀ y∈c.take (n-6),inU y:=fun y hy=>hu y (List.mem_of_mem_take hy)
  have ht1:∀ y∈c.drop (n-6),inU y:=fun y hy=>hu y (List.mem_of_mem_drop hy)
  have hxl:(c.take (n-6)).length=n-6:=hx.1.symm
  have htl:(c.drop (n-6)).length=6:=ht.1.symm
  generalize c.take (n-6)=x at hx hx1 hxl hF ⊢
  generalize c.drop (n-6)=t at ht ht1 htl hF ⊢
  simp only [wps]
  have hcell:=cells6_w ht htc
  have hsound:=fun q l=>cells_sound htl (q:=q) (l:=l)
  generalize cellsV t=Q at hF hcell hsound
  obtain ⟨⟨q,cl⟩,zz⟩:=Q
  dsimp only at hF hcell
  refine hcell.mono ?_
  rintro _ S1 ⟨k1,⟨hc0,ob,fa,rfl,har,hown⟩ | ⟨hc0,rfl⟩⟩
  · subst hc0
    obtain ⟨b1,b2,b3,b4,b5⟩:=hsound q cl rfl
    have hin:=in_w (p:=p) (c:=2) har (by omega)
    have hq1:=ht1 _ b4
    have hq2:=ht1 _ b5
    rw [if_neg (by simp)] at hF
    have hinv:inV p [q.1,q.2]=decide (q.1 < p∧q.2 < p):=by unfold inV;rw [hk]; simp [Bool.decide_and]
    rw [hinv] at hin
    have c0:=cellU har 0 (v:=q.1) rfl
    have c1:=cellU har 1 (v:=q.2) rfl
    rw [add_zero_] at c0
    simp only [add_off,Nat.zero_add] at c1
    simp only [wps,hin.wp,c0,c1]
    refine ⟨fun hi2=>FixR.err k1 (by decide) (by rw [hF,if_pos hi2]),fun hi2=>?_⟩
    rw [if_neg (fun h=>h hi2)] at hF
    refine (wrong_w (c:=xc) (w0:=q.1) (w1:=q.2) hk (hx.mono k1) (by omega) hx1 hq1 hq2).mono ?_
    rintro _ S2 ⟨k2,rfl⟩
    have c02:=pre_cell k2 c0
    have c12:=pre_cell k2 c1
    have har2:=har.mono k2
    have hsl:(x++sixL q).length=n:=by rw [List.length_append]; show x.length+6=n;omega
    have had:∀ f∈cl,0≤f.ad∧f.ad≤1000:=fun f hf=>by have:=b2 f hf;omega
    have en:n-6+6=n:=by omega
    have exl:((n-6:Nat):Int)=(x.length:Int):=by rw [hxl]
    have hsw:=wrong_sound hk (x:=x) (w:=q) (fun y hy=>(hx1 y hy).1) ⟨⟨hq1.1,hi2.1⟩,⟨hq2.1,hi2.2⟩⟩
    rw [show ((q.1,q.2):Int×Int)=q from rfl]
    generalize wrongV p x q=r at hF hsw ⊢
    simp only [wps,c02,c12]
    refine ⟨fun e1=>FixR.err (k1.trans k2) (by decide) (by rw [hF,if_pos e1]),fun e1=>?_⟩
    rw [if_neg e1] at hF
    refine (whole_w (c:=xc) (q:=q) ((hx.mono k1).mono k2) (by omega)).mono ?_
    rintro _ S3 ⟨gb,rfl,hN⟩
    have k3:=hN.p
    have k03:=k1.trans (k2.trans k3)
    have hsw:r.2=1→∃ i:Nat,i < x.length∧r.1.1=i∧inP p r.1.2:=fun e=>by
      rcases hsw (by rw [e]; decide) with ⟨h0,_⟩ | ⟨_,i,hi,hi1,hi2',_⟩
      · rw [e] at h0;cases h0
      · exact ⟨i,hi,hi1,hi2'⟩
    have hown3:=hown.pre (k2.trans k3)
    have hgb:=hN.lt
    obtain ⟨gg,hat⟩:=hN.at_
    have lgb:=pre_lt hat
    have l03:=k03.length_le
    have l12:=(k1.trans k2).length_le
    have hne3:∀ y,fa=some y→S.length≤y.block∧y.block < S3.length∧y.block≠gb:=fun y hy=>by
      have h1:=(hown.pre k2).blk hy
      exact ⟨h1.1,by have:=k3.length_le;omega,by omega⟩
    simp only [wps]
    refine ⟨fun e2=>?_,fun e2=>?_⟩
    · rw [if_pos e2] at hF
      obtain ⟨i,hi,hi1,hi2'⟩:=hsw e2
      clear hsw
      have hgood:=inP_u hk hi2'
      rw [hi1] at hF ⊢
      rw [Int.toNat_natCast] at hF
      obtain ⟨y,rfl,cx⟩:=(hx.mono k03).getU (i:=i) hi
      have hgx:x.getD i 0=x[i]:=by rw [List.getD_eq_getElem?_getD,List.getElem?_eq_getElem hi]; rfl
      simp only [wps,Int.toNat_natCast,cx]
      refine ⟨by omega,?_⟩
      refine wp_pushF (L:=S.length) (a:=none) (n:=0) (out:=[]) (y:=⟨(i:Int),x[i],r.1.2⟩) (.inl ⟨rfl,rfl⟩) rfl (by omega) l03 ?_
      intro b4 S4 g1 g2 g3 g4 g5
      have hat4:S4[gb]? = some (.cells ((x++sixL q).flatMap eU) 24 gg):=by rw [g4 gb lgb (by intro e;cases e)]; exact hat
      have hput:=(Ob.refl (e:=eU) hat4).put (w:=1) (fun _=>rfl) (i:=i) (by omega) r.1.2
      have hfl:=flat_len (e:=eU) (w:=1) (fun _=>rfl) (x++sixL q)
      rw [Nat.mul_one] at hput
      simp only [wps,hat4]
      refine ⟨by omega,by omega,?_⟩
      have hl5:(S4.set gb (AObj.cells (splice ((x++sixL q).flatMap eU) i [vU r.1.2]) 24 gg)).length=S4.length:=List.length_set ..
      have k5:∀ j,j≠gb→(S4.set gb (AObj.cells (splice ((x++sixL q).flatMap eU) i [vU r.1.2]) 24 gg))[j]? = S4[j]?:=fun j hj=>List.getElem?_set_ne (Ne.symm hj)
      have a5:(S4.set gb (AObj.cells (splice ((x++sixL q).flatMap eU) i [vU r.1.2]) 24 gg))[gb]? = some (.cells (((x++sixL q).set i r.1.2).flatMap eU) 24 gg):=hput.at_
      generalize S4.set gb (AObj.cells (splice ((x++sixL q).flatMap eU) i [vU r.1.2]) 24 gg)=S5 at hl5 k5 a5 ⊢
      have hown5:OwnF S.length S5 fa cl:=hown3.keep fun j hj=>by
        have h3:=hne3 _ hj
        dsimp only at h3
        rw [k5 j h3.2.2,g4 j h3.2.1 (by intro e;cases e)]
      have g55:OwnF S.length S5 (some ⟨b4,0,none⟩) [⟨(i:Int),x[i],r.1.2⟩]:=OwnF.keep g5 fun j hj=>by
        injection hj with hj;injection hj with hj
        rw [k5 j (by omega)]
      refine (fixloop_w (L:=S.length) (xa:=some y) (xc:=xc) (on:=n-6+6) (oc:=n-6+6) (oa:=some ⟨gb,0,none⟩) (cc:=cl.length) (n:=n-6) (cl:=cl) hown5.ar g55 (by omega) (by omega) (by simp) (by omega) had fun z hz=>⟨by have:=hne3 z hz;omega,by
        intro e;injection e with e;injection e with e
        have:=hne3 z hz;omega⟩).mono ?_
      rintro _ S6 ⟨fa',rfl,ho,hfa,hl6,k6⟩
      simp only [wps]
      have a6:S6[gb]? = some (.cells (((x++sixL q).set i r.1.2).flatMap eU) 24 gg):=by
        rw [k6 gb (by omega) (by intro e;injection e with e;injection e with e;omega)]; exact a5
      have hgoodeq:(x++sixL q).set i r.1.2=x.set i r.1.2++sx q:=by rw [List.set_append,if_pos hi]; rfl
      have hF2:F=((x.set i r.1.2++sx q,[⟨(i:Int),x[i],r.1.2⟩]++cl.map (Fx.up ((n-6:Nat):Int))),0):=by rw [hF,hgx,exl]; rfl
      rw [hF2,en]
      refine ⟨pre_of_keep k03 (by omega) fun j hj=>by rw [k6 j (by omega) (by intro e;injection e with e;injection e with e;omega),k5 j (by omega),g4 j (by omega) (by intro e;cases e)],.inr ⟨rfl,gb,fa',rfl,?_,ho,?_,by omega,by omega⟩⟩
      · have:=Ar.blk (w:=1) a6 (fun _ _=>rfl) rfl
        rw [List.length_set,hsl,hgoodeq] at this
        exact this
      · intro j hj
        rcases hfa with hfa | ⟨b,hfa,hb⟩
        · rw [hfa] at hj;injection hj with hj;injection hj with hj;omega
        · rw [hfa] at hj;injection hj with hj;injection hj with hj;omega
    · clear hsw
      rw [if_neg e2] at hF
      refine (fixloop_w (L:=S.length) (xa:=xa) (xc:=xc) (on:=n-6+6) (oc:=n-6+6) (oa:=some ⟨gb,0,none⟩) (cc:=cl.length) (a:=none) (f0:=[]) (n:=n-6) (cl:=cl) hown3.ar (.inl ⟨rfl,rfl⟩) l03 (by omega) (by simp) (by omega) had fun z hz=>⟨(hne3 z hz).2.1,by intro e;cases e⟩).mono ?_
      rintro _ S6 ⟨fa',rfl,ho,hfa,hl6,k6⟩
      simp only [wps]
      have a6:S6[gb]? = some (.cells ((x++sixL q).flatMap eU) 24 gg):=by
        rw [k6 gb lgb (by intro e;cases e)]; exact hat
      have hF2:F=((x++sx q,[]++cl.map (Fx.up ((n-6:Nat):Int))),0):=by rw [hF,exl]; rfl
      rw [hF2,en]
      refine ⟨pre_of_keep k03 hl6 fun j hj=>k6 j (by omega) (by intro e;cases e),.inr ⟨rfl,gb,fa',rfl,?_,ho,?_,by omega,by omega⟩⟩
      · have:=Ar.blk (w:=1) a6 (fun _ _=>rfl) rfl
        rw [hsl] at this
        exact this
      · intro j hj
        rcases hfa with hfa | ⟨b,hfa,hb⟩
        · rw [hfa] at hj;cases hj
        · rw [hfa] at hj;injection hj with hj;injection hj with hj;omega
  · simp only [wps]
    exact ⟨fun _=>FixR.err k1 (by decide) (by rw [hF,if_pos hc0]),fun e=>absurd e (by decide)⟩
end Go.AM
set_option linter.unusedVariables false
set_option linter.unusedSimpArgs false
namespace Go.AM
open Go Go.Proofs.YtackinampfgklaaGreatDoor
theorem rowO_get {a:Int} {k j:Nat} (h:j < (rowO a k).length):(rowO a k)[j]=a+(j:Int):=by simp [rowO,offs]
set_option maxHeartbeats 1000000 in
theorem rowload_w {S:St} {b:Nat} {m:Mm} {T:List Nat} (h:MS S b m T) {a:Int} {k:Nat} (hin:0≤a∧a+k≤m.W.length) (ht:0≤m.t∧m.t+k < 4611686018427387904) :
    WP (g_turn_row_load [vA [.pointer (some ⟨b,0,none⟩),vI a,vN k]]) S fun v S'=>v=vT [.slice (some ⟨S.length+1,0,none⟩) k k,vI 0]∧Kp T S S'∧MS S' b (m.rds (rowO a k)).2 T ∧
      S'[S.length+1]? = some (.cells ((m.rds (rowO a k)).1.flatMap eU) 24 none):=by
  rw [g_turn_row_load_eq]
  have hw:=h.w
  have hTlt:=h.lt
  have p0:=List.prefix_append S [AObj.cells [.pointer (some ⟨b,0,none⟩),vI a,vN k] 131 none]
  have z0:=get_new (S:=S) (o:=AObj.cells [.pointer (some ⟨b,0,none⟩),vI a,vN k] 131 none)
  simp only [wps,zeroC_one,Int.toNat_natCast]
  refine ⟨⟨by omega,by omega,by omega,rfl⟩,?_⟩
  have hYl:(S++[AObj.cells [.pointer (some ⟨b,0,none⟩),vI a,vN k] 131 none]).length=S.length+1:=by simp
  generalize S++[AObj.cells [.pointer (some ⟨b,0,none⟩),vI a,vN k] 131 none]=Y at p0 z0 hYl ⊢
  have pw:=List.prefix_append Y [AObj.cells (List.replicate k (vU 0)) 24 none]
  have zw:=get_new (S:=Y) (o:=AObj.cells (List.replicate k (vU 0)) 24 none)
  rw [← hYl]
  have lA:(rowO a k).length=k:=rowO_len a k
  have h0:=(h.pre p0).pre pw
  have k0:Kp T S (Y++[AObj.cells (List.replicate k (vU 0)) 24 none]):=Kp.of (p0.trans pw)
  have z00:=pre_get pw z0
  generalize Y++[AObj.cells (List.replicate k (vU 0)) 24 none]=Z at pw zw h0 k0 z00 ⊢
  have nT:S.length∉T:=fun hx=>by have:=hTlt _ hx;omega
  have nT1:Y.length∉T:=fun hx=>by have:=hTlt _ hx;omega
  refine wp_loop (fun st S' n=>∃ j:Nat,st=[vN j]∧n=k-j∧j≤k∧Kp T S S'∧MS S' b (m.rds ((rowO a k).take j)).2 T∧S'[S.length]? = some (AObj.cells [.pointer (some ⟨b,0,none⟩),vI a,vN k] 131 none)∧S'[Y.length]? = some (.cells ((m.rds ((rowO a k).take j)).1.map (.int .u64)++List.replicate (k-j) (vU 0)) 24 none)) ?_ k _ _ ⟨0,rfl,rfl,by omega,k0,h0,z00,by rw [zw]; simp [Mm.rds]⟩
  rintro st S1 n ⟨j,rfl,rfl,hj,k1,hM,hz,hb⟩
  simp only [wps]
  obtain ⟨g1,g2,g3,g4⟩:=Mm.rds_len ((rowO a k).take j) m
  refine ⟨fun h3=>?_,fun h3=>?_⟩
  · have hj':j < k:=by omega
    have hjA:j < (rowO a k).length:=by omega
    have eA:=rowO_get hjA
    have hb0:=pre_lt hb
    have hl1:(m.rds ((rowO a k).take j)).1.length=j:=by rw [g2]; simp;omega
    simp only [wps,cell_blk hz,List.getElem?_cons_zero,List.getElem?_cons_succ]
    rw [wI_ (n:=a+(j:Int)) (by omega) (by omega),wI_ (n:=(j:Int)+1) (by omega) (by omega),← eA]
    refine (load_w hM (by rw [g1,eA]; omega) (by rw [g3]; simp;omega)).mono ?_
    rintro _ S2 ⟨rfl,k2,hM2⟩
    have hb2:=k2.get hb nT1
    have hb2l:=pre_lt hb2
    have e:=rds_take (m:=m) hjA
    simp only [wps,hb2,Int.toNat_natCast]
    refine ⟨by omega,by simp;omega,k-(j+1),by omega,j+1,rfl,rfl,by omega,?_,?_,?_,?_⟩
    · have k12:=k1.trans k2
      exact ⟨by rw [List.length_set]; exact k12.len,fun i hi hn=>by rw [List.getElem?_set_ne (by omega),k12.keep i hi hn]⟩
    · rw [e]; exact hM2.kp (M:=[Y.length]) ⟨by simp,fun i hi hn=>by rw [List.getElem?_set_ne]; rintro rfl;simp at hn⟩ (fun i hi=>by have:=hTlt i hi;simp;omega)
    · rw [List.getElem?_set_ne (by omega)]; exact k2.get hz nT
    · rw [List.getElem?_set_self hb2l,e,splice_set (by simp;omega),List.set_append_right _ _ (by simp;omega)]
      simp only [List.length_map,hl1,Nat.sub_self]
      rw [show k-j=(k-(j+1))+1 by omega,List.replicate_succ,List.set_cons_zero,List.map_append]
      simp
  · obtain rfl:j=k:=by omega
    rw [List.take_of_length_le (by omega)] at hM hb
    refine ⟨k1,hM,?_⟩
    rw [hb,Nat.sub_self]
    simp only [List.replicate_zero,List.append_nil]
    rw [List.map_eq_flatMap]; rfl
end Go.AM
set_option linter.unusedVariables false
set_option linter.unusedSimpArgs false
namespace Go.AM
open Go Go.Proofs.YtackinampfgklaaGreatDoor
theorem rowthere_w {S:St} {b:Nat} {m:Mm} {T:List Nat} (h:MS S b m T) {a n:Int}:Sp (g_turn_row_there [vA [.pointer (some ⟨b,0,none⟩),vI a,vI n]]) S fun v _=>v=vB (m.hasN a n):=by
  unfold Sp
  rw [g_turn_row_there_eq]
  have p0:=List.prefix_append S [AObj.cells [.pointer (some ⟨b,0,none⟩),vI a,vI n] 131 none]
  have z0:=get_new (S:=S) (o:=AObj.cells [.pointer (some ⟨b,0,none⟩),vI a,vI n] 131 none)
  simp only [wps,cell_blk z0,List.getElem?_cons_zero,List.getElem?_cons_succ]
  refine (there_w (h.pre p0)).use ?_
  rintro _ S1 k1 rfl
  simp only [wps]
  exact p0.trans k1
def askedV (m:Mm) (p n a more:Int):Int:=if known p=false then 2 else if n < 1∨4096 < n∨m.hasN a (n+more)=false then 1 else 0
theorem asked_w {S:St} {b:Nat} {m:Mm} {T:List Nat} (h:MS S b m T) {p n a more:Int} (hm:0≤more∧more≤100):Sp (g_turn_asked [.pointer (some ⟨b,0,none⟩),vU p,vI n,vI a,vI more]) S fun v _=>v=vI (askedV m p n a more):=by
  unfold Sp
  rw [g_turn_asked_eq]
  simp only [wps,known_w]
  unfold askedV
  refine ⟨fun hk=>⟨List.prefix_refl _,by rw [if_pos hk]⟩,fun hk=>?_⟩
  rw [if_neg (by rw [hk]; simp)]
  refine ⟨fun h1=>⟨List.prefix_refl _,by rw [if_pos (.inl h1)]⟩,fun h1=>⟨fun h2=>⟨List.prefix_refl _,by rw [if_pos (.inr (.inl h2))]⟩,fun h2=>?_⟩⟩
  rw [wI_ (n:=n+more) (by omega) (by omega)]
  refine (there_w h).use ?_
  rintro _ S1 k1 rfl
  simp only [wps]
  cases hc:m.hasN a (n+more)
  · simp [k1]
  · simp [k1,h1,h2]
set_option maxHeartbeats 1000000 in
theorem lay_w {S:St} {b:Nat} {m:Mm} {T:List Nat} (h:MS S b m T) {la:Option Addr} {ln lc:Nat} {l:List Int} (hl:Ar S la ln 1 eU l) (hlT:∀ y,la=some y→l≠[]→y.block∉T) {a:Int} (hu:∀ y∈l,Go.Proofs.YtackinampfgklaaGreatDoor.u64r y) (ht:0≤m.t∧m.t < 2305843009213693952) (hln:ln≤100000) :
    WP (g_turn_Lay [.pointer (some ⟨b,0,none⟩),.slice la ln lc,vI a]) S fun v S'=>v=vI (layV m l a).1∧Kp T S S'∧MS S' b (layV m l a).2 T:=by
  rw [g_turn_Lay_eq]
  have hw:=h.w
  have hln':=hl.1
  simp only [wps]
  refine (rowthere_w h).use ?_
  rintro _ S1 k1 rfl
  have h1:=h.pre k1
  have hl1:=hl.mono k1
  simp only [wps]
  unfold layV
  rw [← hln']
  refine ⟨fun e=>⟨by rw [if_neg (by rw [e]; simp)],Kp.of k1,by rw [if_neg (by rw [e]; simp)]; exact h1⟩,fun e=>?_⟩
  obtain ⟨e1,e2,e3⟩:=hasN_in e
  rw [if_pos e]
  dsimp only
  generalize hP:(rowO a ln).zip l=P
  have lP:P.length=ln:=by rw [← hP,List.length_zip,rowO_len]; omega
  refine wp_loop (fun st S' n=>∃ j:Nat,st=[vN j]∧n=ln-j∧j≤ln∧Kp T S S'∧MS S' b (m.wrs (P.take j)) T) ?_ ln _ _ ⟨0,rfl,rfl,by omega,Kp.of k1,h1⟩
  rintro st S2 n ⟨j,rfl,rfl,hj,k2,hM⟩
  simp only [wps]
  obtain ⟨g1,g2,g3⟩:=Mm.wrs_len (P.take j) m
  refine ⟨fun h3=>?_,fun h3=>?_⟩
  · have hj':j < ln:=by omega
    have hjP:j < P.length:=by omega
    have hl2:Ar S2 la ln 1 eU l:=k2.ar hl fun hne y hy=>hlT y hy hne
    obtain ⟨y,rfl,c0⟩:=hl2.getU (i:=j) (by omega)
    have eP1:P[j].1=a+(j:Int):=by
      have : P[j]=((rowO a ln)[j]'(by rw [rowO_len]; omega),l[j]):=by simp [← hP]
      rw [this,rowO_get]
    have eP2:P[j].2=l[j]:=by simp [← hP]
    simp only [wps,c0,Int.toNat_natCast]
    rw [wI_ (n:=a+(j:Int)) (by omega) (by omega),wI_ (n:=(j:Int)+1) (by omega) (by omega),← eP1,← eP2]
    refine ⟨by omega,?_⟩
    refine (store_w hM (by rw [g1,eP1]; omega) (by rw [g2]; simp;omega) (by rw [eP2]; exact hu _ (List.getElem_mem _))).mono ?_
    rintro _ S3 ⟨rfl,k3,hM3⟩
    simp only [wps]
    exact ⟨ln-(j+1),by omega,j+1,rfl,rfl,by omega,k2.trans k3,by rw [wrs_take hjP]; exact hM3⟩
  · obtain rfl:j=ln:=by omega
    rw [List.take_of_length_le (by omega)] at hM
    exact ⟨k2,hM⟩
theorem agrees_w {S:St} {p:Int} {s:Int×Int} {a:Option Addr} {n c:Nat} {l:List Int} (hk:known p=true) (hl:Ar S a n 1 eU l) (hn:n≤4096) (hu:∀ y∈l,inU y) :
    Sp (g_turn_witness_agrees [vA [vU p,vU s.1,vU s.2],.slice a n c]) S fun v _=>v=vB (agreesV p s l):=by
  unfold Sp
  rw [g_turn_witness_agrees_eq]
  have hln:=hl.1
  have p0:=List.prefix_append S [AObj.cells [vU p,vU s.1,vU s.2] 145 none]
  have z0:=get_new (S:=S) (o:=AObj.cells [vU p,vU s.1,vU s.2] 145 none)
  simp only [wps,cell_blk z0,List.getElem?_cons_zero,List.getElem?_cons_succ]
  generalize S++[AObj.cells [vU p,vU s.1,vU s.2] 145 none]=Y at p0 z0 ⊢
  refine (codeSums_w (c:=c) hk (hl.mono p0) hn hu).mono ?_
  rintro _ S1 ⟨rfl,k1⟩
  have p1:=p0.trans k1
  have pz:=List.prefix_append S1 [AObj.cells [vU (sumsV p l).1,vU (sumsV p l).2] 40 none]
  have zz:=get_new (S:=S1) (o:=AObj.cells [vU (sumsV p l).1,vU (sumsV p l).2] 40 none)
  have z1:=pre_get pz (pre_get k1 z0)
  have hin:=in_w (p:=p) (c:=c) (hl.mono (p1.trans pz)) (by omega)
  generalize hZ:S1++[AObj.cells [vU (sumsV p l).1,vU (sumsV p l).2] 40 none]=Z at pz zz z1 hin
  have e0:∀ q s:Int×Int,eqL [vU q.1,vU q.2] [vU s.1,vU s.2]=decide (q=s):=by
    rintro ⟨a,b⟩ ⟨c,d⟩
    rw [Bool.eq_iff_iff]
    simp [eqL]
  simp only [wps,hZ,cell_blk z1,cell_blk zz,List.getElem?_cons_zero,List.getElem?_cons_succ,e0,hin.wp]
  have pf:=p1.trans pz
  unfold agreesV inV
  rw [hk,← hln]
  refine ⟨fun e=>⟨pf,?_⟩,fun e=>⟨pf,?_⟩⟩
  · rw [decide_eq_true e,decide_eq_true hn]
    simp only [Bool.and_true,Bool.true_and]
    have : (l.all fun a=>decide (a < p))=decide (∀ y∈l,y < p):=by rw [Bool.eq_iff_iff]; simp
    rw [this]
  · rw [decide_eq_false e]; simp
end Go.AM
set_option linter.unusedVariables false
set_option linter.unusedSimpArgs false
namespace Go.AM
open Go Go.Proofs.YtackinampfgklaaGreatDoor
theorem sound_w {S:St} {b:Nat} {m:Mm} {T:List Nat} (h:MS S b m T) {p n a:Int} {s:Int×Int} (ht:0≤m.t∧m.t < 2305843009213693952) :
    WP (g_turn_Sound [.pointer (some ⟨b,0,none⟩),vU p,vI n,vI a,vA [vU s.1,vU s.2]]) S fun v S'=>v=vT [vB (soundV m p n a s).1.1,vI (soundV m p n a s).1.2]∧Kp T S S'∧MS S' b (soundV m p n a s).2 T:=by
  rw [g_turn_Sound_eq]
  have p0:=List.prefix_append S [AObj.cells [vU s.1,vU s.2] 40 none]
  have z0:=get_new (S:=S) (o:=AObj.cells [vU s.1,vU s.2] 40 none)
  simp only [wps]
  generalize S++[AObj.cells [vU s.1,vU s.2] 40 none]=Y at p0 z0 ⊢
  have h0:=h.pre p0
  refine (asked_w h0 (by omega)).use ?_
  rintro _ S1 k1 rfl
  have h1:=h0.pre k1
  have z1:=pre_get k1 z0
  have p1:=p0.trans k1
  have hw:=h.w
  simp only [wps,cell_blk z1,List.getElem?_cons_zero,List.getElem?_cons_succ]
  unfold askedV soundV
  simp only [Int.add_zero]
  by_cases hk:known p=false
  · rw [if_pos hk,if_pos hk]
    exact ⟨fun _=>⟨rfl,Kp.of p1,h1⟩,fun e=>absurd e (by decide)⟩
  rw [if_neg hk,if_neg hk]
  by_cases hc:n < 1∨4096 < n∨m.hasN a n=false
  · rw [if_pos hc,if_pos hc]
    exact ⟨fun _=>⟨rfl,Kp.of p1,h1⟩,fun e=>absurd e (by decide)⟩
  rw [if_neg hc,if_neg hc]
  refine ⟨fun e=>absurd rfl e,fun _=>?_⟩
  have hN:m.hasN a n=true:=by
    cases hN:m.hasN a n
    · exact absurd (.inr (.inr hN)) hc
    · rfl
  obtain ⟨e1,e2,e3⟩:=hasN_in hN
  have hk:known p=true:=by simpa using hk
  obtain ⟨k,rfl⟩:=Int.eq_ofNat_of_zero_le e2
  have hl:=rowload_w h1 (a:=a) (k:=k) ⟨e1,by omega⟩ ⟨by omega,by omega⟩
  rw [g_turn_look_eq]
  simp only [wps,Nat.reduceBEq,Bool.false_eq_true,false_implies,true_implies,true_and,and_true,Bool.true_eq_false,reduceCtorEq,forall_const]
  refine hl.mono ?_
  rintro _ S2 ⟨rfl,k2,h2,hb⟩
  have rl:=(Mm.rds_len (rowO a k) m).2.1
  rw [rowO_len] at rl
  have hr:Ar S2 (some ⟨S1.length+1,0,none⟩) k 1 eU (m.rds (rowO a k)).1:=by
    have:=Ar.blk (w:=1) hb (fun _ _=>rfl) rfl
    rwa [rl] at this
  have hu:∀ y∈(m.rds (rowO a k)).1,inU y:=fun y hy=>by
    have:=(h.ok.rds (rowO a k)).2 y hy
    exact ⟨this.1,by have:=this.2;omega⟩
  simp only [wps,Nat.reduceBEq,Bool.false_eq_true,false_implies,true_implies,true_and,and_true,Bool.true_eq_false,reduceCtorEq,forall_const]
  refine (agrees_w (c:=k) (s:=s) hk hr (by omega) hu).use ?_
  rintro _ S3 k3 rfl
  simp only [wps]
  exact ⟨((Kp.of p1).trans k2).more k3,h2.pre k3⟩
theorem equal_w {S:St} {p r:Option Addr} {n m c d:Nat} {x y:List Int} (h:Ar S p n 1 eU x) (k:Ar S r m 1 eU y) (hn:n≤140737488355328) :
    Gv (g_slices_Equal_uint64_uint64 [.slice p n c,.slice r m d]) S (vB (decide (x=y))):=by
  have h1:=h.1
  have k1:=k.1
  refine .of ?_
  rw [g_slices_Equal_uint64_uint64_eq]
  simp only [wps]
  refine ⟨fun e=>?_,fun e=>?_⟩
  · have : x≠y:=fun q=>e (by rw [h1,k1,q])
    simp [this]
  refine wp_loop (fun st S' t=>∃ j:Nat,st=[vI j]∧j≤n∧t=n-j∧S'=S∧x.take j=y.take j) ?_ n _ _ ⟨0,rfl,by omega,by omega,rfl,rfl⟩
  rintro st S' t ⟨j,rfl,hj,rfl,rfl,ht⟩
  simp only [wps]
  refine ⟨fun h3=>⟨h3,?_⟩,fun h3=>?_⟩
  · have hx:j < x.length:=by omega
    have hy:j < y.length:=by omega
    obtain ⟨a,rfl,c0⟩:=h.getU hx
    obtain ⟨b,rfl,d0⟩:=k.getU hy
    simp only [wps,c0,d0]
    rw [wI_ (n:=(j:Int)+1) (by omega) (by omega)]
    refine ⟨by omega,fun e3=>?_,fun e3=>?_⟩
    · have : x≠y:=fun q=>e3 (by subst q;rfl)
      simp [this]
    · exact ⟨n-(j+1),by omega,j+1,rfl,by omega,rfl,take_eq_step ht hx hy e3⟩
  · rw [List.take_of_length_le (by omega),List.take_of_length_le (by omega)] at ht
    simp [ht]
theorem holds_w {S:St} {b:Nat} {m:Mm} {T:List Nat} (h:MS S b m T) {la:Option Addr} {ln lc:Nat} {l:List Int} (hl:Ar S la ln 1 eU l) (hlT:∀ y,la=some y→l≠[]→y.block∉T) {a:Int} (ht:0≤m.t∧m.t < 2305843009213693952) (hln:ln≤100000) :
    WP (g_turn_Holds [.pointer (some ⟨b,0,none⟩),.slice la ln lc,vI a]) S fun v S'=>v=vT [vB (holdsV m l a).1.1,vI (holdsV m l a).1.2]∧Kp T S S'∧MS S' b (holdsV m l a).2 T:=by
  rw [g_turn_Holds_eq]
  have hTlt:=h.lt
  have hw:=h.w
  have hln':=hl.1
  have p0:=List.prefix_append S [AObj.cells [.slice la ln lc] 22 none]
  have z0:=get_new (S:=S) (o:=AObj.cells [.slice la ln lc] 22 none)
  simp only [wps,cell_blk z0,List.getElem?_cons_zero,List.getElem?_cons_succ]
  have hYl:(S++[AObj.cells [.slice la ln lc] 22 none]).length=S.length+1:=by simp
  generalize S++[AObj.cells [.slice la ln lc] 22 none]=Y at p0 z0 hYl ⊢
  have py:=List.prefix_append Y [AObj.cells [.pointer (some ⟨b,0,none⟩),vI a,vN ln] 131 none]
  have zy:=get_new (S:=Y) (o:=AObj.cells [.pointer (some ⟨b,0,none⟩),vI a,vN ln] 131 none)
  have z0y:=pre_get py z0
  have h0:=h.pre (p0.trans py)
  generalize Y++[AObj.cells [.pointer (some ⟨b,0,none⟩),vI a,vN ln] 131 none]=Z at py zy z0y h0 ⊢
  have nT:S.length∉T:=fun hx=>by have:=hTlt _ hx;omega
  refine (rowthere_w h0).use ?_
  rintro _ S1 k1 rfl
  have p1:=(p0.trans py).trans k1
  have h1:=h0.pre k1
  have zy1:=pre_get k1 zy
  have z01:=pre_get k1 z0y
  simp only [wps,cell_blk zy1,List.getElem?_cons_zero,List.getElem?_cons_succ]
  unfold holdsV
  rw [← hln']
  refine ⟨fun e=>?_,fun e=>?_⟩
  · rw [if_neg (by rw [e]; simp)]
    exact ⟨rfl,Kp.of p1,h1⟩
  rw [if_pos e]
  obtain ⟨e1,e2,e3⟩:=hasN_in e
  have hld:=rowload_w h1 (a:=a) (k:=ln) ⟨e1,by omega⟩ ⟨by omega,by omega⟩
  rw [g_turn_look_eq]
  simp only [wps,Nat.reduceBEq,Bool.false_eq_true,false_implies,true_implies,true_and,and_true,Bool.true_eq_false,reduceCtorEq,forall_const]
  refine hld.mono ?_
  rintro _ S2 ⟨rfl,k2,h2,hb⟩
  have rl:=(Mm.rds_len (rowO a ln) m).2.1
  rw [rowO_len] at rl
  have hr:Ar S2 (some ⟨S1.length+1,0,none⟩) ln 1 eU (m.rds (rowO a ln)).1:=by
    have:=Ar.blk (w:=1) hb (fun _ _=>rfl) rfl
    rwa [rl] at this
  have z02:=k2.get z01 nT
  have hl2:Ar S2 la ln 1 eU l:=((Kp.of p1).trans k2).ar hl fun hne y hy=>hlT y hy hne
  simp only [wps,Nat.reduceBEq,Bool.false_eq_true,false_implies,true_implies,true_and,and_true,Bool.true_eq_false,reduceCtorEq,forall_const,g_turn_Holds_1_eq,cell_blk z02,List.getElem?_cons_zero,(equal_w (c:=ln) (d:=lc) hr hl2 (by omega)).wp]
  trace_state
  exact ⟨(Kp.of p1).trans k2,h2⟩
end Go.AM
set_option linter.unusedVariables false
set_option linter.unusedSimpArgs false
namespace Go.AM
open Go Go.Proofs.YtackinampfgklaaGreatDoor
theorem fx_set:∀ (l:List Fx) (j:Nat) (hj:j < l.length) (v:Int),splice (l.flatMap eFx) (j*3) [vI v]=(l.set j ⟨v,l[j].bad,l[j].good⟩).flatMap eFx:=by
  intro l j hj v
  have hlen:∀ l:List Fx,(l.flatMap eFx).length=l.length*3:=flat_len fun _=>rfl
  have key:∀ (l:List Fx) (j:Nat) (hj:j < l.length),(l.flatMap eFx).set (j*3) (vI v)=(l.set j ⟨v,l[j].bad,l[j].good⟩).flatMap eFx:=by
    intro l
    induction l with
    | nil=>intro j hj;simp at hj
    | cons x l ih=>
      intro j hj
      cases j with
      | zero=>rfl
      | succ j=>
        rw [List.flatMap_cons,List.set_cons_succ,List.flatMap_cons,List.set_append_right _ _ (by simp;omega)]
        congr 1
        have:=ih j (by simpa using hj)
        rw [show (j+1)*3-(eFx x).length=j*3 by simp;omega]
        exact this
  rw [splice_set (by rw [hlen]; omega)]
  exact key l j hj
def upTo (a:Int) (F:List Fx) (j:Nat):List Fx:=(F.take j).map (Fx.up a)++F.drop j
theorem upTo_len (a:Int) (F:List Fx) (j:Nat) (h:j≤F.length):(upTo a F j).length=F.length:=by unfold upTo;simp;omega
theorem upTo_succ (a:Int) (F:List Fx) {j:Nat} (h:j < F.length):(upTo a F j).set j ⟨F[j].ad+a,F[j].bad,F[j].good⟩=upTo a F (j+1):=by
  unfold upTo
  have hl:((F.take j).map (Fx.up a)).length=j:=by simp;omega
  rw [List.set_append_right _ _ (by omega),hl,Nat.sub_self,take_snoc h,List.map_append,List.append_assoc,List.drop_eq_getElem_cons h,List.set_cons_zero]
  rfl
theorem upTo_get (a:Int) (F:List Fx) {j:Nat} (h:j < F.length):(upTo a F j)[j]? = some F[j]:=by
  have hl:((F.take j).map (Fx.up a)).length=j:=by simp;omega
  unfold upTo
  rw [List.getElem?_append_right (by omega),hl,Nat.sub_self,List.getElem?_drop,Nat.add_zero,List.getElem?_eq_getElem h]
set_option maxHeartbeats 2000000 in
theorem scrub_w {S:St} {b:Nat} {m:Mm} {T:List Nat} (h:MS S b m T) {p n a:Int} (ht:0≤m.t∧m.t < 1152921504606846976) :
    WP (g_turn_Scrub [.pointer (some ⟨b,0,none⟩),vU p,vI n,vI a]) S fun v S'=>∃ fa,v=vT [.slice fa (scrubV m p n a).1.1.1.length (scrubV m p n a).1.1.1.length,vA [vU (scrubV m p n a).1.1.2.1,vU (scrubV m p n a).1.1.2.2],vI (scrubV m p n a).1.2]∧Kp T S S'∧MS S' b (scrubV m p n a).2 T∧OwnF S.length S' fa (scrubV m p n a).1.1.1:=by
  rw [g_turn_Scrub_eq]
  have hw:=h.w
  have hTlt:=h.lt
  simp only [wps,List.append_assoc,List.cons_append,List.nil_append,List.length_append,List.length_cons,List.length_nil,Nat.zero_add,Nat.reduceAdd,Nat.add_assoc]
  generalize hY:S++[AObj.cells [vU 0,vU 0] 40 none,AObj.cells [vU 0,vU 0] 40 none]=Y
  have p0:S <+: Y:=⟨_,hY⟩
  have z0:Y[S.length]? = some (AObj.cells [vU 0,vU 0] 40 none):=by rw [← hY]; exact gA0
  have z1:Y[S.length+1]? = some (AObj.cells [vU 0,vU 0] 40 none):=by rw [← hY]; exact gA
  have hYl:Y.length=S.length+2:=by rw [← hY]; simp
  have n0:S.length∉T:=fun hx=>by have:=hTlt _ hx;omega
  have n1:S.length+1∉T:=fun hx=>by have:=hTlt _ hx;omega
  have h0:=h.pre p0
  have errs:∀ {S':St} {m':Mm},S'[S.length]? = some (AObj.cells [vU 0,vU 0] 40 none)→Kp T S S'→MS S' b m' T→(S'.set S.length (AObj.cells [vU 0,vU 0] 40 none))[S.length]? = some (AObj.cells [vU 0,vU 0] 40 none)∧Kp T S (S'.set S.length (AObj.cells [vU 0,vU 0] 40 none))∧MS (S'.set S.length (AObj.cells [vU 0,vU 0] 40 none)) b m' T:=fun {S' m'} z k hm=>by
    have hl:=pre_lt z
    refine ⟨List.getElem?_set_self hl,⟨by rw [List.length_set]; exact k.len,fun i hi hn=>by rw [List.getElem?_set_ne (by omega),k.keep i hi hn]⟩,hm.kp (M:=[S.length]) ⟨by simp,fun i hi hn=>by rw [List.getElem?_set_ne]; rintro rfl;simp at hn⟩ (fun i hi=>by have:=hTlt i hi;simp;omega)⟩
  refine (asked_w h0 (by omega)).use ?_
  rintro _ S1 k1 rfl
  have h1:=h0.pre k1
  have p1:=p0.trans k1
  have z01:=pre_get k1 z0
  have z11:=pre_get k1 z1
  have hl1:=k1.length_le
  obtain ⟨q1,q2,q3⟩:=errs z01 (Kp.of p1) h1
  simp only [wps,cell_blk z11,z01,List.getElem?_cons_zero,List.getElem?_cons_succ,List.drop_succ_cons,List.drop_zero,List.drop_nil,cell_blk q1]
  unfold askedV scrubV
  by_cases hk:known p=false
  · rw [if_pos hk,if_pos hk]
    exact ⟨fun _=>⟨none,rfl,q2,q3,.inl ⟨rfl,rfl⟩⟩,fun e=>absurd e (by decide)⟩
  rw [if_neg hk,if_neg hk]
  by_cases hc:n < 1∨4096 < n∨m.hasN a (n+6)=false
  · rw [if_pos hc,if_pos hc]
    exact ⟨fun _=>⟨none,rfl,q2,q3,.inl ⟨rfl,rfl⟩⟩,fun e=>absurd e (by decide)⟩
  rw [if_neg hc,if_neg hc]
  refine ⟨fun e=>absurd rfl e,fun _=>?_⟩
  have hN:m.hasN a (n+6)=true:=by
    cases hN:m.hasN a (n+6)
    · exact absurd (.inr (.inr hN)) hc
    · rfl
  obtain ⟨e1,e2,e3⟩:=hasN_in hN
  have hk:known p=true:=by simpa using hk
  obtain ⟨k,rfl⟩:=Int.eq_ofNat_of_zero_le (show 0≤n by omega)
  rw [show wI ((k:Int)+6)=((k+6:Nat):Int) by rw [wI_ (by omega) (by omega)]; omega]
  refine (rowload_w h1 (a:=a) (k:=k+6) ⟨e1,by omega⟩ ⟨by omega,by omega⟩).mono ?_
  rintro _ S2 ⟨rfl,k2,h2,hb⟩
  have rl:=(Mm.rds_len (rowO a (k+6)) m).2.1
  rw [rowO_len] at rl
  have hr:Ar S2 (some ⟨S1.length+1,0,none⟩) (k+6) 1 eU (m.rds (rowO a (k+6))).1:=by
    have:=Ar.blk (w:=1) hb (fun _ _=>rfl) rfl
    rwa [rl] at this
  have hu:∀ y∈(m.rds (rowO a (k+6))).1,inU y:=fun y hy=>by
    have:=(h.ok.rds (rowO a (k+6))).2 y hy
    exact ⟨this.1,by have:=this.2;omega⟩
  have kp2:=(Kp.of p1).trans k2
  have z02:=k2.get z01 n0
  have z12:=k2.get z11 n1
  simp only [wps]
  refine (fix_w (p:=p) (cc:=k+6) hr (Nat.le_refl _) (by omega) hu).mono ?_
  rintro v S3 ⟨k3,hfx⟩
  have z03:=pre_get k3 z02
  have z13:=pre_get k3 z12
  have kp3:=kp2.more k3
  have h3:=h2.pre k3
  have hsd:=fun good fx=>fix_sound (p:=p) (c:=(m.rds (rowO a (k+6))).1) (fun y hy=>(hu y hy).1) (good:=good) (fx:=fx)
  generalize fixV p (m.rds (rowO a (k+6))).1=F at hfx hsd ⊢
  have hR:(m.rds (rowO a (k+6))).2.W.length=m.W.length∧(m.rds (rowO a (k+6))).2.t=m.t+((k+6:Nat):Int):=⟨(Mm.rds_len _ m).1,by rw [(Mm.rds_len _ m).2.2.1,rowO_len]⟩
  generalize m.rds (rowO a (k+6))=R at hR hb hr hu h2 h3 rl hsd ⊢
  rcases hfx with ⟨he,rfl⟩ | ⟨he,gb,fa,rfl,hg,ho,hne,hge,hlt⟩
  · obtain ⟨q1,q2,q3⟩:=errs z03 kp3 h3
    simp only [wps,cell_blk z13,z03,List.getElem?_cons_zero,List.getElem?_cons_succ,List.drop_succ_cons,List.drop_zero,List.drop_nil,cell_blk q1]
    rw [if_pos he]
    exact ⟨fun _=>⟨none,rfl,q2,q3,.inl ⟨rfl,rfl⟩⟩,fun e=>absurd e he⟩
  · obtain ⟨⟨good,fx⟩,z⟩:=F
    dsimp only at he hg ho
    subst he
    obtain ⟨x,_,hxl,hx1,hx2,hxi,hgd,hfl,hfa,hmd⟩:=hsd good fx rfl
    rw [if_neg (by simp)]
    simp only [wps]
    have hl12:=k2.len
    have hl23:=k3.length_le
    have hmW:R.2.W.length=m.W.length:=hR.1
    have hmt:R.2.t=m.t+((k+6:Nat):Int):=hR.2
    have hcl:R.1.length=k+6:=rl
    refine wp_loop (fun st S' n=>∃ j:Nat,st=[vN j]∧n=fx.length-j∧j≤fx.length∧S3.length≤S'.length∧(∀ i,i < S3.length→i∉T→fa≠some ⟨i,0,none⟩→S'[i]? = S3[i]?)∧MS S' b (R.2.wrs (((fx.take j).map (Fx.up a)).map Fx.st)) T∧OwnF S2.length S' fa (upTo a fx j)) ?_ fx.length _ _ ⟨0,rfl,rfl,by omega,Nat.le_refl _,fun _ _ _ _=>rfl,h3,ho⟩
    rintro st S4 _ ⟨j,rfl,rfl,hj,l4,k4,h4,o4⟩
    simp only [wps]
    refine ⟨fun h5=>?_,fun h5=>?_⟩
    · have hj':j < fx.length:=by omega
      have hul:=upTo_len a fx j hj
      rcases o4 with ⟨_,e⟩ | ⟨fb,rfl,hfb,hb4⟩
      · rw [e] at hul;simp at hul;omega
      have hA4:Ar S4 (some ⟨fb,0,none⟩) (upTo a fx j).length 3 eFx (upTo a fx j):=Ar.blk hb4 (fun _ _=>rfl) rfl
      have hgj:(upTo a fx j)[j]'(by omega)=fx[j]:=by
        have:=upTo_get a fx hj'
        rw [List.getElem?_eq_getElem (by omega)] at this
        exact Option.some.inj this
      obtain ⟨y,hy,c0,c1,c2⟩:=getFx hA4 (i:=j) (by omega)
      injection hy with hy
      subst hy
      rw [hgj] at c0 c1 c2
      have hfxj:=hfa fx[j] (List.getElem_mem _)
      have lfb:=pre_lt hb4
      have hbset:=fx_set (upTo a fx j) j (by omega) (fx[j].ad+a)
      rw [hgj,upTo_succ a fx hj'] at hbset
      have hfl:=flat_len (e:=eFx) (w:=3) (fun _=>rfl) (upTo a fx j)
      have w1:wI (fx[j].ad+a)=fx[j].ad+a:=wI_ (by omega) (by omega)
      simp only [add_off,Nat.zero_add] at c0 c1 c2
      have b5:(S4.set fb (AObj.cells ((upTo a fx (j+1)).flatMap eFx) 83 (some 3)))[fb]? = some (AObj.cells ((upTo a fx (j+1)).flatMap eFx) 83 (some 3)):=List.getElem?_set_self lfb
      have hul5:=upTo_len a fx (j+1) (by omega)
      have hgj5:(upTo a fx (j+1))[j]'(by omega)=⟨fx[j].ad+a,fx[j].bad,fx[j].good⟩:=by
        have : (upTo a fx (j+1))[j]? = some ⟨fx[j].ad+a,fx[j].bad,fx[j].good⟩:=by rw [← upTo_succ a fx hj']; exact List.getElem?_set_self (by omega)
        rw [List.getElem?_eq_getElem (by omega)] at this
        exact Option.some.inj this
      have hA5:Ar (S4.set fb (AObj.cells ((upTo a fx (j+1)).flatMap eFx) 83 (some 3))) (some ⟨fb,0,none⟩) (upTo a fx (j+1)).length 3 eFx (upTo a fx (j+1)):=Ar.blk b5 (fun _ _=>rfl) rfl
      obtain ⟨y,hy,d0,d1,d2⟩:=getFx hA5 (i:=j) (by omega)
      injection hy with hy
      subst hy
      rw [hgj5] at d0 d1 d2
      simp only [add_off,Nat.zero_add] at d0 d1 d2
      have hfT:fb∉T:=fun hx=>by have:=hTlt _ hx;omega
      have h5m:MS (S4.set fb (AObj.cells ((upTo a fx (j+1)).flatMap eFx) 83 (some 3))) b (R.2.wrs (((fx.take j).map (Fx.up a)).map Fx.st)) T:=h4.kp (M:=[fb]) ⟨by simp,fun i hi hn=>by rw [List.getElem?_set_ne]; rintro rfl;simp at hn⟩ (fun i hi=>by simp;rintro rfl;exact hfT hi)
      obtain ⟨g1,g2,g3⟩:=Mm.wrs_len (((fx.take j).map (Fx.up a)).map Fx.st) R.2
      have hfl3:=hfl
      simp only [wps,c0,c1,c2,Int.toNat_natCast,w1,hb4,hbset,d0,d1,d2]
      refine ⟨by omega,by omega,by omega,by omega,by omega,?_⟩
      refine (store_w h5m (a:=fx[j].ad+a) (w:=fx[j].good) (by rw [g1,hmW]; omega) (by rw [g2,hmt]; simp;omega) (u64_of hk hfxj.2.2)).mono ?_
      rintro _ S6 ⟨rfl,k6,h6⟩
      simp only [wps]
      rw [wI_ (n:=(j:Int)+1) (by omega) (by omega)]
      have l6:=k6.len
      rw [List.length_set] at l6
      refine ⟨fx.length-(j+1),by omega,j+1,rfl,rfl,by omega,by omega,fun i hi hn hne'=>?_,?_,.inr ⟨fb,rfl,hfb,k6.get b5 hfT⟩⟩
      · have hne2:i≠fb:=fun e=>hne' (by rw [e])
        rw [k6.keep i (by rw [List.length_set]; omega) hn,List.getElem?_set_ne (Ne.symm hne2),k4 i hi hn hne']
      · have : ((fx.take (j+1)).map (Fx.up a)).map Fx.st=((fx.take j).map (Fx.up a)).map Fx.st++[(fx[j].ad+a,fx[j].good)]:=by
          rw [take_snoc hj',List.map_append,List.map_append]; rfl
        rw [this,Mm.wrs_app]
        exact h6
    · obtain rfl:j=fx.length:=by omega
      have hgT:gb∉T:=fun hx=>by have:=hTlt _ hx;omega
      have hfg:fa≠some ⟨gb,0,none⟩:=fun e=>hne gb e rfl
      have hg4:Ar S4 (some ⟨gb,0,none⟩) (k+6) 1 eU good:=hg.keepL fun y hy=>by injection hy with hy;subst hy;exact k4 gb hlt hgT hfg
      have hgl:=hg.1
      have e0:good[k]? = some (good.getD k 0):=by rw [List.getD_eq_getElem?_getD,List.getElem?_eq_getElem (by omega)]; rfl
      have e3':good[k+3]? = some (good.getD (k+3) 0):=by rw [List.getD_eq_getElem?_getD,List.getElem?_eq_getElem (by omega)]; rfl
      have c0:=cellU hg4 k e0
      have c3:=cellU hg4 (k+3) e3'
      simp only [add_off,Nat.zero_add] at c0 c3
      have w3:wI ((k:Int)+3)=((k+3:Nat):Int):=by rw [wI_ (by omega) (by omega)]; omega
      have hfaS:fa≠some ⟨S.length,0,none⟩:=fun e=>by have:=(ho.lt _ e).1;omega
      have z04:S4[S.length]? = some (AObj.cells [vU 0,vU 0] 40 none):=by rw [k4 _ (pre_lt z03) n0 hfaS]; exact z03
      have z5:(S4.set S.length (AObj.cells [vU (good.getD k 0),vU (good.getD (k+3) 0)] 40 none))[S.length]? = some (AObj.cells [vU (good.getD k 0),vU (good.getD (k+3) 0)] 40 none):=List.getElem?_set_self (pre_lt z04)
      rw [List.take_of_length_le (Nat.le_refl _)] at h4
      have hup:upTo a fx fx.length=fx.map (Fx.up a):=by unfold upTo;simp
      rw [hup] at o4
      simp only [w3,wps,c0,c3,Int.toNat_natCast,z04,List.drop_succ_cons,List.drop_zero,List.drop_nil,cell_blk z5,List.getElem?_cons_zero,List.getElem?_cons_succ]
      refine ⟨by omega,by omega,fa,by rw [List.length_map],?_,?_,?_⟩
      · refine ⟨by rw [List.length_set]; omega,fun i hi hn=>?_⟩
        rw [List.getElem?_set_ne (by omega),k4 i (by omega) hn (fun e=>by have:=(ho.lt _ e).1;omega),kp3.keep i hi hn]
      · exact h4.kp (M:=[S.length]) ⟨by simp,fun i hi hn=>by rw [List.getElem?_set_ne]; rintro rfl;simp at hn⟩ (fun i hi=>by have:=hTlt i hi;simp;omega)
      · rcases o4 with o4 | ⟨fb,e,hfb,hb4⟩
        · exact .inl o4
        · exact .inr ⟨fb,e,by omega,by rw [List.getElem?_set_ne (by omega)]; exact hb4⟩
end Go.AM
set_option linter.unusedVariables false
set_option linter.unusedSimpArgs false
namespace Go.AM
open Go Go.Proofs.YtackinampfgklaaGreatDoor
set_option maxHeartbeats 1000000 in
theorem tablen_w {p:Int} {S:St} {axes:Option Addr} {n c:Nat} {l:List Ax} (h:Ar S axes n 2 eAx l) (hl:n≤8796093022208) (inv:Bool) (s:Stp) :
    Sp (g_step_Table [vU p,.slice axes n c,vB inv,vA [vI s.ax,vB s.tw,vI s.st.R,vI s.st.L,vI s.st.M]]) S fun v S'=>∃ b k,v=vT [.slice b (tableV p l inv s (tabV p l inv s)).length k,vI (stepV p l s)] ∧
      Ar S' b (tableV p l inv s (tabV p l inv s)).length 1 eU (tableV p l inv s (tabV p l inv s))∧∀ y,b=some y→S.length≤y.block:=by
  unfold Sp
  have hn:=h.1
  rw [g_step_Table_eq]
  simp only [wps]
  refine (stepc_w (h.mono (List.prefix_append _ _)) hl s).use ?_
  rintro _ S1 h1 rfl
  have h0:=pre_of_add h1
  have hb:=pre_get h1 get_new
  simp only [wps,cell_blk hb]
  unfold tableV
  refine ⟨fun h2=>by rw [if_neg h2]; exact ⟨h0,none,0,rfl,.nil,fun y e=>by cases e⟩,fun h2=>?_⟩
  rw [if_pos h2,h2]
  obtain ⟨hg,hs⟩:=stepV_inv h2
  obtain ⟨hb0,hb1⟩:=base_ok hg hs inv
  obtain ⟨hk,_,hall⟩:=grid_ok hg
  obtain ⟨k,hkl,e0,h3⟩:=hs
  obtain ⟨hr,ho⟩:=hall l[k] (List.getElem_mem hkl)
  obtain ⟨n1,n2,_⟩:=radV_facts hr
  have hax:axAt l s.ax=l[k]:=by rw [e0,axAt_nat l k hkl]
  obtain ⟨a,rfl,c1,c2⟩:=(h.mono h0).getAx hkl
  rw [e0]
  simp only [wps,c1,c2]
  refine ⟨by omega,?_⟩
  have hb2:∀ o,(S1++[o])[S.length]? = _:=fun o=>get_add hb
  simp only [wps,fun o=>cell_blk (hb2 o)]
  refine base_w.use ?_
  rintro _ S2 h4 rfl
  rw [hax] at hb0 hb1
  have h5:=(pre_add h0 _).trans h4
  have hb3:=pre_get h4 (hb2 _)
  have hb4:=pre_get h4 get_new
  simp only [wps,hb0,cell_blk hb3,cell_blk hb4]
  unfold tabV
  rw [hax]
  rcases h3 with ⟨h3,h6⟩ | ⟨h3,h6⟩
  · obtain ⟨N,hN⟩:=Int.eq_ofNat_of_zero_le (show 0≤l[k].N by omega)
    generalize (baseV p l[k] inv s).1=w at hb1 ⊢
    have hpw:powersV p w (N:Int)=(powsV p w N,0):=by unfold powersV;rw [if_pos hk,if_neg (by omega),Int.toNat_natCast]
    simp only [wps,h3]
    rw [if_pos (by simp),hN,Int.toNat_natCast]
    refine (powers_w (p:=p) (a:=w) hb1).use ?_
    rintro _ S3 h7 ⟨b,k',rfl,hpa,hpb⟩
    rw [hpw] at hpa hpb ⊢
    obtain ⟨rfl,hk',hpc⟩:=hpb rfl
    rw [Int.toNat_natCast] at hk'
    have hk':=hk'.symm
    subst hk'
    simp only [powsV_len,Int.toNat_natCast] at hpa hpc
    simp only [wps,powsV_len]
    refine ⟨fun h8=>?_,fun h8=>?_⟩
    · rw [h8]
      simp only [wps,Bool.false_eq_true,if_false]
      rw [powsV_len]
      exact ⟨h5.trans h7,_,_,rfl,hpa,fun y e=>by cases e;exact h5.length_le⟩
    · rw [h8]
      have hred:red p (N:Int)≠0:=by
        unfold red;rw [if_pos hk]
        have : (N:Int) < p:=by rcases known_cases hk with rfl | rfl | rfl <;> simp only [P0,P1,P2] <;> omega
        rw [Int.emod_eq_of_lt (by omega) this]; omega
      obtain ⟨i0,i1⟩:=inv_ok hk hred
      have e3:wU (N:Int)=N:=wU_ (by omega) (by omega)
      have hb6:=pre_get h7 hb4
      simp only [wps,cell_blk hb6,hN,e3,inv_w (p:=p) (a:=(N:Int)) ⟨by omega,by omega⟩,i0]
      generalize (invV p (N:Int)).1=iv at i1 ⊢
      simp only [if_true,List.length_map,powsV_len]
      refine wp_loop (fun st S' m=>∃ j:Nat,st=[vI j]∧j≤N∧m=N-j∧S3.set S2.length (.cells ((((powsV p w N).map fun x=>mulF p x iv).take j++(powsV p w N).drop j).map (.int .u64)) 24 none) <+: S') ?_ N _ _
        ⟨0,rfl,by omega,by omega,by
          simp only [List.take_zero,List.nil_append,List.drop_zero]
          rw [set_get hpc]; exact List.prefix_rfl⟩
      rintro st S' m ⟨j,rfl,hj,rfl,hp⟩
      have hS2:S2.length < S3.length:=pre_lt hpc
      have hlen:=powsV_len p w N
      have hbl:=pre_get hp (i:=S2.length) (by rw [List.getElem?_set_self hS2])
      simp only [wps]
      refine ⟨fun h9=>⟨h9,?_⟩,fun h9=>?_⟩
      · have hj':j < N:=by omega
        have hx:=powM_range p w j
        have hx2:(powsV p w N)[j]? = some (powM p w j):=by simp [powsV,hj']
        have hl1:(((powsV p w N).map fun x=>mulF p x iv).take j).length=j:=by simp;omega
        have hcell:S'.cell ⟨S2.length,j,none⟩=some (.int .u64 (powM p w j)):=by
          rw [cell_blk hbl,List.getElem?_map,List.getElem?_append_right (by omega),hl1,Nat.sub_self,List.getElem?_drop,Nat.add_zero,hx2]; rfl
        simp only [wps,hcell,mul_w (p:=p) hx i1,hbl]
        refine ⟨h9,by simp;omega,N-(j+1),by omega,j+1,by rw [wI_ (by omega) (by omega)]; simp,by omega,rfl,?_⟩
        have e4:splice ((((powsV p w N).map fun x=>mulF p x iv).take j++(powsV p w N).drop j).map (.int .u64)) j [.int .u64 (mulF p (powM p w j) iv)]=(((powsV p w N).map fun x=>mulF p x iv).take (j+1)++(powsV p w N).drop (j+1)).map (.int .u64):=by
          rw [splice_set (by simp;omega),← List.map_set,List.set_append_right _ _ (by omega),hl1,Nat.sub_self,List.drop_eq_getElem_cons (by omega),List.set_cons_zero,List.take_add_one,List.getElem?_map,hx2]
          simp
        rw [e4]
        have:=pre_set hp (b:=S2.length) (o:=.cells ((((powsV p w N).map fun x=>mulF p x iv).take (j+1)++(powsV p w N).drop (j+1)).map (.int .u64)) 24 none) (by simpa using hS2)
        rwa [List.set_set] at this
      · obtain rfl:j=N:=by omega
        rw [List.take_of_length_le (by simp;omega),List.drop_of_length_le (by omega),List.append_nil] at hbl
        have h10:S <+: S':=(h5.trans (pre_set' h7 (Nat.le_refl _))).trans hp
        refine ⟨h10,_,_,rfl,?_,fun y e=>by cases e;exact h5.length_le⟩
        have:=arU_blk hbl
        rwa [List.length_map,powsV_len] at this
  · obtain ⟨g1,g2,g3,g4,g5,g6⟩:=stages_ok (stages_facts hr).1 h6
    have hp1:1≤s.st.R*s.st.M:=by have:=Int.mul_le_mul (show 1≤s.st.R by omega) g4 (by omega) (by omega); omega
    have hp2:=prod_bound g3 hp1 g5 g6
    have hM:s.st.M≤4096:=prod_bound (show 1≤s.st.R by omega) g4 rfl hp2
    rw [Int.mul_comm] at hp1 hp2
    simp only [wps,h3]
    rw [wI_ (n:=s.st.M*s.st.R) (by omega) (by omega)]
    obtain ⟨R,hR⟩:=Int.eq_ofNat_of_zero_le (show 0≤s.st.R by omega)
    obtain ⟨M',hM'⟩:=Int.eq_ofNat_of_zero_le (show 0≤s.st.M by omega)
    generalize hw:(baseV p l[k] inv s).1=w at hb1 ⊢
    have e1:(s.st.M*s.st.R).toNat=M'*R:=by rw [hR,hM',← Int.natCast_mul,Int.toNat_natCast]
    have e2:s.st.M*s.st.R=((M'*R:Nat):Int):=by rw [hR,hM',Int.natCast_mul]
    rw [hR,hM'] at hp1 hp2
    rw [e1,zeroC_one,hR,hM',Int.toNat_natCast,Int.toNat_natCast,if_neg (by simp)]
    refine ⟨⟨by decide,by omega,by omega,by omega,rfl⟩,?_⟩
    refine wp_loop (fun st S' m=>∃ j:Nat,st=[.slice (some ⟨S2.length,0,none⟩) (j*R) (M'*R),vU (powM p w j)]∧j≤M'∧m=M'-j∧S2++[.cells ((rowsV p w R j).map (.int .u64)++List.replicate ((M'-j)*R) (.int .u64 0)) 24 none] <+: S') ?_ M' _ _
      ⟨0,by rw [powM_zero w hk]; simp,by omega,by omega,by simp [rowsV]⟩
    rintro st S' m ⟨j,rfl,hj,rfl,hp⟩
    have hp':=pre_of_add hp
    have hb5:=pre_get hp' hb3
    have hlen:=rowsV_len p w R j
    have hbl:=pre_get hp get_new
    have h7:=h5.trans hp'
    rcases Nat.lt_or_ge j M' with h8 | h8
    · have h9:j*R+R≤M'*R:=by rw [← Nat.succ_mul]; exact Nat.mul_le_mul_right _ h8
      have hm:=mul_w (p:=p) (powM_range p w j) hb1
      rw [mulF_powM1] at hm
      have hpw:powersV p (powM p w j) (R:Int)=(powsV p (powM p w j) R,0):=by unfold powersV;rw [if_pos hk,if_neg (by omega),Int.toNat_natCast]
      simp only [wps,cell_blk hb5,hR,hM',hm]
      rw [show (M':Int)*R=((M'*R:Nat):Int) by rw [Int.natCast_mul],wI_ (n:=((M'*R:Nat):Int)) (by omega) (by omega)]
      refine ⟨fun h10=>?_,fun h10=>by omega⟩
      refine (powers_w (p:=p) (a:=powM p w j) (powM_range p w j)).use ?_
      rintro _ S3 h11 ⟨b,k',rfl,hpa,hpb⟩
      rw [hpw] at hpa hpb ⊢
      obtain ⟨rfl,hk',hpc⟩:=hpb rfl
      simp only [wps,powsV_len]
      refine rdN_ar hpc (by rw [List.length_map,powsV_len]) ?_
      have hbl2:=pre_get h11 hbl
      refine wp_app_in hbl2 h9 ?_ (by simp [leafV]) ?_
      · simp only [List.length_map,powsV_len,List.length_append,List.length_replicate,hlen]
        have : (M'-j)*R=M'*R-j*R:=Nat.sub_mul ..
        omega
      · simp only [wps]
        refine ⟨M'-(j+1),by omega,j+1,by rw [Nat.succ_mul],by omega,rfl,?_⟩
        have e4:splice ((rowsV p w R j).map (.int .u64)++List.replicate ((M'-j)*R) (.int .u64 0)) (j*R) ((powsV p (powM p w j) R).map (.int .u64))=(rowsV p w R (j+1)).map (.int .u64)++List.replicate ((M'-(j+1))*R) (.int .u64 0):=by
          have e5:(M'-j)*R-R=(M'-(j+1))*R:=by rw [← Nat.sub_one_mul,Nat.sub_sub]
          unfold splice
          rw [rowsV,List.take_append_of_le_length (by simp [hlen]),List.take_of_length_le (by simp [hlen]),List.drop_append,List.drop_of_length_le (by simp [hlen])]
          simp [hlen,powsV_len,e5]
        rw [e4]
        exact pre_top (hp.trans h11)
    · obtain rfl:j=M':=by omega
      simp only [wps,cell_blk hb5,hR,hM']
      rw [show (j:Int)*R=((j*R:Nat):Int) by rw [Int.natCast_mul],wI_ (n:=((j*R:Nat):Int)) (by omega) (by omega)]
      refine ⟨fun h10=>by omega,fun h10=>?_⟩
      refine ⟨h7,_,_,by rw [hlen],?_,fun y e=>by cases e;exact h5.length_le⟩
      rw [Nat.sub_self,Nat.zero_mul,List.replicate_zero,List.append_nil] at hbl
      exact arU_blk hbl
end Go.AM
set_option linter.unusedVariables false
set_option linter.unusedSimpArgs false
namespace Go.AM
open Go Go.Proofs.YtackinampfgklaaGreatDoor
def words16V (p:Int) (l:List Ax) (s:Stp) (x:List Int):Int:=if stepV p l s≠0 then stepV p l s else if nV l≠(x.length:Int) then 6 else if inV p x=true then 0 else 7
theorem words16_ok {p:Int} {l:List Ax} {s:Stp} {x:List Int} (h:words16V p l s x=0):stepV p l s=0∧nV l=(x.length:Int)∧inV p x=true:=by
  unfold words16V at h
  split at h
  · rename_i h1;exact absurd h h1
  · rename_i h1
    split at h
    · omega
    · rename_i h2
      split at h
      · rename_i h3;exact ⟨Classical.byContradiction h1,Classical.byContradiction h2,h3⟩
      · omega
theorem words16g_w {S:St} {p:Int} {axes a:Option Addr} {n c xn xc:Nat} {l:List Ax} {s:Stp} {x:List Int} (h:Ar S axes n 2 eAx l) (hl:n≤8796093022208) (hx:Ar S a xn 1 eU x) (hb:xn≤4096) :
    Sp (g_step_words [vU p,.slice axes n c,spV s,.slice a xn xc]) S fun v _=>v=vI (words16V p l s x):=by
  have hxl:=hx.1
  unfold Sp
  rw [g_step_words_eq]
  simp only [wps]
  have hp:=List.prefix_append S [AObj.cells (spC s) 29 none]
  generalize hY:S++[AObj.cells (spC s) 29 none]=Y at hp ⊢
  refine (stepc_w (c:=c) (h.mono hp) hl s).use ?_
  rintro _ S1 k1 rfl
  have p1:=hp.trans k1
  simp only [wps]
  refine ⟨fun e=>?_,fun e=>?_⟩
  · refine ⟨p1,?_⟩
    unfold words16V;rw [if_pos e]
  have hs:stepV p l s=0:=by omega
  obtain ⟨k,d,inner,nn,m,hS⟩:=step_shape hs
  obtain ⟨hg,_⟩:=stepV_inv hs
  obtain ⟨hk,hal,_⟩:=grid_ok hg
  have hnn:=hS.nn
  have hn1:=hS.n1
  refine (dims2_w (c:=c) (h.mono p1) hl).mono ?_
  rintro _ S2 ⟨rfl,k2,har⟩
  have p2:=p1.trans k2
  have hin:=in_w (p:=p) (c:=xc) (hx.mono p2) (by omega)
  have e1:(allV (dimsOf l)).1=nV l:=rfl
  simp only [wps,(all_w (c:=n) har).wp,hal,e1,hin.wp]
  unfold words16V
  rw [if_neg (by omega),← hxl]
  refine ⟨fun e=>⟨p2,by rw [if_pos e]⟩,fun e=>⟨fun e2=>⟨p2,by rw [if_neg (by omega),e2]; rfl⟩,fun e2=>⟨p2,by rw [if_neg (by omega),if_pos e2]⟩⟩⟩
theorem do_err_w {S:St} {p:Int} {axes a:Option Addr} {n c xn xc:Nat} {l:List Ax} {inv:Bool} {s:Stp} {x:List Int} (h:Ar S axes n 2 eAx l) (hl:n≤8796093022208) (hx:Ar S a xn 1 eU x) (hb:xn≤4096) (hw:words16V p l s x≠0) :
    Sp (g_step_Do [vU p,.slice axes n c,vB inv,spV s,.slice a xn xc]) S fun v _=>v=vT [.slice none 0 0,vI (words16V p l s x)]:=by
  unfold Sp
  rw [g_step_Do_eq]
  simp only [wps,List.append_assoc,List.cons_append,List.nil_append,List.length_append,List.length_cons,List.length_nil,Nat.zero_add,Nat.reduceAdd,Nat.add_assoc]
  generalize hY:S++[AObj.cells [vU p] 24 none,AObj.cells [vB inv] 4 none,AObj.cells (spC s) 29 none,AObj.cells [.slice a xn xc] 22 none]=Y
  have hp:S <+: Y:=⟨_,hY⟩
  have y0:Y[S.length]? = some (AObj.cells [vU p] 24 none):=by rw [← hY]; exact gA0
  have y2:Y[S.length+2]? = some (AObj.cells (spC s) 29 none):=by rw [← hY]; exact gA
  have y3:Y[S.length+3]? = some (AObj.cells [.slice a xn xc] 22 none):=by rw [← hY]; exact gA
  simp only [wps,cell_blk y0,cell_blk y2,cell_blk y3,List.getElem?_cons_zero,List.getElem?_cons_succ]
  refine (words16g_w (c:=c) (xc:=xc) (h.mono hp) hl (hx.mono hp) hb).use ?_
  rintro _ S1 k1 rfl
  simp only [wps]
  exact ⟨fun _=>hp.trans k1,fun e=>absurd e hw⟩
end Go.AM
set_option linter.unusedVariables false
set_option linter.unusedSimpArgs false
namespace Go.AM
open Go Go.Proofs.YtackinampfgklaaGreatDoor
theorem scat_in {P:Int→Prop}:∀ (l:List (Nat×Int)) (a:List Int),(∀ y∈a,P y)→(∀ e∈l,P e.2)→∀ y∈scat a l,P y
  | [], a, h, _ => h
  | e :: l, a, h1, h2 => by
    rw [scat,List.foldl_cons]
    refine scat_in l _ (fun y hy=>?_) fun e he=>h2 e (by simp [he])
    rcases List.mem_or_eq_of_mem_set hy with hy | rfl
    · exact h1 y hy
    · exact h2 e (by simp)
theorem doG_in {p:Int} (hk:known p=true) {inv tw:Bool} {n:Nat} {gs:List GrN} {tab x:List Int}:∀ y∈doG p inv tw n gs tab x,inP p y:=by
  unfold doG
  refine scat_in _ _ (fun y hy=>?_) fun e he=>?_
  · rw [(List.mem_replicate.1 hy).2]; exact inP_zero hk
  · obtain ⟨g,_,hg⟩:=List.mem_flatMap.1 he
    unfold gpairs at hg
    obtain ⟨i,hi,hx⟩:=List.mem_iff_getElem.1 (List.of_mem_zip hg).2
    rw [List.getElem_zipWith] at hx
    rw [← hx]; exact inP_mul hk _ _
theorem doG_length (p:Int) (inv tw:Bool) (n:Nat) (gs:List GrN) (tab x:List Int):(doG p inv tw n gs tab x).length=n:=by unfold doG;rw [scat_len,List.length_replicate]
theorem rep_flat:∀ k:Nat,(List.replicate k (0:Int)).flatMap eU=List.replicate k (vU 0)
  | 0 => rfl
  | k + 1 => by rw [List.replicate_succ, List.flatMap_cons, rep_flat k, List.replicate_succ]; rfl
theorem tab_small {p:Int} {l:List Ax} {inv:Bool} {s:Stp} (h:stepV p l s=0):1≤(tabV p l inv s).length∧(tabV p l inv s).length≤4096:=by
  obtain ⟨k,d,inner,n,m,hS⟩:=step_shape h
  rw [tab_length hS]
  have h1:=hS.d1
  rcases hS.st with ⟨ht,_⟩ | ⟨ht,R,L,M,hst,r1,r2,l1,m1,hd⟩
  · rw [if_pos ht]; omega
  · rw [if_neg (by rw [ht]; simp),hst]
    dsimp only
    rw [Int.toNat_natCast,Int.toNat_natCast]
    have h2:R*M≤L*(R*M):=Nat.le_mul_of_pos_left _ (by omega)
    have h3:1≤M*R:=Nat.mul_pos (by omega) (by omega)
    rw [Nat.mul_comm M R] at h3 ⊢
    omega
end Go.AM
set_option linter.unusedVariables false
set_option linter.unusedSimpArgs false
namespace Go.AM
open Go Go.Proofs.YtackinampfgklaaGreatDoor
theorem nd_get {l:List Ax} {s:Stp} {k d inner nn m:Nat} (hS:Shp l s k d inner nn m) {j:Nat} (hj:j < l.length):l[j].N=(((ndOf l)[j]'(by simp [ndOf]; exact hj):Nat):Int):=by
  have h1:=hS.all _ (List.getElem_mem (l:=ndOf l) (n:=j) (by simp [ndOf]; exact hj))
  simp only [ndOf,List.getElem_map] at h1 ⊢
  omega
theorem prod_take_le {l:List Nat} (h:∀ x∈l,1≤x) (j:Nat):prodN (l.take j)≤prodN l:=by
  conv=>rhs;rw [← List.take_append_drop j l,prodN_app]
  exact Nat.le_mul_of_pos_right _ (prodN_pos _ fun x hx=>h x (List.mem_of_mem_drop hx))
theorem prod_take_succ {l:List Nat} {j:Nat} (hj:j < l.length):prodN (l.take (j+1))=prodN (l.take j)*l[j]:=by
  rw [take_snoc hj,prodN_app]
  show _=_
  unfold prodN
  simp
theorem cells_le (t:List Int):(cellsV t).1.2.length≤2:=by
  unfold cellsV
  split
  · simp
  · split
    · simp
    · rcases thr_at (t.getD 0 0) (t.getD 1 0) (t.getD 2 0) with h | ⟨_,_,h⟩ <;> rcases thr_at (t.getD 3 0) (t.getD 4 0) (t.getD 5 0) with g | ⟨_,_,g⟩ <;> simp only [h,g] <;> simp [fxAt]
theorem fix_le (p:Int) (c:List Int):(fixV p c).1.2.length≤3:=by
  have:=cells_le (c.drop (c.length-6))
  unfold fixV
  dsimp only
  repeat' split
  all_goals simp <;> omega
theorem scrub_t {m:Mm} {p a:Int} {n:Nat} (hk:known p=true) (hn:1≤n∧n≤4096) (hN:m.hasN a ((n:Int)+6)=true) :
    (scrubV m p n a).2.W.length=m.W.length∧(scrubV m p n a).1.1.1.length≤3∧(((scrubV m p n a).1.2=0∧(scrubV m p n a).2.t=m.t+n+6+(scrubV m p n a).1.1.1.length)∨((scrubV m p n a).1.2=10∧(scrubV m p n a).2.t=m.t+n+6∧(scrubV m p n a).1.1.1=[])):=by
  unfold scrubV
  rw [if_neg (by rw [hk]; simp),if_neg (by rw [hN]; simp;omega)]
  dsimp only
  rw [Int.toNat_natCast]
  have hf:=fix_le p (m.rds (rowO a (n+6))).1
  obtain ⟨g1,g2,g3,g4⟩:=Mm.rds_len (rowO a (n+6)) m
  rw [rowO_len] at g3
  split
  · exact ⟨g1,by simp,.inr ⟨rfl,by dsimp only;omega,rfl⟩⟩
  · obtain ⟨w1,w2,w3⟩:=Mm.wrs_len (((fixV p (m.rds (rowO a (n+6))).1).1.2.map (Fx.up a)).map Fx.st) (m.rds (rowO a (n+6))).2
    refine ⟨w1.trans g1,by simpa using hf,.inl ⟨rfl,?_⟩⟩
    dsimp only
    rw [w2,g3,List.length_map]; omega
theorem lay_t {m:Mm} {l:List Int} {a:Int} (hN:m.hasN a l.length=true):(layV m l a).1=0∧(layV m l a).2.W.length=m.W.length∧(layV m l a).2.t=m.t+l.length:=by
  unfold layV
  rw [if_pos hN]
  obtain ⟨w1,w2,w3⟩:=Mm.wrs_len ((rowO a l.length).zip l) m
  exact ⟨rfl,w1,by dsimp only;rw [w2,List.length_zip,rowO_len]; omega⟩
theorem sound_t {m:Mm} {p a:Int} {n:Nat} {s:Int×Int} (hk:known p=true) (hn:1≤n∧n≤4096) (hN:m.hasN a (n:Int)=true):(soundV m p n a s).1.2=0∧(soundV m p n a s).2.W.length=m.W.length∧(soundV m p n a s).2.t=m.t+n:=by
  unfold soundV
  rw [if_neg (by rw [hk]; simp),if_neg (by rw [hN]; simp;omega)]
  dsimp only
  rw [Int.toNat_natCast]
  obtain ⟨g1,g2,g3,g4⟩:=Mm.rds_len (rowO a n) m
  rw [rowO_len] at g3
  exact ⟨rfl,g1,g3⟩
theorem holds_t {m:Mm} {l:List Int} {a:Int} (hN:m.hasN a l.length=true):(holdsV m l a).1.2=0∧(holdsV m l a).2.W.length=m.W.length∧(holdsV m l a).2.t=m.t+l.length:=by
  unfold holdsV
  rw [if_pos hN]
  obtain ⟨g1,g2,g3,g4⟩:=Mm.rds_len (rowO a l.length) m
  rw [rowO_len] at g3
  exact ⟨rfl,g1,g3⟩
theorem hasN_len {m m':Mm} (h:m'.W.length=m.W.length) (a n:Int):m'.hasN a n=m.hasN a n:=by unfold Mm.hasN;rw [h]
theorem hasN_less {m:Mm} {a n k:Int} (h:m.hasN a n=true) (hk:0≤k∧k≤n):m.hasN a k=true:=by
  have:=hasN_in h
  unfold Mm.hasN;apply decide_eq_true;omega
theorem pass_zero {m:Mm} {p:Int} {l:List Ax} {inv:Bool} {s:Stp} {src dst tab:Int} (hs:stepV p l s=0) (h1:m.hasN src (nV l+6)=true) (h2:m.hasN dst (nV l+6)=true) (h3:m.hasN tab (tabV p l inv s).length=true):(passV m p l inv s src dst tab).1.2=0:=by
  unfold passV;rw [if_pos hs,if_pos ⟨h1,h2,h3⟩]
theorem turnV_eq {m:Mm} {p:Int} {l:List Ax} {inv:Bool} {s:Stp} {src dst tab:Int} (hs:stepV p l s=0) (h1:m.hasN src (nV l+6)=true) (h2:m.hasN dst (nV l+6)=true) (h3:m.hasN tab (tabV p l inv s).length=true) :
    turnV m p l inv s src dst tab=if (scrubV m p (nV l) src).1.2≠0 then (((false,[]),0),(scrubV m p (nV l) src).2) else
      (((( soundV (passV (layV (scrubV m p (nV l) src).2 (tabV p l inv s) tab).2 p l inv s src dst tab).2 p (nV l) src (scrubV m p (nV l) src).1.1.2).1.1 &&
        (holdsV (soundV (passV (layV (scrubV m p (nV l) src).2 (tabV p l inv s) tab).2 p l inv s src dst tab).2 p (nV l) src (scrubV m p (nV l) src).1.1.2).2 (tabV p l inv s) tab).1.1 &&
        (soundV (holdsV (soundV (passV (layV (scrubV m p (nV l) src).2 (tabV p l inv s) tab).2 p l inv s src dst tab).2 p (nV l) src (scrubV m p (nV l) src).1.1.2).2 (tabV p l inv s) tab).2 p (nV l) dst (passV (layV (scrubV m p (nV l) src).2 (tabV p l inv s) tab).2 p l inv s src dst tab).1.1).1.1,
        (scrubV m p (nV l) src).1.1.1),0),(soundV (holdsV (soundV (passV (layV (scrubV m p (nV l) src).2 (tabV p l inv s) tab).2 p l inv s src dst tab).2 p (nV l) src (scrubV m p (nV l) src).1.1.2).2 (tabV p l inv s) tab).2 p (nV l) dst (passV (layV (scrubV m p (nV l) src).2 (tabV p l inv s) tab).2 p l inv s src dst tab).1.1).2):=by
  unfold turnV
  rw [if_neg (fun e=>e hs),if_pos ⟨h1,h2,h3⟩]
set_option maxHeartbeats 4000000 in
set_option maxRecDepth 20000 in
theorem turn_w {S:St} {b:Nat} {m:Mm} {T:List Nat} (h:MS S b m T) {p:Int} {axes:Option Addr} {an ac:Nat} {l:List Ax} {inv:Bool} {s:Stp} {src dst tab:Int} (har:Ar S axes an 2 eAx l) (hl:an≤8796093022208) (hax:∀ y,axes=some y→l≠[]→y.block∉T) (ht:0≤m.t∧m.t < 576460752303423488) :
    WP (g_turn_Do [.pointer (some ⟨b,0,none⟩),vU p,.slice axes an ac,vB inv,spV s,vI src,vI dst,vI tab]) S fun v S'=>∃ fa,v=vT [vA [vB (turnV m p l inv s src dst tab).1.1.1,.slice fa (turnV m p l inv s src dst tab).1.1.2.length (turnV m p l inv s src dst tab).1.1.2.length],vI (turnV m p l inv s src dst tab).1.2]∧Kp T S S'∧MS S' b (turnV m p l inv s src dst tab).2 T∧OwnF S.length S' fa (turnV m p l inv s src dst tab).1.1.2:=by
  rw [g_turn_Do_eq]
  have hw:=h.w
  have hTlt:=h.lt
  simp only [wps,List.append_assoc,List.cons_append,List.nil_append,List.length_append,List.length_cons,List.length_nil,Nat.zero_add,Nat.reduceAdd,Nat.add_assoc]
  generalize hY:S++[AObj.cells (spC s) 29 none,AObj.cells [vB false,.slice none 0 0] 69 none]=Y
  have p0:S <+: Y:=⟨_,hY⟩
  have z0:Y[S.length]? = some (AObj.cells (spC s) 29 none):=by rw [← hY]; exact gA0
  have y0:Y[S.length+1]? = some (AObj.cells [vB false,.slice none 0 0] 69 none):=by rw [← hY]; exact gA
  have hYl:Y.length=S.length+2:=by rw [← hY]; simp
  have n0:S.length∉T:=fun hx=>by have:=hTlt _ hx;omega
  have n1:S.length+1∉T:=fun hx=>by have:=hTlt _ hx;omega
  have ends:∀ {S':St} {m':Mm} (o:AObj),S'[S.length+1]? = some (AObj.cells [vB false,.slice none 0 0] 69 none)→Kp T S S'→MS S' b m' T→(S'.set (S.length+1) o)[S.length+1]? = some o∧Kp T S (S'.set (S.length+1) o)∧MS (S'.set (S.length+1) o) b m' T:=fun {S' m'} o z k hm=>by
    have hl:=pre_lt z
    refine ⟨List.getElem?_set_self hl,⟨by rw [List.length_set]; exact k.len,fun i hi hn=>by rw [List.getElem?_set_ne (by omega),k.keep i hi hn]⟩,hm.kp (M:=[S.length+1]) ⟨by simp,fun i hi hn=>by rw [List.getElem?_set_ne]; rintro rfl;simp at hn⟩ (fun i hi=>by have:=hTlt i hi;simp;omega)⟩
  simp only [wps,cell_blk z0,List.getElem?_cons_zero,List.getElem?_cons_succ]
  refine (tablen_w (c:=ac) (har.mono p0) hl inv s).use ?_
  rintro _ S1 k1 ⟨tb,tk,rfl,htab,htn⟩
  have p1:=p0.trans k1
  have z1:=pre_get k1 z0
  have y1:=pre_get k1 y0
  have h1:=h.pre p1
  have l1:=p1.length_le
  simp only [wps,y1,List.drop_succ_cons,List.drop_zero,List.drop_nil]
  by_cases hst:stepV p l s≠0
  · have hV:turnV m p l inv s src dst tab=(((false,[]),stepV p l s),m):=by unfold turnV;rw [if_pos hst]
    rw [hV]
    obtain ⟨q1,q2,q3⟩:=ends (AObj.cells [vB false,.slice none 0 0] 69 none) y1 (Kp.of p1) h1
    simp only [cell_blk q1,List.getElem?_cons_zero,List.getElem?_cons_succ,wps]
    exact ⟨fun _=>⟨none,rfl,q2,q3,.inl ⟨rfl,rfl⟩⟩,fun e=>absurd e hst⟩
  have hst:stepV p l s=0:=Classical.byContradiction hst
  refine ⟨fun e=>absurd hst e,fun _=>?_⟩
  rw [show tableV p l inv s (tabV p l inv s)=tabV p l inv s by unfold tableV;rw [if_pos hst]] at htab ⊢
  have hk:=step_known hst
  obtain ⟨kk,dd,inner,nn,mm,hS⟩:=step_shape hst
  have hnn:=hS.nn
  have hn1:=hS.n1
  have hTs:=tab_small (inv:=inv) hst
  have hanl:=har.1
  have hnd1:∀ x∈ndOf l,1≤x:=fun x hx=>(hS.all x hx).1
  have hpn:=hS.np
  refine wp_loop (fun st S' t=>∃ j:Nat,st=[vN (prodN ((ndOf l).take j)),vN j]∧t=an-j∧j≤an∧S1 <+: S') ?_ an _ _ ⟨0,rfl,rfl,by omega,List.prefix_refl _⟩
  rintro st S2 _ ⟨j,rfl,rfl,hj,k2⟩
  simp only [wps]
  refine ⟨fun h5=>?_,fun h5=>?_⟩
  · have hj':j < l.length:=by omega
    have hjn:j < (ndOf l).length:=by simp [ndOf]; exact hj'
    obtain ⟨x,rfl,c0,c1⟩:=(har.mono (p1.trans k2)).getAx hj'
    have pr1:=prod_take_le hnd1 (j+1)
    have pr2:=prod_take_succ hjn
    have hN:=nd_get hS hj'
    rw [hpn] at pr1
    have hmul:((prodN ((ndOf l).take j):Nat):Int)*l[j].N=((prodN ((ndOf l).take (j+1)):Nat):Int):=by rw [pr2,Int.natCast_mul,hN]
    have gw:(S2++[AObj.cells [vI 0,vB false] 75 none])[S2.length]? = some (AObj.cells [vI 0,vB false] 75 none):=get_new
    simp only [wps,c0,c1,Int.toNat_natCast,hmul]
    rw [wI_ (n:=((prodN ((ndOf l).take (j+1)):Nat):Int)) (by omega) (by omega),wI_ (n:=(j:Int)+1) (by omega) (by omega)]
    exact ⟨by omega,an-(j+1),by omega,j+1,rfl,rfl,by omega,k2.trans (List.prefix_append _ _)⟩
  have hjn:j=an:=by omega
  have hall:(ndOf l).take j=ndOf l:=List.take_of_length_le (by simp [ndOf]; omega)
  rw [hall,hpn]
  have p2:=p1.trans k2
  have h2:=h1.pre k2
  have z2:=pre_get k2 z1
  have y2:=pre_get k2 y1
  have w6:wI ((nn:Int)+6)=(nn:Int)+6:=wI_ (by omega) (by omega)
  have pb:=List.prefix_append S2 [AObj.cells [.pointer (some ⟨b,0,none⟩),vI src,vI ((nn:Int)+6),.pointer (some ⟨b,0,none⟩),vI dst,vI ((nn:Int)+6),.pointer (some ⟨b,0,none⟩),vI tab,vN (tabV p l inv s).length] 131 none]
  have zb:=get_new (S:=S2) (o:=AObj.cells [.pointer (some ⟨b,0,none⟩),vI src,vI ((nn:Int)+6),.pointer (some ⟨b,0,none⟩),vI dst,vI ((nn:Int)+6),.pointer (some ⟨b,0,none⟩),vI tab,vN (tabV p l inv s).length] 131 none)
  simp only [wps,w6]
  generalize S2++[AObj.cells [.pointer (some ⟨b,0,none⟩),vI src,vI ((nn:Int)+6),.pointer (some ⟨b,0,none⟩),vI dst,vI ((nn:Int)+6),.pointer (some ⟨b,0,none⟩),vI tab,vN (tabV p l inv s).length] 131 none]=S3 at pb zb ⊢
  have p3:=p2.trans pb
  have h3:=h2.pre pb
  have y3:=pre_get pb y2
  have hVe:(m.hasN src (nV l+6)=true∧m.hasN dst (nV l+6)=true∧m.hasN tab (tabV p l inv s).length=true)∨turnV m p l inv s src dst tab=(((false,[]),1),m):=by
    by_cases hc:m.hasN src (nV l+6)=true∧m.hasN dst (nV l+6)=true∧m.hasN tab (tabV p l inv s).length=true
    · exact .inl hc
    · right;unfold turnV;rw [if_neg (fun e=>e hst),if_neg hc]
  have cb:∀ (i:Nat) (v:Value),[.pointer (some ⟨b,0,none⟩),vI src,vI ((nn:Int)+6),.pointer (some ⟨b,0,none⟩),vI dst,vI ((nn:Int)+6),.pointer (some ⟨b,0,none⟩),vI tab,vN (tabV p l inv s).length][i]? = some v→∀ {S':St},S3 <+: S'→St.cell S' ⟨S2.length,i,none⟩=some v:=fun i v e S' k=>pre_cell k (by rw [cell_blk zb]; exact e)

  refine wp_round ?_
  have b10:=cb 0 _ rfl (List.prefix_refl S3)
  have b11:=cb 1 _ rfl (List.prefix_refl S3)
  have b12:=cb 2 _ rfl (List.prefix_refl S3)
  simp only [wps,Nat.reduceMul,Nat.reduceAdd,Nat.zero_add,Nat.zero_mul,Int.reduceToNat,Int.reduceLT,Int.reduceLE,b10,b11,b12]
  have q1:=List.prefix_append S3 [AObj.cells [.pointer (some ⟨b,0,none⟩),vI src,vI ((nn:Int)+6)] 131 none]
  refine (rowthere_w (h3.pre q1)).use ?_
  rintro _ S4 k4 rfl
  have p34:=q1.trans k4
  have y4:=pre_get p34 y3
  have h4:=h3.pre p34
  have p4:=p3.trans p34
  have r4:=ends (AObj.cells [vB false,.slice none 0 0] 69 none) y4 (Kp.of p4) h4
  simp only [wps,y4,List.drop_succ_cons,List.drop_zero,List.drop_nil,cell_blk r4.1,List.getElem?_cons_zero,List.getElem?_cons_succ]
  refine ⟨fun e=>?_,fun hc1=>?_⟩
  · rcases hVe with hc | hV
    · exact absurd (hnn ▸ hc.1) (by rw [e]; simp)
    · rw [hV]; exact ⟨none,rfl,r4.2.1,r4.2.2,.inl ⟨rfl,rfl⟩⟩
  refine wp_round ?_
  have b20:=cb 3 _ rfl p34
  have b21:=cb 4 _ rfl p34
  have b22:=cb 5 _ rfl p34
  have w01:wI (0+1)=1:=rfl
  simp only [wps,w01,Nat.reduceMul,Nat.reduceAdd,Nat.zero_add,Nat.zero_mul,Nat.one_mul,Int.reduceToNat,Int.toNat_one,Int.reduceLT,Int.reduceLE,b20,b21,b22]
  have q2:=List.prefix_append S4 [AObj.cells [.pointer (some ⟨b,0,none⟩),vI dst,vI ((nn:Int)+6)] 131 none]
  refine (rowthere_w (h4.pre q2)).use ?_
  rintro _ S5 k5 rfl
  have p45:=q2.trans k5
  have y5:=pre_get p45 y4
  have h5':=h4.pre p45
  have p5:=p4.trans p45
  have r5:=ends (AObj.cells [vB false,.slice none 0 0] 69 none) y5 (Kp.of p5) h5'
  simp only [wps,y5,List.drop_succ_cons,List.drop_zero,List.drop_nil,cell_blk r5.1,List.getElem?_cons_zero,List.getElem?_cons_succ]
  refine ⟨fun e=>?_,fun hc2=>?_⟩
  · rcases hVe with hc | hV
    · exact absurd (hnn ▸ hc.2.1) (by rw [e]; simp)
    · rw [hV]; exact ⟨none,rfl,r5.2.1,r5.2.2,.inl ⟨rfl,rfl⟩⟩
  refine wp_round ?_
  have p35:=p34.trans p45
  have b30:=cb 6 _ rfl p35
  have b31:=cb 7 _ rfl p35
  have b32:=cb 8 _ rfl p35
  have w11:wI (1+1)=2:=rfl
  simp only [wps,w11,Nat.reduceMul,Nat.reduceAdd,Nat.zero_add,Nat.zero_mul,Nat.one_mul,Int.reduceToNat,Int.reduceLT,Int.reduceLE,b30,b31,b32]
  have q3:=List.prefix_append S5 [AObj.cells [.pointer (some ⟨b,0,none⟩),vI tab,vN (tabV p l inv s).length] 131 none]
  refine (rowthere_w (h5'.pre q3)).use ?_
  rintro _ S6 k6 rfl
  have p56:=q3.trans k6
  have y6:=pre_get p56 y5
  have h6:=h5'.pre p56
  have p6:=p5.trans p56
  have r6:=ends (AObj.cells [vB false,.slice none 0 0] 69 none) y6 (Kp.of p6) h6
  simp only [wps,y6,List.drop_succ_cons,List.drop_zero,List.drop_nil,cell_blk r6.1,List.getElem?_cons_zero,List.getElem?_cons_succ]
  refine ⟨fun e=>?_,fun hc3=>?_⟩
  · rcases hVe with hc | hV
    · exact absurd (hc.2.2) (by rw [e]; simp)
    · rw [hV]; exact ⟨none,rfl,r6.2.1,r6.2.2,.inl ⟨rfl,rfl⟩⟩
  refine wp_round ?_
  have w21:wI (2+1)=3:=rfl
  simp only [wps,w21,Int.reduceLT]
  clear hVe
  have hc1':m.hasN src (nV l+6)=true:=by rw [hnn]; exact hc1
  have hc2':m.hasN dst (nV l+6)=true:=by rw [hnn]; exact hc2
  have hVt:=turnV_eq (inv:=inv) hst hc1' hc2' hc3
  generalize turnV m p l inv s src dst tab=V at hVt ⊢
  rw [hnn] at hVt
  obtain ⟨a1,a2,a3⟩:=scrub_t (n:=nn) hk (by omega) hc1
  refine (scrub_w (p:=p) (n:=(nn:Int)) (a:=src) h6 (by omega)).mono ?_
  rintro _ S7 ⟨fx,rfl,k7,h7,o7⟩
  generalize scrubV m p nn src=A at hVt a1 a2 a3 h7 o7 ⊢
  have kp7:=(Kp.of p6).trans k7
  have y7:=k7.get y6 n1
  have l6:=p6.length_le
  have ly6:=pre_lt y6
  simp only [wps]
  have q7:=List.prefix_append S7 [AObj.cells [vU A.1.1.2.1,vU A.1.1.2.2] 40 none]
  have z7:=get_new (S:=S7) (o:=AObj.cells [vU A.1.1.2.1,vU A.1.1.2.2] 40 none)
  have z7n:S7.length∉T:=fun hx=>by have:=hTlt _ hx;have:=k7.len;omega
  have hS7l:S6.length≤S7.length:=k7.len
  generalize hY8:S7++[AObj.cells [vU A.1.1.2.1,vU A.1.1.2.2] 40 none]=S8 at q7 z7 ⊢
  have y8:=pre_get q7 y7
  have h8:=h7.pre q7
  have kp8:=kp7.more q7
  have o8:=o7.pre q7
  have r8:=ends (AObj.cells [vB false,.slice none 0 0] 69 none) y8 kp8 h8
  simp only [wps,y8,List.drop_succ_cons,List.drop_zero,List.drop_nil,cell_blk r8.1,List.getElem?_cons_zero,List.getElem?_cons_succ]
  refine ⟨fun e=>?_,fun e=>?_⟩
  · rw [if_pos e] at hVt
    rw [hVt]
    exact ⟨none,rfl,r8.2.1,r8.2.2,.inl ⟨rfl,rfl⟩⟩
  rw [if_neg (fun h=>h e)] at hVt
  have a3:A.2.t=m.t+nn+6+A.1.1.1.length:=by
    rcases a3 with a3 | a3
    · exact a3.2
    · rw [e] at a3;exact absurd a3.1 (by decide)
  have htu:∀ y∈tabV p l inv s,Go.Proofs.YtackinampfgklaaGreatDoor.u64r y:=fun y hy=>u64_of hk (tab_in hk y hy)
  have hTT:∀ y,tb=some y→tabV p l inv s≠[]→y.block∉T:=fun y hy _ hm=>by have:=htn y hy;have:=hTlt _ hm;omega
  have kp18:Kp T S1 S8:=((Kp.of (k2.trans (pb.trans (p34.trans (p45.trans p56))))).trans k7).more q7
  have htab8:=kp18.ar htab (fun hne y hy=>hTT y hy hne)
  obtain ⟨b1,b2,b3⟩:=lay_t (m:=A.2) (l:=tabV p l inv s) (a:=tab) (by rw [hasN_len a1]; exact hc3)
  refine (lay_w (lc:=tk) h8 htab8 hTT htu (by omega) (by omega)).mono ?_
  rintro _ S9 ⟨rfl,k9,h9⟩
  rw [b1]
  generalize (layV A.2 (tabV p l inv s) tab).2=L at hVt b2 b3 h9
  have bL:L.W.length=m.W.length:=b2.trans a1
  have kp9:=kp8.trans k9
  have y9:=k9.get y8 n1
  have z9:=k9.get z7 z7n
  have zS6:=pre_get ((k2.trans (pb.trans (p34.trans (p45.trans p56))))) z1
  have zS9:=k9.get (pre_get q7 (k7.get zS6 n0)) n0
  have har9:=kp9.ar har (fun hne y hy=>hax y hy hne)
  simp only [wps,cell_blk zS9,List.getElem?_cons_zero,List.getElem?_cons_succ]
  refine (run_w (p:=p) (c:=ac) (inv:=inv) (s:=s) (src:=src) (dst:=dst) (tab:=tab) h9 har9 hl hax ⟨by omega,by omega⟩).mono ?_
  rintro _ S10 ⟨rfl,k10,h10⟩
  have v0:(passV L p l inv s src dst tab).1.2=0:=pass_zero hst (by rw [hasN_len bL]; exact hc1') (by rw [hasN_len bL]; exact hc2') (by rw [hasN_len bL]; exact hc3)
  have vt:(passV L p l inv s src dst tab).2.t=L.t+3*nn+6∧(passV L p l inv s src dst tab).2.W.length=L.W.length:=by
    rcases passV_facts (m:=L) (p:=p) (l:=l) (inv:=inv) (s:=s) (src:=src) (dst:=dst) (tab:=tab) with ⟨hf,_⟩ | hf
    · exact absurd v0 hf
    · exact ⟨by rw [hf.2.1,hnn],hf.2.2.1⟩
  rw [v0]
  generalize passV L p l inv s src dst tab=P at hVt v0 vt h10 ⊢
  obtain ⟨vt1,vt2⟩:=vt
  have bP:P.2.W.length=m.W.length:=vt2.trans bL
  have kp10:=kp9.trans k10
  have y10:=k10.get y9 n1
  have z10:=k10.get z9 z7n
  simp only [wps]
  have q11:=List.prefix_append S10 [AObj.cells [vU P.1.1.1,vU P.1.1.2] 40 none]
  have x11:=get_new (S:=S10) (o:=AObj.cells [vU P.1.1.1,vU P.1.1.2] 40 none)
  have x11n:S10.length∉T:=fun hx=>by have:=hTlt _ hx;have:=kp10.len;omega
  generalize S10++[AObj.cells [vU P.1.1.1,vU P.1.1.2] 40 none]=S11 at q11 x11 ⊢
  have y11:=pre_get q11 y10
  have z11:=pre_get q11 z10
  have h11:=h10.pre q11
  have kp11:=kp10.more q11
  have hsrcn:P.2.hasN src (nn:Int)=true:=by rw [hasN_len bP]; exact hasN_less hc1 ⟨by omega,by omega⟩
  obtain ⟨s1,s2,s3⟩:=sound_t (m:=P.2) (s:=A.1.1.2) hk (n:=nn) (by omega) hsrcn
  simp only [wps,cell_blk z11,List.getElem?_cons_zero,List.getElem?_cons_succ]
  refine (sound_w (p:=p) (n:=(nn:Int)) (a:=src) (s:=A.1.1.2) h11 ⟨by omega,by omega⟩).mono ?_
  rintro _ S12 ⟨rfl,k12,h12⟩
  rw [s1]
  generalize soundV P.2 p nn src A.1.1.2=B at hVt s2 s3 h12 ⊢
  have bB:B.2.W.length=m.W.length:=s2.trans bP
  have kp12:=kp11.trans k12
  have y12:=k12.get y11 n1
  have x12:=k12.get x11 x11n
  have kp1c:Kp T S1 S12:=((kp18.trans k9).trans k10 |>.more q11).trans k12
  have htab12:=kp1c.ar htab (fun hne y hy=>hTT y hy hne)
  obtain ⟨u1,u2,u3⟩:=holds_t (m:=B.2) (l:=tabV p l inv s) (a:=tab) (by rw [hasN_len bB]; exact hc3)
  simp only [wps]
  refine (holds_w (lc:=tk) (a:=tab) h12 htab12 hTT ⟨by omega,by omega⟩ (by omega)).mono ?_
  rintro _ S13 ⟨rfl,k13,h13⟩
  rw [u1]
  generalize holdsV B.2 (tabV p l inv s) tab=C at hVt u2 u3 h13 ⊢
  have bC:C.2.W.length=m.W.length:=u2.trans bB
  have kp13:=kp12.trans k13
  have y13:=k13.get y12 n1
  have x13:=k13.get x12 x11n
  have hdstn:C.2.hasN dst (nn:Int)=true:=by rw [hasN_len bC]; exact hasN_less hc2 ⟨by omega,by omega⟩
  obtain ⟨d1,d2,d3⟩:=sound_t (m:=C.2) (s:=P.1.1) hk (n:=nn) (by omega) hdstn
  simp only [wps,cell_blk x13,List.getElem?_cons_zero,List.getElem?_cons_succ]
  refine (sound_w (p:=p) (n:=(nn:Int)) (a:=dst) (s:=P.1.1) h13 ⟨by omega,by omega⟩).mono ?_
  rintro _ S14 ⟨rfl,k14,h14⟩
  rw [d1]
  generalize soundV C.2 p nn dst P.1.1=D at hVt d2 d3 h14 ⊢
  have kp14:=kp13.trans k14
  have y14:=k14.get y13 n1
  have k814:Kp T S8 S14:=((((k9.trans k10).more q11).trans k12).trans k13).trans k14
  have o14:OwnF S6.length S14 fx A.1.1.1:=o8.keep fun i hi=>k814.keep i (o8.lt i hi).2 (fun hm=>by have:=(o8.lt i hi).1;have:=hTlt _ hm;omega)
  have own:∀ o:AObj,OwnF S.length (S14.set (S.length+1) o) fx A.1.1.1:=fun o=>by
    have:=o14.keep (S':=S14.set (S.length+1) o) fun i hi=>by
      have:=(o14.lt i hi).1
      rw [List.getElem?_set_ne (by omega)]
    exact this.imp id fun ⟨b,e1,e2,e3⟩=>⟨b,e1,by omega,e3⟩
  have fin:∀ u:Bool,u=(B.1.1 && C.1.1 && D.1.1)→∃ fa,vT [vA [vB u,.slice fx A.1.1.1.length A.1.1.1.length],vI 0]=vT [vA [vB V.1.1.1,.slice fa V.1.1.2.length V.1.1.2.length],vI V.1.2]∧Kp T S (S14.set (S.length+1) (AObj.cells [vB u,.slice fx A.1.1.1.length A.1.1.1.length] 69 none))∧MS (S14.set (S.length+1) (AObj.cells [vB u,.slice fx A.1.1.1.length A.1.1.1.length] 69 none)) b V.2 T∧OwnF S.length (S14.set (S.length+1) (AObj.cells [vB u,.slice fx A.1.1.1.length A.1.1.1.length] 69 none)) fa V.1.1.2:=fun u hu=>by
    have r14:=ends (AObj.cells [vB u,.slice fx A.1.1.1.length A.1.1.1.length] 69 none) y14 kp14 h14
    rw [hVt,hu]
    rw [hu] at r14
    exact ⟨fx,rfl,r14.2.1,r14.2.2,own _⟩
  have rr:=fun u:Bool=>(ends (AObj.cells [vB u,.slice fx A.1.1.1.length A.1.1.1.length] 69 none) y14 kp14 h14).1
  simp only [wps,y14,List.drop_succ_cons,List.drop_zero,List.drop_nil,fun u=>cell_blk (rr u),List.getElem?_cons_zero,List.getElem?_cons_succ]
  refine ⟨fun e1=>⟨fun e2=>fin _ (by rw [e1,e2]; rfl),fun e2=>fin _ (by rw [e1,e2]; rfl)⟩,fun e1=>fin _ (by rw [e1]; rfl)⟩
end Go.AM
set_option linter.unusedVariables false
set_option linter.unusedSimpArgs false
namespace Go.AM
open Go Go.Proofs.YtackinampfgklaaGreatDoor
theorem turn_ticks {m:Mm} {p:Int} {l:List Ax} {inv:Bool} {s:Stp} {src dst tab:Int} (hs:stepV p l s=0) (h1:m.hasN src (nV l+6)=true) (h2:m.hasN dst (nV l+6)=true) (h3:m.hasN tab (tabV p l inv s).length=true) :
    (turnV m p l inv s src dst tab).1.2=0∧(turnV m p l inv s src dst tab).1.1.2.length≤3∧(turnV m p l inv s src dst tab).2.W.length=m.W.length ∧
    (((turnV m p l inv s src dst tab).1.1.1=false∧(turnV m p l inv s src dst tab).1.1.2=[]∧(turnV m p l inv s src dst tab).2.t=m.t+nV l+6) ∨
     (turnV m p l inv s src dst tab).2.t=m.t+6*nV l+12+2*(tabV p l inv s).length+(turnV m p l inv s src dst tab).1.1.2.length):=by
  have hk:=step_known hs
  obtain ⟨kk,dd,inner,nn,mm,hS⟩:=step_shape hs
  have hnn:=hS.nn
  have hn1:=hS.n1
  have hV:=turnV_eq (inv:=inv) hs h1 h2 h3
  generalize turnV m p l inv s src dst tab=V at hV ⊢
  have v0:∀ L:Mm,L.W.length=m.W.length→(passV L p l inv s src dst tab).1.2=0:=fun L hL=>pass_zero hs (by rw [hasN_len hL]; exact h1) (by rw [hasN_len hL]; exact h2) (by rw [hasN_len hL]; exact h3)
  rw [hnn] at hV h1 h2 ⊢
  obtain ⟨a1,a2,a3⟩:=scrub_t (n:=nn) hk (by omega) h1
  generalize scrubV m p nn src=A at hV a1 a2 a3
  by_cases e:A.1.2≠0
  · rw [if_pos e] at hV
    rw [hV]
    rcases a3 with a3 | a3
    · exact absurd a3.1 e
    · exact ⟨rfl,by simp,a1,.inl ⟨rfl,rfl,a3.2.1⟩⟩
  rw [if_neg e] at hV
  have a3:A.2.t=m.t+nn+6+A.1.1.1.length:=by
    rcases a3 with a3 | a3
    · exact a3.2
    · exact absurd (by rw [a3.1]; decide) e
  obtain ⟨b1,b2,b3⟩:=lay_t (m:=A.2) (l:=tabV p l inv s) (a:=tab) (by rw [hasN_len a1]; exact h3)
  generalize (layV A.2 (tabV p l inv s) tab).2=L at hV b2 b3
  have bL:L.W.length=m.W.length:=b2.trans a1
  have v0:=v0 L bL
  have vt:(passV L p l inv s src dst tab).2.t=L.t+3*nn+6∧(passV L p l inv s src dst tab).2.W.length=L.W.length:=by
    rcases passV_facts (m:=L) (p:=p) (l:=l) (inv:=inv) (s:=s) (src:=src) (dst:=dst) (tab:=tab) with ⟨hf,_⟩ | hf
    · exact absurd v0 hf
    · exact ⟨by rw [hf.2.1,hnn],hf.2.2.1⟩
  generalize passV L p l inv s src dst tab=P at hV v0 vt
  obtain ⟨vt1,vt2⟩:=vt
  have bP:P.2.W.length=m.W.length:=vt2.trans bL
  obtain ⟨s1,s2,s3⟩:=sound_t (m:=P.2) (s:=A.1.1.2) hk (n:=nn) (a:=src) (by omega) (by rw [hasN_len bP]; exact hasN_less h1 ⟨by omega,by omega⟩)
  generalize soundV P.2 p nn src A.1.1.2=B at hV s2 s3
  have bB:B.2.W.length=m.W.length:=s2.trans bP
  obtain ⟨u1,u2,u3⟩:=holds_t (m:=B.2) (l:=tabV p l inv s) (a:=tab) (by rw [hasN_len bB]; exact h3)
  generalize holdsV B.2 (tabV p l inv s) tab=C at hV u2 u3
  have bC:C.2.W.length=m.W.length:=u2.trans bB
  obtain ⟨d1,d2,d3⟩:=sound_t (m:=C.2) (s:=P.1.1) hk (n:=nn) (a:=dst) (by omega) (by rw [hasN_len bC]; exact hasN_less h2 ⟨by omega,by omega⟩)
  generalize soundV C.2 p nn dst P.1.1=D at hV d2 d3
  rw [hV]
  refine ⟨rfl,a2,d2.trans bC,.inr ?_⟩
  dsimp only
  omega
theorem row_nil {m:Mm} (h:m.L=[]) {d n:Nat} (hl:d+n≤m.W.length):m.rds (rowO (d:Int) n)=((m.W.drop d).take n,⟨m.W,[],m.t+n,m.ah⟩):=by
  have:=gI_row (I:=m.W) (d:=d) (n:=n) hl
  rw [rds_nil _ _ h,rowO_len]
  exact Prod.ext this rfl
theorem win_mend {k d:Nat}:∀ (fx:List Fx) (W:List Int),(∀ f∈fx,0≤f.ad∧f.ad < k)→((wset W ((fx.map (Fx.up (d:Int))).map Fx.st)).drop d).take k=mend ((W.drop d).take k) fx
  | [], W, _ => rfl
  | f :: fx, W, h => by
    have hf:=h f (by simp)
    have e1:wset W (((f :: fx).map (Fx.up (d:Int))).map Fx.st)=wset (W.set (f.ad+(d:Int)).toNat f.good) ((fx.map (Fx.up (d:Int))).map Fx.st):=rfl
    rw [e1,win_mend fx _ fun g hg=>h g (by simp [hg]),win_set,if_pos ⟨by omega,by omega⟩]
    show _=mend (((W.drop d).take k).set f.ad.toNat f.good) fx
    rw [show (f.ad+(d:Int)).toNat-d=f.ad.toNat by omega]
theorem win_row {d:Nat} {l W:List Int} (h:d+l.length≤W.length):((wset W ((rowO (d:Int) l.length).zip l)).drop d).take l.length=l:=by
  have hz:(rowO (d:Int) l.length).zip l=((List.range l.length).zip l).map (shf (d:Int)):=zip_shf _ _ _
  have hfst:((List.range l.length).zip l).map (·.1)=List.range l.length:=by rw [List.map_fst_zip]; simp
  rw [hz,wset_shf _ _ h (fun e he=>List.mem_range.1 (List.of_mem_zip he).1)]
  apply List.ext_getElem?
  intro i
  by_cases hi:i < l.length
  · have hm:(i,l[i])∈(List.range l.length).zip l:=by
      refine List.mem_iff_getElem.2 ⟨i,by simp;exact hi,by simp⟩
    have:=scat_at ((List.range l.length).zip l) ((W.drop d).take l.length) (by rw [hfst]; exact List.nodup_range) _ hm (by simp;omega)
    rw [this,List.getElem?_eq_getElem hi]
  · rw [List.getElem?_eq_none (by rw [scat_len]; simp;omega),List.getElem?_eq_none (by omega)]
theorem wset_out {d n:Nat} {l:List (Int×Int)} {W:List Int} (h:∀ e∈l,(d:Int)≤e.1∧e.1 < (d:Int)+n) {i:Nat} (hi:i < d∨d+n≤i):(wset W l)[i]? = W[i]?:=
  wset_other l W i fun e he=>by have:=h e he;omega
theorem win_same {W V:List Int} {d n:Nat} (h:∀ i,d≤i→i < d+n→W[i]? = V[i]?):(W.drop d).take n=(V.drop d).take n:=by
  apply List.ext_getElem?
  intro i
  rw [List.getElem?_take,List.getElem?_take]
  split
  · rename_i hi
    rw [List.getElem?_drop,List.getElem?_drop]
    exact h _ (by omega) (by omega)
  · rfl
theorem scrub_nil {m:Mm} (hL:m.L=[]) {p:Int} {n d:Nat} {good:List Int} {fx:List Fx} (hk:known p=true) (hn:1≤n∧n≤4096) (hl:d+n+6≤m.W.length) (hw:∀ y∈m.W,0≤y) (hf:fixV p ((m.W.drop d).take (n+6))=((good,fx),0)) :
    (scrubV m p n d).1=((fx.map (Fx.up d),(good.getD n 0,good.getD (n+3) 0)),0)∧(scrubV m p n d).2.L=[]∧(scrubV m p n d).2.W.length=m.W.length∧((scrubV m p n d).2.W.drop d).take (n+6)=good∧∀ i,(i < d∨d+n+6≤i)→(scrubV m p n d).2.W[i]? = m.W[i]?:=by
  have hN:m.hasN (d:Int) ((n:Int)+6)=true:=by unfold Mm.hasN;apply decide_eq_true;omega
  obtain ⟨x,_,g1,g2,g3,g4,g5,g6,g7,g8⟩:=fix_sound (fun y hy=>hw y (List.mem_of_mem_drop (List.mem_of_mem_take hy))) hf
  have hcl:((m.W.drop d).take (n+6)).length=n+6:=by simp;omega
  unfold scrubV
  rw [if_neg (by rw [hk]; simp),if_neg (by rw [hN]; simp;omega)]
  dsimp only
  rw [Int.toNat_natCast,row_nil hL (by omega)]
  dsimp only
  rw [hf,if_neg (by simp)]
  dsimp only
  rw [wrs_nil _ _ rfl]
  refine ⟨rfl,rfl,wset_len _ _,?_,fun i hi=>?_⟩
  · dsimp only
    rw [win_mend fx m.W fun f hf=>by have:=g7 f hf;omega]
    exact g8
  · dsimp only
    refine wset_out (n:=n+6) (fun e he=>?_) (by omega)
    obtain ⟨f,hf1,rfl⟩:=List.mem_map.1 he
    obtain ⟨f',hf2,rfl⟩:=List.mem_map.1 hf1
    have:=g7 f' hf2
    show (d:Int)≤f'.ad+d∧f'.ad+d < _
    omega
theorem lay_nil {m:Mm} (hL:m.L=[]) {l:List Int} {d:Nat} (hl:d+l.length≤m.W.length):(layV m l d).2.L=[]∧(layV m l d).2.W.length=m.W.length∧((layV m l d).2.W.drop d).take l.length=l∧∀ i,(i < d∨d+l.length≤i)→(layV m l d).2.W[i]? = m.W[i]?:=by
  have hN:m.hasN (d:Int) (l.length:Int)=true:=by unfold Mm.hasN;apply decide_eq_true;omega
  unfold layV
  rw [if_pos hN]
  dsimp only
  rw [wrs_nil _ _ hL]
  refine ⟨rfl,wset_len _ _,win_row hl,fun i hi=>?_⟩
  dsimp only
  refine wset_out (n:=l.length) (fun e he=>?_) hi
  obtain ⟨j,hj,hx⟩:=List.mem_map.1 (List.of_mem_zip he).1
  have:=List.mem_range.1 hj
  rw [← hx]; omega
theorem pass_L {m:Mm} (hL:m.L=[]) {p:Int} {l:List Ax} {inv:Bool} {s:Stp} {src dst tab:Int}:(passV m p l inv s src dst tab).2.L=[]:=by
  unfold passV
  split
  · rename_i hs
    split
    · dsimp only
      obtain ⟨k,dd,inner,nn,mm,hS⟩:=step_shape hs
      obtain ⟨gf1,_⟩:=grps_facts hS
      obtain ⟨L,a1,a2,a3,a4⟩:=steps_nil (inv:=inv) (src:=src) (dst:=dst) (tab:=tab) (step_known hs) (grpsV l s) (m,List.replicate (nV l).toNat 0) gf1 hL
      have a4:(passG p inv s.tw src dst tab m (nV l).toNat (grpsV l s)).1.L=[]:=a4
      rw [wrs_nil _ _ a4]
    · exact hL
  · exact hL
theorem agrees_ok {p:Int} (hk:known p=true) {x:List Int} (hx:∀ y∈x,inP p y) (hl:x.length≤4096):agreesV p (sumsV p x) x=true:=by
  unfold agreesV
  rw [hk,decide_eq_true hl,decide_eq_true (show ∀ y∈x,y < p from fun y hy=>(hx y hy).2)]
  simp
theorem turn_quiet {m:Mm} (hL:m.L=[]) {p:Int} {l:List Ax} {inv:Bool} {s:Stp} {sr d tb n:Nat} {good:List Int} {fx:List Fx} {x:List Int} (hst:stepV p l s=0) (hn:nV l=(n:Int)) (hw:∀ y∈m.W,0≤y)
    (h1:sr+n+6≤m.W.length) (h2:d+n+6≤m.W.length) (h3:tb+(tabV p l inv s).length≤m.W.length)
    (hd:d+n+6≤sr∨sr+n+6≤d) (ht:d+n+6≤tb∨tb+(tabV p l inv s).length≤d) (hs:sr+n+6≤tb∨tb+(tabV p l inv s).length≤sr)
    (hf:fixV p ((m.W.drop sr).take (n+6))=((good,fx),0)) (hx:good=x++sx (sumsV p x)) (hxi:∀ y∈x,inP p y) (hxl:x.length=n) :
    (turnV m p l inv s sr d tb).1=((true,fx.map (Fx.up sr)),0)∧(turnV m p l inv s sr d tb).2.L=[]∧(turnV m p l inv s sr d tb).2.W.length=m.W.length ∧
    ((turnV m p l inv s sr d tb).2.W.drop d).take (n+6)=doG p inv s.tw n (grpsV l s) (tabV p l inv s) x++sixL (sumsV p (doG p inv s.tw n (grpsV l s) (tabV p l inv s) x)):=by
  have hk:=step_known hst
  obtain ⟨kk,dd,inner,nn,mm,hS⟩:=step_shape hst
  have hnn:=hS.nn
  have hn1:=hS.n1
  obtain rfl:nn=n:=by omega
  have hN:∀ (m':Mm) (a k:Nat),m'.W.length=m.W.length→a+k≤m.W.length→m'.hasN (a:Int) (k:Int)=true:=fun m' a k e h=>by unfold Mm.hasN;apply decide_eq_true;omega
  have c1:m.hasN sr (nV l+6)=true:=by rw [hn]; exact hN m sr (nn+6) rfl (by omega)
  have c2:m.hasN d (nV l+6)=true:=by rw [hn]; exact hN m d (nn+6) rfl (by omega)
  have c3:m.hasN tb (tabV p l inv s).length=true:=hN m tb _ rfl (by omega)
  have hV:=turnV_eq (inv:=inv) hst c1 c2 c3
  generalize turnV m p l inv s sr d tb=V at hV ⊢
  rw [hn] at hV
  obtain ⟨a1,a2,a3,a4,a5⟩:=scrub_nil hL hk (by omega) h1 hw hf
  generalize scrubV m p nn sr=A at hV a1 a2 a3 a4 a5
  rw [a1] at hV
  dsimp only at hV
  rw [if_neg (by simp)] at hV
  obtain ⟨q1,q2⟩:=sx_get (sumsV p x) x
  rw [hxl] at q1 q2
  rw [hx,q1,q2] at hV
  obtain ⟨b1,b2,b3,b4⟩:=lay_nil a2 (l:=tabV p l inv s) (d:=tb) (by omega)
  generalize (layV A.2 (tabV p l inv s) tb).2=L at hV b1 b2 b3 b4
  have bL:L.W.length=m.W.length:=b2.trans a3
  have wx:(L.W.drop sr).take (nn+6)=x++sx (sumsV p x):=by
    rw [← hx,← a4]
    exact win_same fun i hi1 hi2=>b4 i (by omega)
  have wx1:(L.W.drop sr).take nn=x:=by
    have : (L.W.drop sr).take nn=((L.W.drop sr).take (nn+6)).take nn:=by rw [List.take_take]; congr 1;omega
    rw [this,wx,← hxl,List.take_left]
  obtain ⟨p1,p2⟩:=passQ b1 hst hn (by omega) (by omega) (by omega) wx1 hxi b3 hd ht
  obtain ⟨w,d',e1,e2,_,_,w1,_,_,_,w2,_⟩:=passW b1 (p:=p) (l:=l) (inv:=inv) (s:=s) (src:=(sr:Int)) (dst:=(d:Int)) (tab:=(tb:Int)) (by rw [p1])
  obtain rfl:w=nn:=by omega
  obtain rfl:d'=d:=by omega
  have pL:=pass_L b1 (p:=p) (l:=l) (inv:=inv) (s:=s) (src:=(sr:Int)) (dst:=(d':Int)) (tab:=(tb:Int))
  generalize hyd:doG p inv s.tw w (grpsV l s) (tabV p l inv s) x=y at p1 p2 ⊢
  have hyi:∀ v∈y,inP p v:=by rw [← hyd]; exact doG_in hk
  have hyl:y.length=w:=by rw [← hyd]; exact doG_length ..
  generalize passV L p l inv s sr d' tb=P at hV p1 p2 w1 w2 pL
  rw [p1] at hV
  dsimp only at hV
  have bP:P.2.W.length=m.W.length:=w1.trans bL
  have s1:soundV P.2 p w sr (sumsV p x)=((true,0),⟨P.2.W,[],P.2.t+w,P.2.ah⟩):=by
    unfold soundV
    rw [if_neg (by rw [hk]; simp),if_neg (by rw [hN P.2 sr w bP (by omega)]; simp;omega),Int.toNat_natCast,row_nil pL (by omega)]
    have : (P.2.W.drop sr).take w=x:=by rw [← wx1]; exact win_same fun i hi1 hi2=>w2 i (by omega)
    rw [this,agrees_ok hk hxi (by omega)]
  have hs1:soundV P.2 p w sr ((sumsV p x).1,(sumsV p x).2)=((true,0),⟨P.2.W,[],P.2.t+w,P.2.ah⟩):=s1
  rw [hs1] at hV
  dsimp only at hV
  have u1:holdsV ⟨P.2.W,[],P.2.t+w,P.2.ah⟩ (tabV p l inv s) tb=((true,0),⟨P.2.W,[],P.2.t+w+(tabV p l inv s).length,P.2.ah⟩):=by
    unfold holdsV
    rw [if_pos (hN ⟨P.2.W,[],P.2.t+w,P.2.ah⟩ tb (tabV p l inv s).length bP (by omega)),row_nil rfl (by dsimp only;omega)]
    have : (P.2.W.drop tb).take (tabV p l inv s).length=tabV p l inv s:=(win_same fun i hi1 hi2=>w2 i (by omega)).trans b3
    dsimp only
    rw [this]
    simp
  rw [u1] at hV
  dsimp only at hV
  have d1:soundV ⟨P.2.W,[],P.2.t+w+(tabV p l inv s).length,P.2.ah⟩ p w d' (sumsV p y)=((true,0),⟨P.2.W,[],P.2.t+w+(tabV p l inv s).length+w,P.2.ah⟩):=by
    unfold soundV
    rw [if_neg (by rw [hk]; simp),if_neg (by rw [hN ⟨P.2.W,[],P.2.t+w+(tabV p l inv s).length,P.2.ah⟩ d' w bP (by omega)]; simp;omega),Int.toNat_natCast,row_nil rfl (by dsimp only;omega)]
    have : (P.2.W.drop d').take w=y:=by
      have : (P.2.W.drop d').take w=((P.2.W.drop d').take (w+6)).take w:=by rw [List.take_take]; congr 1;omega
      rw [this,p2,← hyl,List.take_left]
    dsimp only
    rw [this,agrees_ok hk hyi (by omega)]
  rw [d1] at hV
  rw [hV]
  exact ⟨rfl,rfl,bP,p2⟩
end Go.AM
set_option linter.unusedVariables false
set_option linter.unusedSimpArgs false
namespace Go.AM
open Go Go.Proofs.YtackinampfgklaaGreatDoor
set_option maxHeartbeats 1000000 in
theorem laidT_w {S:St} {pw pe:Option Addr} {nw cw ne ce:Nat} {ws:List Int} {l:List Ev} (h:Ar S pw nw 1 eU ws) (k:Ar S pe ne 6 Ev.cells l) (hn:1≤nw∧nw≤16384) (hne:ne≤1024) (hw:wsOk ws) (hl:∀ x∈l,Go.Proofs.YtackinampfgklaaGreatDoor.u64r x.ma) (ht:∀ x∈l,x.ti≤9223372036854775807) :
    WP (g_l19_laid [.slice pw nw cw,.slice pe ne ce]) S fun v S'=>∃ b T,v = .pointer (some ⟨b,0,none⟩)∧S <+: S'∧MS S' b ⟨ws,l,0,ws.length⟩ T∧∀ i∈T,S.length≤i:=by
  have hlw:=h.1
  rw [g_l19_laid_eq]
  simp only [wps]
  refine (new_w (p:=none) (n:=0) (c:=0) (l:=[]) (w:=(nw:Int)) .nil (by omega) (by simp) (by simp) (by omega)).mono ?_
  rintro _ S1 ⟨b,rfl,k1,h1⟩
  have hT1:∀ i∈newT S S1,S.length≤i:=fun i hi=>(newT_mem.1 hi).2
  generalize newT S S1=T at h1 hT1
  simp only [wps,Option.isNone_some]
  refine wp_loop (fun st S' q=>∃ j:Nat,st=[vN j]∧q=nw-j∧j≤nw∧Kp T S1 S'∧MS S' b ⟨ws.take j++List.replicate (nw-j) 0,[],j,0⟩ T) ?_ nw _ _ ⟨0,rfl,rfl,by omega,.refl,by simpa using h1⟩
  rintro st S2 q ⟨j,rfl,rfl,hj,k2,h2⟩
  have hS2:S <+: S2:=k2.low hT1 k1 (Nat.le_refl _)
  have hlen:(ws.take j++List.replicate (nw-j) (0:Int)).length=nw:=by simp;omega
  simp only [wps]
  refine ⟨fun h3=>⟨h3,?_⟩,fun h3=>?_⟩
  · have hj':j < ws.length:=by omega
    obtain ⟨x,rfl,c1⟩:=(h.mono hS2).getU hj'
    simp only [wps,c1]
    have hwj:=hw _ (List.getElem_mem hj')
    refine (store_w h2 (a:=(j:Int)) (by dsimp only;rw [hlen]; omega) (by dsimp only;omega) hwj).mono ?_
    rintro _ S3 ⟨rfl,k3,h4⟩
    rw [wr_nil rfl] at h4
    simp only [wps]
    rw [wI_ (n:=(j:Int)+1) (by omega) (by omega)]
    refine ⟨nw-(j+1),by omega,j+1,rfl,rfl,by omega,k2.trans k3,?_⟩
    have e:(ws.take j++List.replicate (nw-j) (0:Int)).set ((j:Int)).toNat ws[j]=ws.take (j+1)++List.replicate (nw-(j+1)) 0:=by
      have hl1:(ws.take j).length=j:=by simp;omega
      rw [Int.toNat_natCast,List.set_append_right _ _ (by omega),hl1,Nat.sub_self,show nw-j=(nw-(j+1))+1 by omega,List.replicate_succ,List.set_cons_zero,take_snoc hj',List.append_assoc]; rfl
    dsimp only at h4
    rw [e] at h4
    exact h4
  · obtain rfl:j=nw:=by omega
    have e:ws.take j++List.replicate (j-j) (0:Int)=ws:=by rw [List.take_of_length_le (by omega),Nat.sub_self]; simp
    rw [e] at h2
    refine (nextm_w (c:=ce) h2 (k.mono hS2) hne hl (by dsimp only;omega) (by dsimp only;omega) ht).mono ?_
    rintro _ S3 ⟨rfl,hmo,h3'⟩
    have e2:(Mm.nxt ⟨ws,[],(j:Int),0⟩ l)=⟨ws,l,0,ws.length⟩:=by
      unfold Mm.nxt;rw [← hlw]; simp [Go.Proofs.YtackinampfgklaaGreatDoor.strike]
    rw [e2] at h3'
    simp only [wps]
    exact ⟨b,_,rfl,hmo.low hS2 hT1,h3',hmo.own_low hS2 hT1⟩
abbrev liveT:Mm:=⟨[3,5,8,8,8,13,13,13,0,0,0,0,0,0,0,0,0,0],[],0,18⟩
theorem liveT_ok:wsOk liveT.W:=by
  intro x hx
  simp only [liveT,List.mem_cons,List.not_mem_nil,or_false] at hx
  rcases hx with rfl | rfl | rfl | rfl | rfl | rfl | rfl | rfl | rfl | rfl | rfl | rfl | rfl | rfl | rfl | rfl | rfl | rfl <;> exact ⟨by decide,by decide⟩
theorem liveT_sums:sumsV P1 [3,5]=(8,13):=by decide +kernel
theorem liveT_nV:nV [⟨2,false⟩]=((2:Nat):Int):=by decide +kernel
theorem liveT_do:doG P1 false false 2 (grpsV [⟨2,false⟩] ⟨0,false,⟨2,1,1⟩⟩) (tabV P1 [⟨2,false⟩] false ⟨0,false,⟨2,1,1⟩⟩) [3,5]=[8,998244351]:=by
  rw [live_tab,live_grp]
  unfold doG
  simp only [List.flatMap_cons,List.flatMap_nil,List.append_nil]
  unfold gpairs
  simp only [List.map_cons,List.map_nil,List.getD_cons_zero,List.getD_cons_succ]
  rw [live_fly]
  decide +kernel
theorem liveT_s2:sumsV P1 [8,998244351]=(6,4):=by decide +kernel
theorem liveT_turn:(turnV liveT P1 [⟨2,false⟩] false ⟨0,false,⟨2,1,1⟩⟩ 0 8 16).1=((true,[]),0)∧(turnV liveT P1 [⟨2,false⟩] false ⟨0,false,⟨2,1,1⟩⟩ 0 8 16).2.t=28∧(turnV liveT P1 [⟨2,false⟩] false ⟨0,false,⟨2,1,1⟩⟩ 0 8 16).2.W.length=18 ∧
    ((turnV liveT P1 [⟨2,false⟩] false ⟨0,false,⟨2,1,1⟩⟩ 0 8 16).2.W.drop 8).take 8=[8,998244351,6,6,6,4,4,4]:=by
  have hk:known P1=true:=rfl
  have hx:∀ y∈([3,5]:List Int),inP P1 y:=by
    intro y hy
    simp only [List.mem_cons,List.not_mem_nil,or_false] at hy
    rcases hy with rfl | rfl <;> exact ⟨by decide,by decide⟩
  have hf:fixV P1 ((liveT.W.drop 0).take (2+6))=(([3,5]++sx (sumsV P1 [3,5]),[]),0):=by
    have:=fix_ok hk hx (by decide)
    rw [← this,liveT_sums]; rfl
  have hq:=turn_quiet (m:=liveT) rfl (p:=P1) (l:=[⟨2,false⟩]) (inv:=false) (s:=⟨0,false,⟨2,1,1⟩⟩) (sr:=0) (d:=8) (tb:=16) (n:=2) (good:=[3,5]++sx (sumsV P1 [3,5])) (fx:=[]) (x:=[3,5]) live_step liveT_nV (fun y hy=>(liveT_ok y hy).1) (by decide) (by decide) (by rw [live_tab]; decide) (by decide) (by decide) (by decide) hf rfl hx rfl
  have ht:=turn_ticks (m:=liveT) (inv:=false) (src:=0) (dst:=8) (tab:=16) live_step (by rw [liveT_nV]; decide) (by rw [liveT_nV]; decide) (by rw [live_tab]; decide)
  rw [liveT_do,liveT_s2] at hq
  obtain ⟨q1,q2,q3,q4⟩:=hq
  have q1:(turnV liveT P1 [⟨2,false⟩] false ⟨0,false,⟨2,1,1⟩⟩ 0 8 16).1=((true,[]),0):=q1
  refine ⟨q1,?_,q3,q4⟩
  obtain ⟨t1,t2,t3,t4⟩:=ht
  rw [q1,liveT_nV,live_tab] at t4
  rcases t4 with t4 | t4
  · simp at t4
  · rw [t4]; rfl
set_option maxHeartbeats 1000000 in
theorem live19_w {S:St}:Sp (g_l19_live []) S fun v _=>v=vB true:=by
  unfold Sp
  rw [g_l19_live_eq]
  simp only [wps]
  have hp:=List.prefix_append S [AObj.cells [vU 3,vU 5,vU 8,vU 8,vU 8,vU 13,vU 13,vU 13,vU 0,vU 0,vU 0,vU 0,vU 0,vU 0,vU 0,vU 0,vU 0,vU 0] 24 none]
  have z:=get_new (S:=S) (o:=AObj.cells [vU 3,vU 5,vU 8,vU 8,vU 8,vU 13,vU 13,vU 13,vU 0,vU 0,vU 0,vU 0,vU 0,vU 0,vU 0,vU 0,vU 0,vU 0] 24 none)
  generalize hY:S++[AObj.cells [vU 3,vU 5,vU 8,vU 8,vU 8,vU 13,vU 13,vU 13,vU 0,vU 0,vU 0,vU 0,vU 0,vU 0,vU 0,vU 0,vU 0,vU 0] 24 none]=Y at hp z ⊢
  have har:Ar Y (some (ad S.length 0)) 18 1 eU liveT.W:=Ar.blk (l:=liveT.W) z (fun _ _=>rfl) rfl
  refine (laidT_w (cw:=18) (pe:=none) (ne:=0) (ce:=0) (l:=[]) har .nil (by omega) (by omega) liveT_ok (by simp) (by simp)).mono ?_
  rintro _ S1 ⟨b,T,rfl,k1,h1,hT⟩
  simp only [wps,Option.isNone_some]
  have hp2:=List.prefix_append S1 [AObj.cells [vI 2,vB false] 75 none]
  have z2:=get_new (S:=S1) (o:=AObj.cells [vI 2,vB false] 75 none)
  generalize hY2:S1++[AObj.cells [vI 2,vB false] 75 none]=Y2 at hp2 z2 ⊢
  have har2:Ar Y2 (some (ad S1.length 0)) 1 2 eAx [⟨2,false⟩]:=Ar.blk (l:=[(⟨2,false⟩:Ax)]) z2 (fun _ _=>rfl) rfl
  have hTl:=h1.lt
  have hr:=turn_w (p:=P1) (ac:=1) (inv:=false) (s:=⟨0,false,⟨2,1,1⟩⟩) (src:=0) (dst:=8) (tab:=16) (h1.pre hp2) har2 (by omega) (by intro y hy _;injection hy with hy;subst hy;intro hm;have:=hTl _ hm;simp at this) ⟨by decide,by decide⟩
  rw [show (⟨liveT.W,[],0,(liveT.W.length:Int)⟩:Mm)=liveT from rfl] at hr
  obtain ⟨q1,q2,q3,q4⟩:=liveT_turn
  generalize turnV liveT P1 [⟨2,false⟩] false ⟨0,false,⟨2,1,1⟩⟩ 0 8 16=V at hr q1 q2 q3 q4
  have v1:V.1.1.1=true:=by rw [q1]
  have v2:V.1.1.2=[]:=by rw [q1]
  have v3:V.1.2=0:=by rw [q1]
  rw [v1,v2,v3] at hr
  refine hr.mono ?_
  rintro _ S2 ⟨fa,rfl,k2,h2,_⟩
  simp only [wps]
  have hp3:=List.prefix_append S2 [AObj.cells [vB true,.slice fa 0 0] 69 none]
  have z3:=get_new (S:=S2) (o:=AObj.cells [vB true,.slice fa 0 0] 69 none)
  simp only [List.length_nil]
  generalize hY3:S2++[AObj.cells [vB true,.slice fa 0 0] 69 none]=Y3 at hp3 z3 ⊢
  have h3:=h2.pre hp3
  refine (words_w h3).mono ?_
  rintro _ S4 ⟨a,rfl,ho⟩
  have h4:=h3.pre ho.1
  have z4:=pre_get ho.1 z3
  have har4:=ho.ar
  have g8:V.2.W[8]? = some 8:=by
    have:=congrArg (fun l:List Int=>l[0]?) q4
    simpa [List.getElem?_take,List.getElem?_drop] using this
  have g10:V.2.W[10]? = some 6:=by
    have:=congrArg (fun l:List Int=>l[2]?) q4
    simpa [List.getElem?_take,List.getElem?_drop] using this
  obtain ⟨x,rfl,_⟩:=har4.getU (i:=8) (by omega)
  have c8:=cellU har4 8 g8
  have c10:=cellU har4 10 g10
  have hfin:S <+: S4:=hp.trans ((k2.low hT (k1.trans hp2) (Nat.le_refl _)).trans (hp3.trans ho.1))
  simp only [wps,cell_blk z4,List.getElem?_cons_zero,List.getElem?_cons_succ,(ticks_w h4).wp,c8,c10,q2,q3]
  exact ⟨fun _=>⟨fun _=>⟨⟨by decide,by decide⟩,⟨by decide,by decide⟩,hfin,rfl⟩,fun e=>absurd rfl e⟩,fun e=>absurd rfl e⟩
end Go.AM
set_option linter.unusedVariables false
set_option linter.unusedSimpArgs false
namespace Go.AM
open Go Go.Proofs.YtackinampfgklaaGreatDoor
end Go.AM
set_option linter.unusedVariables false
set_option linter.unusedSimpArgs false
namespace Go.AM
open Go Go.Proofs.YtackinampfgklaaGreatDoor
set_option maxHeartbeats 1000000 in
theorem standing_w {S:St} {p:Int} {xa ta ea:Option Addr} {xn xc tn tc en ec:Nat} {x t:List Int} {l:List Ev} (hk:known p=true) (hx:Ar S xa xn 1 eU x) (ht:Ar S ta tn 1 eU t) (he:Ar S ea en 6 Ev.cells l) (h1:1≤xn∧xn≤100) (htn:tn≤4096) (hi:∀ y∈x,inP p y) (htu:wsOk t) (hen:en≤1024) (hl:∀ x∈l,Go.Proofs.YtackinampfgklaaGreatDoor.u64r x.ma) (hti:∀ x∈l,x.ti≤9223372036854775807) :
    WP (g_l19_standing [vU p,.slice xa xn xc,.slice ta tn tc,.slice ea en ec]) S fun v S'=>∃ b T,v=vT [.pointer (some ⟨b,0,none⟩),vI ((xn:Int)+6),vI (2*(xn:Int)+12)]∧S <+: S'∧MS S' b ⟨(x++sixL (sumsV p x))++List.replicate (xn+6+tn) 0,l,0,((xn+6+(xn+6+tn):Nat):Int)⟩ T∧∀ i∈T,S.length≤i:=by
  rw [g_l19_standing_eq]
  have hxl:=hx.1
  have htl:=ht.1
  simp only [wps]
  refine (codePut_w (c:=xc) hk hx h1.1 (by omega) hi).mono ?_
  rintro _ S1 ⟨wb,rfl,hN⟩
  have p1:=hN.p
  have hlen6:(x++sixL (sumsV p x)).length=xn+6:=by rw [List.length_append,hxl]; rfl
  have hc1:=hN.ar
  rw [hlen6] at hc1
  have e12:wI (((xn+6:Nat):Int)+(tn:Int))=((xn+6+tn:Nat):Int):=by rw [wI_ (by omega) (by omega)]; omega
  simp only [wps,e12,Int.toNat_natCast,zeroC_one]
  have hr:=wp_rdA hc1 (fun _=>rfl) (Q:=fun xs S'=>xs=(x++sixL (sumsV p x)).flatMap eU∧S1=S') ⟨rfl,rfl⟩
  rw [Nat.mul_one] at hr
  refine hr.mono ?_
  rintro _ _ ⟨rfl,rfl⟩
  refine wp_apps (bt:=8) (S0:=S1) .nil (by rw [flat_len (w:=1) (fun _=>rfl),hlen6]) (by decide) (by omega) (by omega) (eU_leaf _) ?_
  intro qa S2 hE2
  rw [Nat.zero_add] at hE2 ⊢
  rw [List.nil_append] at hE2
  rw [← rep_flat]
  refine ⟨⟨by omega,by omega,rfl⟩,?_⟩
  refine wp_apps (bt:=8) hE2 (by rw [flat_len (w:=1) (fun _=>rfl),List.length_replicate]) (by decide) (by omega) (by omega) (eU_leaf _) ?_
  intro qb S3 hE3
  have hE3:Ap S1 none S3 qb (xn+6+(xn+6+tn)) 24 1 (((x++sixL (sumsV p x))++List.replicate (xn+6+tn) 0).flatMap eU):=by
    rw [List.flatMap_append]; exact hE3
  have har:=hE3.ar (fun _=>rfl) (by decide)
  have hwl:=har.1
  have hwok:wsOk ((x++sixL (sumsV p x))++List.replicate (xn+6+tn) 0):=by
    intro v hv
    rcases List.mem_append.1 hv with hv | hv
    · rcases List.mem_append.1 hv with hv | hv
      · exact u64_of hk (hi v hv)
      · have : v=(sumsV p x).1∨v=(sumsV p x).2:=by
          simp only [sixL,List.mem_cons,List.not_mem_nil,or_false] at hv;omega
        rcases this with h | h <;> rw [h]
        · exact u64_of hk (sums_in hk x).1
        · exact u64_of hk (sums_in hk x).2
    · rw [(List.mem_replicate.1 hv).2]; exact ⟨by omega,by omega⟩
  have p3:=p1.trans hE3.pre
  refine (laidT_w (cw:=xn+6+(xn+6+tn)) (ce:=ec) har (he.mono p3) (by omega) hen hwok hl hti).mono ?_
  rintro _ S4 ⟨b,T,rfl,k4,m4,hT⟩
  have p4:=p3.trans k4
  have lp:=p3.length_le
  have e1:wI (2*(((xn+6:Nat):Int)))=2*(xn:Int)+12:=by rw [wI_ (by omega) (by omega)]; omega
  simp only [wps,e1]
  refine ⟨b,T,by rw [show (((xn+6:Nat):Nat):Int)=(xn:Int)+6 by omega],p4,by rw [hwl]; exact m4,fun i hi=>by have:=hT i hi;omega⟩
end Go.AM
set_option linter.unusedVariables false
set_option linter.unusedSimpArgs false
namespace Go.AM
open Go Go.Proofs.YtackinampfgklaaGreatDoor
theorem fx_up0 (l:List Fx):l.map (Fx.up ((0:Nat):Int))=l:=by
  conv=>rhs;rw [← List.map_id l]
  exact List.map_congr_left fun f _=>by unfold Fx.up;simp
end Go.AM
set_option linter.unusedVariables false
set_option linter.unusedSimpArgs false
namespace Go.AM
open Go Go.Proofs.YtackinampfgklaaGreatDoor
end Go.AM
set_option linter.unusedVariables false
set_option linter.unusedSimpArgs false
namespace Go.AM
open Go Go.Proofs.YtackinampfgklaaGreatDoor
theorem agrees_not {p:Int} (hk:known p=true) {x:List Int} (hx:∀ y∈x,inP p y) (hl:x.length≤4096) {i:Nat} (hi:i < x.length) {v:Int} (hv:0≤v) (hne:v≠x.getD i 0):agreesV p (sumsV p x) (x.set i v)=false:=by
  cases h:agreesV p (sumsV p x) (x.set i v)
  · rfl
  · exfalso
    unfold agreesV at h
    simp only [Bool.and_eq_true,decide_eq_true_eq] at h
    obtain ⟨⟨_,h3⟩,h4⟩:=h
    have hb:=badL_nil (p:=p) (x:=x.set i v) fun j hj=>by
      rw [List.getD_eq_getElem?_getD,List.getElem?_eq_getElem hj]; exact h4 _ (List.getElem_mem _)
    have hw:=wrong_one hk hx hl hi hv hne
    unfold wrongV at hw
    rw [hb,h3] at hw
    simp at hw
end Go.AM
set_option linter.unusedVariables false
set_option linter.unusedSimpArgs false
namespace Go.AM
open Go Go.Proofs.YtackinampfgklaaGreatDoor
end Go.AM
set_option linter.unusedVariables false
set_option linter.unusedSimpArgs false
namespace Go.AM
open Go Go.Proofs.YtackinampfgklaaGreatDoor
def Near (e:Ev) (d:Nat) (c W:List Int):Prop:=(W.drop d).take c.length=c∨∃ (i:Nat) (v:Int),i < c.length∧((d+i:Nat):Int)=e.ad∧bits .xor .u64 v (c.getD i 0)=e.ma∧0≤v∧v≠c.getD i 0∧(W.drop d).take c.length=c.set i v
theorem near_hit {e:Ev} {I c:List Int} {d:Nat} (hI:wsOk I) (he:Go.Proofs.YtackinampfgklaaGreatDoor.u64r e.ma) (hc:(I.drop d).take c.length=c):Near e d c (hit I e):=by
  rcases hit_set hI he with h2 | ⟨h2,h3,h4⟩
  · left;rw [h2]; exact hc
  · by_cases hin:d≤e.ad.toNat∧e.ad.toNat < d+c.length
    · have hg:Go.Proofs.YtackinampfgklaaGreatDoor.u64r (I.getD e.ad.toNat 0):=getD_ok hI _
      have hci:c.getD (e.ad.toNat-d) 0=I.getD e.ad.toNat 0:=by
        have:=congrArg (fun l:List Int=>l.getD (e.ad.toNat-d) 0) hc
        rw [← this,List.getD_eq_getElem?_getD,List.getD_eq_getElem?_getD,List.getElem?_take,if_pos (by omega),List.getElem?_drop,show d+(e.ad.toNat-d)=e.ad.toNat by omega]
      have hw:((hit I e).drop d).take c.length=c.set (e.ad.toNat-d) (bits .xor .u64 (I.getD e.ad.toNat 0) e.ma):=by
        rw [h4,win_set,if_pos hin,hc]
      by_cases hv:bits .xor .u64 (I.getD e.ad.toNat 0) e.ma=c.getD (e.ad.toNat-d) 0
      · left
        rw [hw,hv]
        apply List.ext_getElem?
        intro j
        rw [List.getElem?_set]
        by_cases hj:e.ad.toNat-d=j
        · rw [if_pos hj,if_pos (by omega),← hj,List.getD_eq_getElem?_getD,List.getElem?_eq_getElem (by omega)]; rfl
        · rw [if_neg hj]
      · right
        exact ⟨e.ad.toNat-d,_,by omega,by omega,by rw [hci]; exact xor_back hg he,(xor_r hg he).1,hv,hw⟩
    · left;rw [h4,win_set,if_neg hin]; exact hc
theorem near_nxt {e:Ev} {I c:List Int} {d:Nat} {m:Mm} (hI:wsOk I) (he:Go.Proofs.YtackinampfgklaaGreatDoor.u64r e.ma) (h:One e I m) (hc:(I.drop d).take c.length=c):Near e d c (m.nxt []).W:=by
  obtain ⟨_,h2⟩:=h.nxt
  rcases h2 with h2 | h2 <;> rw [h2]
  · exact near_hit hI he hc
  · exact .inl hc
theorem near_fix {e:Ev} {p:Int} {x W:List Int} {d:Nat} (hk:known p=true) (hx:∀ y∈x,inP p y) (h1:1≤x.length∧x.length≤4096) (h:Near e d (x++sx (sumsV p x)) W):∃ fx,fixV p ((W.drop d).take (x.length+6))=((x++sx (sumsV p x),fx),0)∧fx.length≤1∧∀ f∈fx,f.ad+d=e.ad∧bits .xor .u64 f.bad f.good=e.ma:=by
  have hl:(x++sx (sumsV p x)).length=x.length+6:=by simp
  unfold Near at h
  rw [hl] at h
  rcases h with h | ⟨i,v,hi,h2,h3,h4,h5,h6⟩
  · rw [h]; exact ⟨[],fix_ok hk hx h1,by simp,by simp⟩
  · rw [h6]
    refine ⟨_,fix_one hk hx h1 hi h4 h5,by simp,fun f hf=>?_⟩
    rw [List.mem_singleton] at hf
    subst hf
    exact ⟨by dsimp only;omega,h3⟩
set_option maxHeartbeats 2000000 in
theorem turn_one {e:Ev} {I:List Int} {m:Mm} (hI:wsOk I) (he:Go.Proofs.YtackinampfgklaaGreatDoor.u64r e.ma) (h:One e I m) {p:Int} {l:List Ax} {inv:Bool} {s:Stp} {sr d tb n:Nat} {x:List Int} (hst:stepV p l s=0) (hn:nV l=(n:Int))
    (h1:sr+n+6≤I.length) (h2:d+n+6≤I.length) (h3:tb+(tabV p l inv s).length≤I.length)
    (hd:d+n+6≤sr∨sr+n+6≤d) (ht:d+n+6≤tb∨tb+(tabV p l inv s).length≤d) (hs:sr+n+6≤tb∨tb+(tabV p l inv s).length≤sr)
    (hxi:∀ y∈x,inP p y) (hxl:x.length=n) (hc:(I.drop sr).take (n+6)=x++sx (sumsV p x)) :
    (turnV m p l inv s sr d tb).1.2=0∧ofEv e (turnV m p l inv s sr d tb).1.1.2∧(turnV m p l inv s sr d tb).2.W.length=I.length∧Near e sr (x++sx (sumsV p x)) ((turnV m p l inv s sr d tb).2.nxt []).W ∧
    ((turnV m p l inv s sr d tb).1.1.1=true→Near e d (doG p inv s.tw n (grpsV l s) (tabV p l inv s) x++sx (sumsV p (doG p inv s.tw n (grpsV l s) (tabV p l inv s) x))) ((turnV m p l inv s sr d tb).2.nxt []).W):=by
  have hk:=step_known hst
  obtain ⟨kk,dd,inner,nn,mm,hS⟩:=step_shape hst
  have hnn:=hS.nn
  have hn1:=hS.n1
  obtain rfl:nn=n:=by omega
  have hml:=h.len
  have hN:∀ (m':Mm) (a k:Nat),m'.W.length=I.length→a+k≤I.length→m'.hasN (a:Int) (k:Int)=true:=fun m' a k e h=>by unfold Mm.hasN;apply decide_eq_true;omega
  have c1:m.hasN sr (nV l+6)=true:=by rw [hn]; exact hN m sr (nn+6) hml (by omega)
  have c2:m.hasN d (nV l+6)=true:=by rw [hn]; exact hN m d (nn+6) hml (by omega)
  have c3:m.hasN tb (tabV p l inv s).length=true:=hN m tb _ hml (by omega)
  have htk:=turn_ticks (inv:=inv) hst c1 c2 c3
  have hV:=turnV_eq (inv:=inv) hst c1 c2 c3
  generalize turnV m p l inv s sr d tb=V at hV htk ⊢
  obtain ⟨t0,_,tW,_⟩:=htk
  rw [hn] at hV
  have hc':(I.drop sr).take (x.length+6)=x++sx (sumsV p x):=by rw [hxl]; exact hc
  obtain ⟨fx,s1,s2,s3,_,_,_⟩:=scrub_one hk hI he h hxi (by omega) (by omega) hc'
  rw [hxl] at s1 s3
  generalize scrubV m p nn sr=A at hV s1 s3
  rw [s1] at hV
  dsimp only at hV
  rw [if_neg (by simp)] at hV
  -- the table laid
  have htu:∀ w∈(rowO (tb:Int) (tabV p l inv s).length).zip (tabV p l inv s),Go.Proofs.YtackinampfgklaaGreatDoor.u64r w.2:=fun w hw=>u64_of hk (tab_in hk _ (List.of_mem_zip hw).2)
  have hAl:=s3.len
  have hL:One e (wset I ((rowO (tb:Int) (tabV p l inv s).length).zip (tabV p l inv s))) (layV A.2 (tabV p l inv s) tb).2:=by
    unfold layV
    rw [if_pos (hN A.2 tb _ hAl (by omega))]
    exact wrs_one he _ hI s3 htu
  have hI2:=wset_ok hI htu
  have wl:=wset_len ((rowO (tb:Int) (tabV p l inv s).length).zip (tabV p l inv s)) I
  have wt:=win_row (d:=tb) (l:=tabV p l inv s) (W:=I) (by omega)
  have wo:∀ i,(i < tb∨tb+(tabV p l inv s).length≤i)→(wset I ((rowO (tb:Int) (tabV p l inv s).length).zip (tabV p l inv s)))[i]? = I[i]?:=fun i hi=>by
    refine wset_out (n:=(tabV p l inv s).length) (fun e he=>?_) hi
    obtain ⟨j,hj,hx⟩:=List.mem_map.1 (List.of_mem_zip he).1
    have:=List.mem_range.1 hj
    rw [← hx]; omega
  generalize wset I ((rowO (tb:Int) (tabV p l inv s).length).zip (tabV p l inv s))=I2 at hL hI2 wl wt wo
  generalize (layV A.2 (tabV p l inv s) tb).2=L at hV hL
  have wc:(I2.drop sr).take (nn+6)=x++sx (sumsV p x):=by rw [← hc]; exact win_same fun i hi1 hi2=>wo i (by omega)
  have wx:(I2.drop sr).take nn=x:=by
    have : (I2.drop sr).take nn=((I2.drop sr).take (nn+6)).take nn:=by rw [List.take_take]; congr 1;omega
    rw [this,wc,← hxl,List.take_left]
  have hcl:(x++sx (sumsV p x)).length=nn+6:=by simp;omega
  obtain ⟨v0,vcase⟩:=pass_one hI2 he hL hst hn (by omega) (by omega) (by omega) wx hxi wt hd ht
  have hPl:(passV L p l inv s sr d tb).2.W.length=I.length:=by
    rcases passV_facts (m:=L) (p:=p) (l:=l) (inv:=inv) (s:=s) (src:=sr) (dst:=d) (tab:=tb) with ⟨hf,_⟩ | hf
    · exact absurd v0 hf
    · rw [hf.2.2.1,hL.len,wl]
  generalize passV L p l inv s sr d tb=P at hV v0 vcase hPl
  have ss:∀ (m':Mm) (a:Nat) (q:Int×Int),m'.W.length=I.length→a+nn≤I.length→soundV m' p nn a q=((agreesV p q (m'.rds (rowO a nn)).1,0),(m'.rds (rowO a nn)).2):=fun m' a q e h=>by
    unfold soundV
    rw [if_neg (by rw [hk]; simp),if_neg (by rw [hN m' a nn e h]; simp;omega),Int.toNat_natCast]
  have hh:∀ (m':Mm),m'.W.length=I.length→holdsV m' (tabV p l inv s) tb=((decide ((m'.rds (rowO tb (tabV p l inv s).length)).1=tabV p l inv s),0),(m'.rds (rowO tb (tabV p l inv s).length)).2):=fun m' e=>by
    unfold holdsV
    rw [if_pos (hN m' tb _ e (by omega))]
  have rlen:∀ (m':Mm) (A:List Int),(m'.rds A).2.W.length=m'.W.length:=fun m' A=>(Mm.rds_len A m').1
  rw [ss P.2 sr _ hPl (by omega),hh _ (by rw [rlen]; exact hPl),ss _ d _ (by rw [rlen,rlen]; exact hPl) (by omega)] at hV
  dsimp only at hV
  refine ⟨t0,by rw [hV]; exact s2,by rw [tW,hml],?_⟩
  have key:∀ (q:Prop),(q→q):=fun _ h=>h
  rcases vcase with ⟨I',w1,w2,w3,w4,w5,w6⟩ | ⟨w1,⟨a,ha,hb⟩,w2⟩
  · have f1:=(rds_some (rowO sr nn) P.2 w3).1
    have f2:=(rds_some (rowO tb (tabV p l inv s).length) _ f1).1
    have f3:=(rds_some (rowO d nn) _ f2).1
    rw [hV]
    dsimp only
    refine ⟨near_nxt w1 he f3 ?_,fun _=>near_nxt w1 he f3 ?_⟩
    · rw [hcl,← wc]; exact win_same fun i hi1 hi2=>w6 i (by omega)
    · have : (doG p inv s.tw nn (grpsV l s) (tabV p l inv s) x++sx (sumsV p (doG p inv s.tw nn (grpsV l s) (tabV p l inv s) x))).length=nn+6:=by rw [List.length_append,doG_length]; rfl
      rw [this]; exact w5
  · -- struck while it was read
    have hplace:e.ad=(a:Int):=Classical.byContradiction fun hc=>hb (hit_other hI2 he hc)
    have r1:=rds_nil (rowO sr nn) P.2 w1
    have hfin:V.2.L=[]∧V.2.W=P.2.W:=by
      rw [hV]
      dsimp only
      rw [rds_nil (rowO d nn) _ (by rw [rds_nil _ _ (by rw [r1])]),rds_nil (rowO tb (tabV p l inv s).length) _ (by rw [r1]),r1]
      exact ⟨rfl,rfl⟩
    have hnx:(V.2.nxt []).W=P.2.W:=by
      show strike V.2.L V.2.W=_
      rw [hfin.1,hfin.2]; rfl
    have hsrc:((P.2.W).drop sr).take (nn+6)=((hit I2 e).drop sr).take (nn+6):=win_same fun i hi1 hi2=>w2 i (by omega)
    have hnear:=near_hit hI2 he (d:=sr) (c:=x++sx (sumsV p x)) (by rw [hcl]; exact wc)
    refine ⟨?_,fun hok=>?_⟩
    · rw [hnx]
      unfold Near at hnear ⊢
      rw [hcl] at hnear ⊢
      rw [hsrc]; exact hnear
    · exfalso
      rw [hV] at hok
      dsimp only at hok
      simp only [Bool.and_eq_true,decide_eq_true_eq] at hok
      obtain ⟨⟨ok1,ok2⟩,_⟩:=hok
      rw [row_nil w1 (by omega)] at ok1 ok2
      dsimp only at ok1 ok2
      rw [row_nil rfl (by dsimp only;omega)] at ok2
      dsimp only at ok2
      rcases ha with ha | ha
      · have hsn:((P.2.W).drop sr).take nn=((hit I2 e).drop sr).take nn:=win_same fun i hi1 hi2=>w2 i (by omega)
        rcases hit_set hI2 he with g2 | ⟨g2,g3,g4⟩
        · rw [g2] at hb;exact hb rfl
        rw [hsn,g4,win_set,if_pos (by omega),wx] at ok1
        have hxa:x.getD (e.ad.toNat-sr) 0=I2.getD a 0:=by
          rw [← wx,List.getD_eq_getElem?_getD,List.getD_eq_getElem?_getD,List.getElem?_take,if_pos (by omega),List.getElem?_drop,show sr+(e.ad.toNat-sr)=a by omega]
        have hva:bits .xor .u64 (I2.getD e.ad.toNat 0) e.ma≠x.getD (e.ad.toNat-sr) 0:=by
          rw [hxa]
          rw [g4,show e.ad.toNat=a by omega,set_getD (by omega),if_pos rfl] at hb
          rw [show e.ad.toNat=a by omega]; exact hb
        rw [agrees_not hk hxi (by omega) (by omega) (xor_r (getD_ok hI2 _) he).1 hva] at ok1
        cases ok1
      · have hst2:((P.2.W).drop tb).take (tabV p l inv s).length=((hit I2 e).drop tb).take (tabV p l inv s).length:=win_same fun i hi1 hi2=>w2 i (by omega)
        rw [hst2] at ok2
        have:=congrArg (fun L:List Int=>L.getD (a-tb) 0) (ok2.trans wt.symm)
        rw [List.getD_eq_getElem?_getD,List.getD_eq_getElem?_getD,List.getElem?_take,if_pos (by omega),List.getElem?_take,if_pos (by omega),List.getElem?_drop,List.getElem?_drop,show tb+(a-tb)=a by omega,← List.getD_eq_getElem?_getD,← List.getD_eq_getElem?_getD] at this
        exact hb this
end Go.AM
set_option linter.unusedVariables false
set_option linter.unusedSimpArgs false
namespace Go.AM
open Go Go.Proofs.YtackinampfgklaaGreatDoor
theorem window2_w {S:St} {b:Nat} {m:Mm} {T:List Nat} (h:MS S b m T) {d n:Nat} (hl:d+n≤m.W.length):WP (g_l19_window [.pointer (some ⟨b,0,none⟩),vN d,vN n]) S fun v S'=>∃ a c,v=vT [.slice a n c,vB true]∧S <+: S'∧n≤c∧Ar S' a n 1 eU ((m.W.drop d).take n):=by
  rw [g_l19_window_eq]
  have hw:=h.w
  simp only [wps]
  refine (words_w h).mono ?_
  rintro _ S1 ⟨a,rfl,ho⟩
  have x1:wI ((m.W.length:Int)-(n:Int))=(m.W.length:Int)-n:=wI_ (by omega) (by omega)
  have x2:wI ((d:Int)+(n:Int))=((d+n:Nat):Int):=by rw [wI_ (by omega) (by omega)]; omega
  simp only [wps,x1,x2]
  have main:WP (cutM true true 1 a m.W.length (d:Int) ((d+n:Nat):Int) (m.W.length:Int)) S1 fun s S'=>∃ a c,vT [.slice s.a s.n s.c,vB true]=vT [.slice a n c,vB true]∧S <+: S'∧n≤c∧Ar S' a n 1 eU ((m.W.drop d).take n):=by
    refine cut_ar ho.ar (fun _=>rfl) (by decide) (by omega) (by omega) (by omega) (by omega) ?_
    intro u k hk hu
    rw [show (((d+n:Nat):Int)).toNat-((d:Nat):Int).toNat=n by omega,Int.toNat_natCast] at hu
    rw [show (((d+n:Nat):Int)).toNat-((d:Nat):Int).toNat=n by omega] at hk ⊢
    exact ⟨u,k,rfl,ho.1,hk,hu⟩
  exact ⟨fun e=>absurd e (by omega),fun _=>⟨fun e=>absurd e (by omega),fun _=>⟨fun e=>absurd e (by omega),fun _=>main⟩⟩⟩
set_option maxHeartbeats 1000000 in
theorem once_tail {S:St} {b tb_:Nat} {M:Mm} {T:List Nat} (h:MS S b M T) {p:Int} {e:Ev} {x:List Int} {d rc:Nat} {ra fa:Option Addr} {fl:Nat} {ok:Bool} (hk:known p=true) (hx:∀ y∈x,inP p y) (h1:1≤x.length∧x.length≤100) (hn:Near e d (x++sx (sumsV p x)) M.W) (hl:d+(x.length+6)≤M.W.length)
    (hr:Ar S ra (x.length+6) 1 eU (x++sx (sumsV p x))) (z:S[tb_]? = some (AObj.cells [vB ok,.slice fa fl fl] 69 none)) :
    WP (k_l19_TurnOnce_1 p (some ⟨b,0,none⟩) ((x.length+6:Nat):Int) tb_ (0,[vN d,.slice ra (x.length+6) rc])) S fun q S'=>S <+: S'∧q=if ok=true then (1,[vB true]) else (0,[]):=by
  unfold k_l19_TurnOnce_1
  simp only [wps]
  refine (window2_w h hl).mono ?_
  rintro _ S1 ⟨wa,wc,rfl,k1,hwc,hwa⟩
  obtain ⟨fx,f1,f2,f3⟩:=near_fix hk hx ⟨h1.1,by omega⟩ hn
  have hu:∀ y∈(M.W.drop d).take (x.length+6),inU y:=fun y hy=>by
    have:=h.ok.w y (List.mem_of_mem_drop (List.mem_of_mem_take hy))
    exact ⟨this.1,by have:=this.2;omega⟩
  have hfw:=fix_w (p:=p) hwa hwc (by omega) hu
  rw [f1] at hfw
  simp only [wps]
  refine hfw.mono ?_
  rintro v S2 ⟨k2,⟨he,_⟩ | ⟨_,gb,fa',rfl,hg,_,_⟩⟩
  · exact absurd rfl he
  have k12:=k1.trans k2
  have s1:=r01same_w (c:=x.length+6) (d:=rc) hg (hr.mono k12) (by omega)
  simp only [decide_true] at s1
  have z2:=pre_get k12 z
  dsimp only
  simp only [wps,s1.wp,cell_blk z2,List.getElem?_cons_zero]
  refine ⟨fun e=>absurd e (by omega),fun _=>⟨fun e=>?_,fun e=>?_⟩⟩
  · rw [e]; exact ⟨k12,rfl⟩
  · rw [e]; exact ⟨k12,rfl⟩
theorem pass_ah {m:Mm} {p:Int} {l:List Ax} {inv:Bool} {s:Stp} {src dst tab:Int}:(passV m p l inv s src dst tab).2.ah=m.ah:=by
  unfold passV
  split
  · rename_i hs
    split
    · dsimp only
      obtain ⟨k,dd,inner,nn,mm,hS⟩:=step_shape hs
      obtain ⟨gf1,_⟩:=grps_facts hS
      rw [(Mm.wrs_len _ _).2.2]
      exact (passG_facts (inv:=inv) (src:=src) (dst:=dst) (tab:=tab) (m:=m) (n:=0) (step_known hs) (grpsV l s) (m,List.replicate (nV l).toNat 0) gf1).2.2.1
    · rfl
  · rfl
theorem scrub_ah (m:Mm) (p n a:Int):(scrubV m p n a).2.ah=m.ah:=by
  unfold scrubV
  dsimp only
  repeat' split
  all_goals first | rfl | exact (Mm.rds_len _ _).2.2.2 | exact ((Mm.wrs_len _ _).2.2).trans (Mm.rds_len _ _).2.2.2
theorem lay_ah (m:Mm) (l:List Int) (a:Int):(layV m l a).2.ah=m.ah:=by
  unfold layV
  split
  · exact (Mm.wrs_len _ _).2.2
  · rfl
theorem sound_ah (m:Mm) (p n a:Int) (s:Int×Int):(soundV m p n a s).2.ah=m.ah:=by
  unfold soundV
  repeat' split
  all_goals first | rfl | exact (Mm.rds_len _ _).2.2.2
theorem holds_ah (m:Mm) (l:List Int) (a:Int):(holdsV m l a).2.ah=m.ah:=by
  unfold holdsV
  split
  · exact (Mm.rds_len _ _).2.2.2
  · rfl
theorem turn_ah (m:Mm) (p:Int) (l:List Ax) (inv:Bool) (s:Stp) (src dst tab:Int):(turnV m p l inv s src dst tab).2.ah=m.ah:=by
  unfold turnV
  dsimp only
  repeat' split
  all_goals first | rfl | exact scrub_ah _ _ _ _ | (dsimp only;rw [sound_ah,holds_ah,sound_ah,pass_ah,lay_ah,scrub_ah])
theorem once_facts {e:Ev} {ws:List Int} {m:Mm} {p:Int} {l:List Ax} {inv:Bool} {s:Stp} {x:List Int} (hws:wsOk ws) (he:Go.Proofs.YtackinampfgklaaGreatDoor.u64r e.ma) (hst:stepV p l s=0) (hn:nV l=(x.length:Int)) (hl:ws.length=x.length+6+(x.length+6+(tabV p l inv s).length)) (hxi:∀ y∈x,inP p y) (hc:(ws.drop 0).take (x.length+6)=x++sx (sumsV p x)) (hml:m.W.length=ws.length) (h0:∀ y∈m.W,0≤y)
    (hm:One e ws m∨(m.L=[]∧Near e 0 (x++sx (sumsV p x)) m.W)) :
    (turnV m p l inv s 0 ((x.length+6:Nat):Int) ((2*x.length+12:Nat):Int)).1.2=0∧ofEv e (turnV m p l inv s 0 ((x.length+6:Nat):Int) ((2*x.length+12:Nat):Int)).1.1.2∧(turnV m p l inv s 0 ((x.length+6:Nat):Int) ((2*x.length+12:Nat):Int)).2.W.length=ws.length ∧
    ((turnV m p l inv s 0 ((x.length+6:Nat):Int) ((2*x.length+12:Nat):Int)).1.1.1=true→Near e (x.length+6) (doG p inv s.tw x.length (grpsV l s) (tabV p l inv s) x++sx (sumsV p (doG p inv s.tw x.length (grpsV l s) (tabV p l inv s) x))) ((turnV m p l inv s 0 ((x.length+6:Nat):Int) ((2*x.length+12:Nat):Int)).2.nxt []).W) ∧
    ((turnV m p l inv s 0 ((x.length+6:Nat):Int) ((2*x.length+12:Nat):Int)).1.1.1=false→m.L≠[]∧Near e 0 (x++sx (sumsV p x)) ((turnV m p l inv s 0 ((x.length+6:Nat):Int) ((2*x.length+12:Nat):Int)).2.nxt []).W) ∧
    m.t≤(turnV m p l inv s 0 ((x.length+6:Nat):Int) ((2*x.length+12:Nat):Int)).2.t∧(turnV m p l inv s 0 ((x.length+6:Nat):Int) ((2*x.length+12:Nat):Int)).2.t≤m.t+50000:=by
  have hk:=step_known hst
  obtain ⟨kk,dd,inner,nn,mm,hS⟩:=step_shape hst
  have hnn:=hS.nn
  have hn1:=hS.n1
  have hT:=tab_small (inv:=inv) hst
  have htk:=turn_ticks (m:=m) (inv:=inv) (src:=0) (dst:=((x.length+6:Nat):Int)) (tab:=((2*x.length+12:Nat):Int)) hst (by rw [hn]; unfold Mm.hasN;apply decide_eq_true;omega) (by rw [hn]; unfold Mm.hasN;apply decide_eq_true;omega) (by unfold Mm.hasN;apply decide_eq_true;omega)
  have htk2:m.t≤(turnV m p l inv s 0 ((x.length+6:Nat):Int) ((2*x.length+12:Nat):Int)).2.t∧(turnV m p l inv s 0 ((x.length+6:Nat):Int) ((2*x.length+12:Nat):Int)).2.t≤m.t+50000:=by
    obtain ⟨_,t2,_,t4⟩:=htk
    rcases t4 with ⟨_,_,t4⟩ | t4 <;> rw [t4,hn] <;> constructor <;> omega
  -- without events
  have quiet:m.L=[]→Near e 0 (x++sx (sumsV p x)) m.W→(turnV m p l inv s 0 ((x.length+6:Nat):Int) ((2*x.length+12:Nat):Int)).1.1.1=true∧ofEv e (turnV m p l inv s 0 ((x.length+6:Nat):Int) ((2*x.length+12:Nat):Int)).1.1.2∧Near e (x.length+6) (doG p inv s.tw x.length (grpsV l s) (tabV p l inv s) x++sx (sumsV p (doG p inv s.tw x.length (grpsV l s) (tabV p l inv s) x))) ((turnV m p l inv s 0 ((x.length+6:Nat):Int) ((2*x.length+12:Nat):Int)).2.nxt []).W:=fun hL hN=>by
    obtain ⟨fx,f1,f2,f3⟩:=near_fix hk hxi (by omega) hN
    obtain ⟨q1,q2,q3,q4⟩:=turn_quiet hL (p:=p) (l:=l) (inv:=inv) (s:=s) (sr:=0) (d:=x.length+6) (tb:=2*x.length+12) (n:=x.length) (x:=x) hst hn h0 (by omega) (by omega) (by omega) (.inr (by omega)) (.inl (by omega)) (.inl (by omega)) f1 rfl hxi rfl
    rw [fx_up0] at q1
    have q1:(turnV m p l inv s 0 ((x.length+6:Nat):Int) ((2*x.length+12:Nat):Int)).1=((true,fx),0):=q1
    have q2:(turnV m p l inv s 0 ((x.length+6:Nat):Int) ((2*x.length+12:Nat):Int)).2.L=[]:=q2
    refine ⟨by rw [q1],?_,?_⟩
    · rw [q1]
      exact ⟨f2,fun f hf=>by have:=f3 f hf;exact ⟨by omega,this.2⟩⟩
    · left
      have hlen:(doG p inv s.tw x.length (grpsV l s) (tabV p l inv s) x++sx (sumsV p (doG p inv s.tw x.length (grpsV l s) (tabV p l inv s) x))).length=x.length+6:=by rw [List.length_append,doG_length]; rfl
      rw [hlen]
      show ((strike (turnV m p l inv s 0 ((x.length+6:Nat):Int) ((2*x.length+12:Nat):Int)).2.L _).drop _).take _=_
      rw [q2]
      exact q4
  rcases hm with hm | ⟨hL,hN⟩
  · obtain ⟨u1,u2,u3,u4,u5⟩:=turn_one hws he hm (p:=p) (l:=l) (inv:=inv) (s:=s) (sr:=0) (d:=x.length+6) (tb:=2*x.length+12) (n:=x.length) (x:=x) hst hn (by omega) (by omega) (by omega) (.inr (by omega)) (.inl (by omega)) (.inl (by omega)) hxi rfl hc
    refine ⟨u1,u2,u3,u5,fun hok=>⟨fun hL=>?_,u4⟩,htk2⟩
    have hN:Near e 0 (x++sx (sumsV p x)) m.W:=by
      have hlen:(x++sx (sumsV p x)).length=x.length+6:=by simp
      cases hm with
      | pend hL' _=>rw [hL] at hL'; cases hL'
      | done _ hW=>rw [hW]; exact near_hit hws he (by rw [hlen]; exact hc)
      | gone _ hW=>left;rw [hW,hlen]; exact hc
    have:=(quiet hL hN).1
    rw [hok] at this;cases this
  · obtain ⟨q1,q2,q3⟩:=quiet hL hN
    exact ⟨htk.1,q2,htk.2.2.1.trans hml,fun _=>q3,fun hok=>absurd (hok.symm.trans q1) (by decide),htk2⟩
set_option maxHeartbeats 4000000 in
set_option maxRecDepth 20000 in
theorem once19_law {S:St} {p:Int} {inv:Bool} {s:Stp} {axes xa:Option Addr} {an ac xn xc:Nat} {l:List Ax} {x:List Int} {e:Ev} (h:Ar S axes an 2 eAx l) (hl:an≤8796093022208) (hx:Ar S xa xn 1 eU x) (hxu:wsOk x) (he:Go.Proofs.YtackinampfgklaaGreatDoor.u64r e.ma) (hti:e.ti≤9223372036854775807):Sp (g_l19_TurnOnce [vU p,.slice axes an ac,vB inv,spV s,.slice xa xn xc,e.val]) S fun v _=>v=vB true:=by
  unfold Sp
  rw [g_l19_TurnOnce_eq]
  simp only [wps,List.append_assoc,List.cons_append,List.nil_append,List.length_append,List.length_cons,List.length_nil,Nat.zero_add,Nat.reduceAdd,Nat.add_assoc]
  generalize hY:S++[AObj.cells (spC s) 29 none,AObj.cells [vI e.it,vI e.tr,vI e.wi,vI e.ti,vI e.ad,vU e.ma] 56 none]=Y
  have hp:S <+: Y:=⟨_,hY⟩
  have z:Y[S.length]? = some (AObj.cells (spC s) 29 none):=by rw [← hY]; exact gA0
  have ze:Y[S.length+1]? = some (AObj.cells [vI e.it,vI e.tr,vI e.wi,vI e.ti,vI e.ad,vU e.ma] 56 none):=by rw [← hY]; exact gA
  refine live19_w.use ?_
  rintro _ S1 k1 rfl
  have z1:=pre_get k1 z
  have p1:=hp.trans k1
  simp only [wps]
  refine (r07few_w (c:=ac) (h.mono p1) hl).use ?_
  rintro _ S2 k2 rfl
  have z2:=pre_get k2 z1
  have ze2:=pre_get (k1.trans k2) ze
  have p2:=p1.trans k2
  simp only [wps]
  refine ⟨fun _=>p2,fun hf=>⟨fun _=>p2,fun hx40=>?_⟩⟩
  have hxl:=hx.1
  have h2:=h.mono p2
  have hx2:=hx.mono p2
  simp only [wps,cell_blk z2,List.getElem?_cons_zero,List.getElem?_cons_succ]
  by_cases hW:words16V p l s x=0
  · obtain ⟨hst,hnV,hin⟩:=words16_ok hW
    have hk:=step_known hst
    have hi:∀ y∈x,inP p y:=fun y hy=>by
      unfold inV at hin
      rw [Bool.and_eq_true] at hin
      exact ⟨(hxu y hy).1,by simpa using List.all_eq_true.1 hin.1 y hy⟩
    have hT:=tab_small (inv:=inv) hst
    have hn1:1≤x.length:=by
      obtain ⟨k,d,inner,n,m,hS⟩:=step_shape hst
      have:=hS.n1;have:=hS.nn;omega
    refine (do_w (c:=ac) (xc:=xc) hst h2 hl hx2 (by omega) hi).mono ?_
    rintro _ S3 ⟨q,rfl,k3,hq3,hb3⟩
    have z3:=pre_get k3 z2
    have p3:=p2.trans k3
    have hy3:Ar S3 (some ⟨q,0,none⟩) x.length 1 eU (doG p inv s.tw x.length (grpsV l s) (tabV p l inv s) x):=by
      have:=Ar.blk (w:=1) hb3 (fun _ _=>rfl) rfl
      rwa [doG_length] at this
    simp only [wps,cell_blk z3,List.getElem?_cons_zero,List.getElem?_cons_succ]
    refine (table_w (c:=ac) (h.mono p3) hl inv s).use ?_
    rintro _ S4' k4' ⟨tb,tk,rfl,htab⟩
    have z4':=pre_get k4' z3
    have ze4':=pre_get (k3.trans k4') ze2
    have p4':=p3.trans k4'
    rw [show tableV p l inv s (tabV p l inv s)=tabV p l inv s by unfold tableV;rw [if_pos hst]] at htab ⊢
    have htu:wsOk (tabV p l inv s):=fun v hv=>u64_of hk (tab_in hk v hv)
    have hpe:=List.prefix_append S4' [AObj.cells [vI e.it,vI e.tr,vI e.wi,vI e.ti,vI e.ad,vU e.ma] 56 none]
    have zev:=get_new (S:=S4') (o:=AObj.cells [vI e.it,vI e.tr,vI e.wi,vI e.ti,vI e.ad,vU e.ma] 56 none)
    simp only [wps,hst,cell_blk ze4',List.getElem?_cons_zero,List.getElem?_cons_succ]
    have hev:Ar (S4'++[AObj.cells [vI e.it,vI e.tr,vI e.wi,vI e.ti,vI e.ad,vU e.ma] 56 none]) (some (ad S4'.length 0)) 1 6 Ev.cells [e]:=Ar.blk (l:=[e]) zev (fun _ _=>rfl) rfl
    generalize hS4:S4'++[AObj.cells [vI e.it,vI e.tr,vI e.wi,vI e.ti,vI e.ad,vU e.ma] 56 none]=S4 at hpe zev hev ⊢
    have z4:=pre_get hpe z4'
    have ze4:=pre_get hpe ze4'
    have p4:=p4'.trans hpe
    refine (standing_w (xc:=xc) (tc:=tk) (ec:=1) hk (hx.mono p4) (htab.mono hpe) hev (by omega) hT.2 hi htu (by omega) (by intro y hy;rw [List.mem_singleton] at hy;subst hy;exact he) (by intro y hy;rw [List.mem_singleton] at hy;subst hy;exact hti)).mono ?_
    rintro _ S5 ⟨b,T,rfl,k5,m5,hT5⟩
    have p5:=p4.trans k5
    simp only [wps]
    refine (codePut_w (c:=xc) hk (hx.mono p5) (by omega) (by omega) hi).mono ?_
    rintro _ S6 ⟨xb,rfl,hNx⟩
    simp only [wps]
    have hyi:∀ v∈doG p inv s.tw x.length (grpsV l s) (tabV p l inv s) x,inP p v:=doG_in hk
    have hyl:(doG p inv s.tw x.length (grpsV l s) (tabV p l inv s) x).length=x.length:=doG_length ..
    refine (codePut_w (c:=x.length) hk (hy3.mono ((((k4'.trans hpe)).trans k5).trans hNx.p)) hn1 (by omega) hyi).mono ?_
    rintro _ S7 ⟨yb,rfl,hNy⟩
    have k57:=hNx.p.trans hNy.p
    have p7:=p5.trans k57
    have z7:=pre_get k57 (pre_get k5 z4)
    have ze7:=pre_get k57 (pre_get k5 ze4)
    have m7:=m5.pre k57
    have hlow:∀ i,i < S4.length→i∉T:=fun i hi hm=>by have:=hT5 i hm;omega
    have hT5l:=m5.lt
    simp only [wps,Option.isNone_some]
    subst hxl
    have hlx:((x++sixL (sumsV p x))++List.replicate (x.length+6+(tabV p l inv s).length) (0:Int)).length=x.length+6+(x.length+6+(tabV p l inv s).length):=by
      rw [List.length_append,List.length_append,List.length_replicate]; rfl
    have wx:(((x++sixL (sumsV p x))++List.replicate (x.length+6+(tabV p l inv s).length) (0:Int)).drop 0).take (x.length+6)=x++sx (sumsV p x):=by
      have : (x++sixL (sumsV p x)).length=x.length+6:=by rw [List.length_append]; rfl
      rw [List.drop_zero,← this,List.take_left]; rfl
    have hwok:wsOk ((x++sixL (sumsV p x))++List.replicate (x.length+6+(tabV p l inv s).length) (0:Int)):=m5.ok.w
    generalize (x++sixL (sumsV p x))++List.replicate (x.length+6+(tabV p l inv s).length) (0:Int)=ws at *
    have e1:(x.length:Int)+6=((x.length+6:Nat):Int):=by omega
    have e2:2*(x.length:Int)+12=((2*x.length+12:Nat):Int):=by omega
    rw [e1,e2]
    -- the lists beside the memory
    have hbx:Ar S7 (some ⟨xb,0,none⟩) (x.length+6) 1 eU (x++sx (sumsV p x)):=by
      have:=hNx.ar
      have hl6:(x++sixL (sumsV p x)).length=x.length+6:=by rw [List.length_append]; rfl
      rw [hl6] at this
      exact this.mono hNy.p
    have hby:Ar S7 (some ⟨yb,0,none⟩) (x.length+6) 1 eU (doG p inv s.tw x.length (grpsV l s) (tabV p l inv s) x++sx (sumsV p (doG p inv s.tw x.length (grpsV l s) (tabV p l inv s) x))):=by
      have:=hNy.ar
      have hl6:(doG p inv s.tw x.length (grpsV l s) (tabV p l inv s) x++sixL (sumsV p (doG p inv s.tw x.length (grpsV l s) (tabV p l inv s) x))).length=x.length+6:=by rw [List.length_append,hyl]; rfl
      rw [hl6] at this
      exact this
    have hnb:∀ i,S5.length≤i→i∉T:=fun i hi hm=>by have:=hT5l i hm;omega
    have lS5:=k5.length_le
    refine wp_loop (fun st S' q=>∃ (r:Nat) (m:Mm) (T':List Nat),st=[vN r]∧q=2-r∧r≤1∧Kp T S7 S'∧MS S' b m T'∧(∀ i∈T',i∈T∨S7.length≤i)∧m.W.length=ws.length∧(One e ws m∨(m.L=[]∧Near e 0 (x++sx (sumsV p x)) m.W))∧(r=1→m.L=[])∧m.t=0∧0≤m.ah∧m.ah≤100000+100000*r) ?_ 2 _ _ ⟨0,_,T,rfl,rfl,by omega,Kp.refl,m7,fun i hi=>.inl hi,rfl,.inl (.pend rfl rfl),by omega,rfl,by dsimp only;omega,by dsimp only;omega⟩
    rintro st S8 _ ⟨r,m,T',rfl,rfl,hr,k8,m8,hT8,hmW,hone,hr1,ht0,ha0,ha1⟩
    have outT:∀ i,i < S7.length→i∉T→i∉T':=fun i hi hn hm=>by
      rcases hT8 i hm with h | h
      · exact hn h
      · omega
    have up:∀ {α:Type} {f:α→List Value} {m:List α} {p:Option Addr} {n v:Nat},(∀ x,∃ v,(f x)[0]? = some v)→Ar S4 p n v f m→Ar S8 p n v f m:=fun hf k=>k8.ar ((k.mono k5).mono k57) fun hne y hy=>hlow _ (k.low hf hne y hy)
    have l58:=k57.length_le
    have l4:=pre_lt z4
    have l4e:=pre_lt ze4
    have z8:=k8.get z7 (hlow _ l4)
    have ze8:=k8.get ze7 (hlow _ l4e)
    have p8:S <+: S8:=k8.low (L:=S4.length) hT5 p7 p4.length_le
    simp only [wps]
    refine ⟨fun g2=>?_,fun g2=>by omega⟩
    simp only [wps,cell_blk z8,List.getElem?_cons_zero,List.getElem?_cons_succ]
    have hax:Ar S8 axes an 2 eAx l:=up (fun _=>⟨_,rfl⟩) (h.mono p4)
    obtain ⟨u1,u2,u3,u4,u5,u6,u7⟩:=once_facts (inv:=inv) hwok he hst hnV hlx hi wx hmW (fun y hy=>(m8.ok.w y hy).1) hone
    have u8:=turn_ah m p l inv s 0 ((x.length+6:Nat):Int) ((2*x.length+12:Nat):Int)
    refine (turn_w (p:=p) (ac:=ac) (inv:=inv) (s:=s) (src:=0) (dst:=((x.length+6:Nat):Int)) (tab:=((2*x.length+12:Nat):Int)) m8 hax hl (fun y hy hne=>outT _ (by have:=(h.mono p4).low (fun _=>⟨_,rfl⟩) hne y hy;omega) (hlow _ ((h.mono p4).low (fun _=>⟨_,rfl⟩) hne y hy))) ⟨by omega,by omega⟩).mono ?_
    rintro _ S9 ⟨fa,rfl,k9,m9,hfa⟩
    generalize turnV m p l inv s 0 ((x.length+6:Nat):Int) ((2*x.length+12:Nat):Int)=V at *
    have hTl:=m8.lt
    have l89:=k9.len
    have hp10:=List.prefix_append S9 [AObj.cells [vB V.1.1.1,.slice fa V.1.1.2.length V.1.1.2.length] 69 none]
    have z10t:=get_new (S:=S9) (o:=AObj.cells [vB V.1.1.1,.slice fa V.1.1.2.length V.1.1.2.length] 69 none)
    simp only [wps,u1]
    generalize S9++[AObj.cells [vB V.1.1.1,.slice fa V.1.1.2.length V.1.1.2.length] 69 none]=S10 at hp10 z10t ⊢
    refine ⟨fun e=>absurd e (by have:=u2.1;omega),fun _=>?_⟩
    refine (nextm_w (c:=0) (m9.pre hp10) (p:=none) (n:=0) (l:=[]) .nil (by omega) (by simp) (by omega) (by omega) (by simp)).mono ?_
    rintro _ S11 ⟨rfl,hmo,m11⟩
    have tT:S9.length∉T':=fun hm=>by have:=hTl _ hm;omega
    have z11t:=hmo.get z10t tT
    have l78:=k8.len
    have l910:=hp10.length_le
    have l1011:=hmo.kp.len
    have eT:S.length+1∉T':=outT _ (by omega) (hlow _ l4e)
    have ze11:=hmo.get (pre_get hp10 (k9.get ze8 eT)) eT
    have k811:Kp T' S8 S11:=(k9.more hp10).trans hmo.kp
    have k711:Kp T S7 S11:=⟨Nat.le_trans l78 k811.len,fun i hi hn=>by rw [k811.keep i (by omega) (outT i hi hn),k8.keep i hi hn]⟩
    have p11:S <+: S11:=k711.low (L:=S4.length) hT5 p7 p4.length_le
    have lNx:=hNx.lt
    have lNy:=hNy.lt
    have l56:=hNx.p.length_le
    have hbx11:=k711.ar hbx (fun _ y hy=>by injection hy with hy;subst hy;exact hnb _ lNx)
    have hby11:=k711.ar hby (fun _ y hy=>by injection hy with hy;subst hy;exact hnb _ (by dsimp only;omega))
    have hfa11:OwnF S8.length S11 fa V.1.1.2:=(hfa.pre hp10).keep fun i hi=>hmo.kp.keep i ((hfa.pre hp10).lt i hi).2 (fun hm=>by have:=(hfa.lt i hi).1;have:=hTl _ hm;omega)
    have hown11:∀ i∈T'++newT S10 S11,i∈T∨S7.length≤i:=fun i hi=>by
      rcases hmo.own i hi with h | h
      · exact hT8 i h
      · exact .inr (by omega)
    have hnxW:(V.2.nxt []).W.length=ws.length:=(Mm.nxt_len _ _).trans u3
    simp only [wps,cell_blk z11t,List.getElem?_cons_zero,List.getElem?_cons_succ]
    refine wp_loop (fun st S' q=>∃ i:Nat,st=[vN i]∧q=V.1.1.2.length-i∧i≤V.1.1.2.length∧S11 <+: S') ?_ V.1.1.2.length _ _ ⟨0,rfl,rfl,by omega,List.prefix_refl _⟩
    rintro st S12 _ ⟨i,rfl,rfl,hi8,k12⟩
    simp only [wps]
    refine ⟨fun g1=>?_,fun g1=>?_⟩
    · have hil:i < V.1.1.2.length:=by omega
      obtain ⟨y,rfl,f0,f1,f2⟩:=getFx (hfa11.ar.mono k12) hil
      have hFi:=u2.2 _ (List.getElem_mem hil)
      have hl1:=u2.1
      have z12:=pre_get k12 ze11
      have hp13:=List.prefix_append S12 [AObj.cells [vI e.ad,vU V.1.1.2[i].bad,vU V.1.1.2[i].good] 83 none]
      have z13:=get_new (S:=S12) (o:=AObj.cells [vI e.ad,vU V.1.1.2[i].bad,vU V.1.1.2[i].good] 83 none)
      have z123:=pre_get hp13 z12
      simp only [wps,Int.toNat_natCast,f0,f1,f2,cell_blk z13,cell_blk z123,List.getElem?_cons_zero,List.getElem?_cons_succ,xor_term,hFi.1,hFi.2]
      rw [wI_ (n:=(i:Int)+1) (by omega) (by omega)]
      exact ⟨by omega,V.1.1.2.length-(i+1),by omega,i+1,rfl,rfl,by omega,k12.trans hp13⟩
    · have z12t:=pre_get k12 z11t
      have p12:=p11.trans k12
      have m12:=m11.pre k12
      simp only [wps,cell_blk z12t,List.getElem?_cons_zero,List.getElem?_cons_succ]
      refine ⟨fun hok=>?_,fun hok=>?_⟩
      · have ot:=once_tail (e:=e) (d:=x.length+6) (rc:=x.length+6) (tb_:=S9.length) (fa:=fa) (fl:=V.1.1.2.length) (ok:=V.1.1.1) m12 hk hyi (by rw [hyl]; omega) (u4 hok) (by rw [hyl,hnxW]; omega) (by rw [hyl]; exact hby11.mono k12) z12t
        rw [hyl] at ot
        refine ot.mono ?_
        rintro _ S13 ⟨k13,rfl⟩
        rw [if_pos hok]
        simp only [wps]
        exact p12.trans k13
      · obtain ⟨u51,u52⟩:=u5 hok
        have ot:=once_tail (e:=e) (d:=0) (rc:=x.length+6) (tb_:=S9.length) (fa:=fa) (fl:=V.1.1.2.length) (ok:=V.1.1.1) m12 hk hi ⟨hn1,by omega⟩ u52 (by rw [hnxW]; omega) (hbx11.mono k12) z12t
        refine ot.mono ?_
        rintro _ S13 ⟨k13,rfl⟩
        rw [if_neg (by rw [hok]; simp)]
        simp only [wps]
        have hr0:r=0:=by
          rcases (show r=0∨r=1 by omega) with h | h
          · exact h
          · exact absurd (hr1 h) u51
        subst hr0
        refine ⟨1,by omega,1,_,_,rfl,rfl,by omega,(k711.more (k12.trans k13)),m12.pre k13,hown11,hnxW,.inr ⟨rfl,u52⟩,fun _=>rfl,rfl,?_,?_⟩
        · show 0≤V.2.ah+V.2.t;omega
        · show V.2.ah+V.2.t≤_;omega
  · refine (do_err_w (inv:=inv) (c:=ac) (xc:=xc) h2 hl hx2 (by omega) hW).use ?_
    rintro _ S3 k3 rfl
    have z3:=pre_get k3 z2
    have p3:=p2.trans k3
    simp only [wps,cell_blk z3,List.getElem?_cons_zero,List.getElem?_cons_succ]
    refine (table_w (c:=ac) (h.mono p3) hl inv s).use ?_
    rintro _ S4 k4 ⟨tb,tk,rfl,htab⟩
    simp only [wps]
    exact ⟨fun _=>⟨p3.trans k4,rfl⟩,fun e=>absurd e hW⟩
end Go.AM
