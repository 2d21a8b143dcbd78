/-
  Part of the proof of a law: what the functions compute. Conditions: none.
-/
import Derived.Test.YtpecnaacgkgjmaaGreatDoorVW2
import Derived.Test.YtpecnaacgkgjmaaGreatDoorVW1
import Derived.Test.YtpecnaacgkgjmaaGreatDoorVP1
set_option linter.unusedVariables false
set_option linter.unusedSectionVars false
set_option linter.unusedSimpArgs false
set_option linter.deprecated false
namespace Go.AM
open Go Go.Proofs.YtpecnaacgkgjmaaGreatDoor
set_option maxHeartbeats 1000000 in
theorem tablen_w {p:Int} {S:St} {axes:Option Addr} {n c:Nat} {l:List Ax} (h:Ar S axes n 2 eAx l) (hl:n<=8796093022208) (inv:Bool) (s:Stp) :
 Sp (gq4y [vU p,.slice axes n c,vB inv,vA [vI s.ax,vB s.tw,vI s.st.R,vI s.st.L,vI s.st.M]]) S λ v S'=>∃ b k,v=vT [.slice b (tableV p l inv s (tabV p l inv s)).length k,vI (stepV p l s)] /\
  Ar S' b (tableV p l inv s (tabV p l inv s)).length 1 eU (tableV p l inv s (tabV p l inv s))/\∀ y,b=some y->S.length<=y.block:=by
 unfold Sp
 have hn:=h.1
 rw [gq4y_eq]
 simp only [wps]
 refine (stepc_w (h.mono (List.prefix_append _ _)) hl s).use ?_
 rintro _ S1 h1 rfl
 have h0:=pre_of_add h1
 have hb:=pre_get h1 get_new
 simp only [wps,cell_blk hb]
 unfold tableV
 refine ⟨λ h2=>by rw [if_neg h2]; exact ⟨h0,none,0,rfl,.nil,λ y e=>by cases e⟩,λ h2=>?_⟩
 rw [if_pos h2,h2]
 obtain ⟨hg,hs⟩:=stepV_inv h2
 obtain ⟨hb0,hb1⟩:=base_ok hg hs inv
 obtain ⟨hk,_,hall⟩:=grid_ok hg
 obtain ⟨k,hkl,e0,h3⟩:=hs
 obtain ⟨hr,ho⟩:=hall l[k] (List.getElem_mem hkl)
 obtain ⟨n1,n2,_⟩:=radV_facts hr
 have hax:axAt l s.ax=l[k]:=by rw [e0,axAt_nat l k hkl]
 obtain ⟨a,rfl,c1,c2⟩:=(h.mono h0).getAx hkl
 rw [e0]
 simp only [wps,c1,c2]
 refine ⟨by omega,?_⟩
 have hb2:∀ o,(S1++[o])[S.length]? = _:=λ o=>get_add hb
 simp only [wps,λ o=>cell_blk (hb2 o)]
 refine base_w.use ?_
 rintro _ S2 h4 rfl
 rw [hax] at hb0 hb1
 have h5:=(pre_add h0 _).trans h4
 have hb3:=pre_get h4 (hb2 _)
 have hb4:=pre_get h4 get_new
 simp only [wps,hb0,cell_blk hb3,cell_blk hb4]
 unfold tabV
 rw [hax]
 rcases h3 with ⟨h3,h6⟩ | ⟨h3,h6⟩
 ·obtain ⟨N,hN⟩:=Int.eq_ofNat_of_zero_le (show 0<=l[k].N by omega)
  generalize (baseV p l[k] inv s).1=w at hb1 ⊢
  have hpw:powersV p w (N:Int)=(powsV p w N,0):=by unfold powersV;rw [if_pos hk,if_neg (by omega),Int.toNat_natCast]
  simp only [wps,h3]
  rw [if_pos (by simp),hN,Int.toNat_natCast]
  refine (powers_w (p:=p) (a:=w) hb1).use ?_
  rintro _ S3 h7 ⟨b,k',rfl,hpa,hpb⟩
  rw [hpw] at hpa hpb ⊢
  obtain ⟨rfl,hk',hpc⟩:=hpb rfl
  rw [Int.toNat_natCast] at hk'
  have hk':=hk'.symm
  subst hk'
  simp only [powsV_len,Int.toNat_natCast] at hpa hpc
  simp only [wps,powsV_len]
  refine ⟨λ h8=>?_,λ h8=>?_⟩
  ·rw [h8]
   simp only [wps,Bool.false_eq_true,if_false]
   rw [powsV_len]
   exact ⟨h5.trans h7,_,_,rfl,hpa,λ y e=>by cases e;exact h5.length_le⟩
  ·rw [h8]
   have hred:red p (N:Int)≠0:=by
    unfold red;rw [if_pos hk]
    have : (N:Int) < p:=by rcases known_cases hk with rfl | rfl | rfl <;> simp only [P0,P1,P2] <;> omega
    rw [Int.emod_eq_of_lt (by omega) this]; omega
   obtain ⟨i0,i1⟩:=inv_ok hk hred
   have e3:wU (N:Int)=N:=wU_ (by omega) (by omega)
   have hb6:=pre_get h7 hb4
   simp only [wps,cell_blk hb6,hN,e3,inv_w (p:=p) (a:=(N:Int)) ⟨by omega,by omega⟩,i0]
   generalize (invV p (N:Int)).1=iv at i1 ⊢
   simp only [if_true,List.length_map,powsV_len]
   refine wp_loop (λ st S' m=>∃ j:Nat,st=[vI j]/\j<=N/\m=N-j/\S3.set S2.length (.cells ((((powsV p w N).map λ x=>mulF p x iv).take j++(powsV p w N).drop j).map (.int .u64)) 24 none) <+: S') ?_ N _ _
    ⟨0,rfl,by omega,by omega,by
      simp only [List.take_zero,List.nil_append,List.drop_zero]
      rw [set_get hpc]; exact List.prefix_rfl⟩
   rintro st S' m ⟨j,rfl,hj,rfl,hp⟩
   have hS2:S2.length < S3.length:=pre_lt hpc
   have hlen:=powsV_len p w N
   have hbl:=pre_get hp (i:=S2.length) (by rw [List.getElem?_set_self hS2])
   simp only [wps]
   refine ⟨λ h9=>⟨h9,?_⟩,λ h9=>?_⟩
   ·have hj':j < N:=by omega
    have hx:=powM_range p w j
    have hx2:(powsV p w N)[j]? = some (powM p w j):=by simp [powsV,hj']
    have hl1:(((powsV p w N).map λ x=>mulF p x iv).take j).length=j:=by simp;omega
    have hcell:S'.cell ⟨S2.length,j,none⟩=some (.int .u64 (powM p w j)):=by
     rw [cell_blk hbl,List.getElem?_map,List.getElem?_append_right (by omega),hl1,Nat.sub_self,List.getElem?_drop,Nat.add_zero,hx2]; rfl
    simp only [wps,hcell,mul_w (p:=p) hx i1,hbl]
    refine ⟨h9,by simp;omega,N-(j+1),by omega,j+1,by rw [wI_ (by omega) (by omega)]; simp,by omega,rfl,?_⟩
    have e4:splice ((((powsV p w N).map λ x=>mulF p x iv).take j++(powsV p w N).drop j).map (.int .u64)) j [.int .u64 (mulF p (powM p w j) iv)]=(((powsV p w N).map λ x=>mulF p x iv).take (j+1)++(powsV p w N).drop (j+1)).map (.int .u64):=by
     rw [splice_set (by simp;omega),<- List.map_set,List.set_append_right _ _ (by omega),hl1,Nat.sub_self,List.drop_eq_getElem_cons (by omega),List.set_cons_zero,List.take_add_one,List.getElem?_map,hx2]
     simp
    rw [e4]
    have:=pre_set hp (b:=S2.length) (o:=.cells ((((powsV p w N).map λ x=>mulF p x iv).take (j+1)++(powsV p w N).drop (j+1)).map (.int .u64)) 24 none) (by simpa using hS2)
    rwa [List.set_set] at this
   ·obtain rfl:j=N:=by omega
    rw [List.take_of_length_le (by simp;omega),List.drop_of_length_le (by omega),List.append_nil] at hbl
    have h10:S <+: S':=(h5.trans (pre_set' h7 (Nat.le_refl _))).trans hp
    refine ⟨h10,_,_,rfl,?_,λ y e=>by cases e;exact h5.length_le⟩
    have:=arU_blk hbl
    rwa [List.length_map,powsV_len] at this
 ·obtain ⟨g1,g2,g3,g4,g5,g6⟩:=stages_ok (stages_facts hr).1 h6
  have hp1:1<=s.st.R*s.st.M:=by have:=Int.mul_le_mul (show 1<=s.st.R by omega) g4 (by omega) (by omega); omega
  have hp2:=prod_bound g3 hp1 g5 g6
  have hM:s.st.M<=4096:=prod_bound (show 1<=s.st.R by omega) g4 rfl hp2
  rw [Int.mul_comm] at hp1 hp2
  simp only [wps,h3]
  rw [wI_ (n:=s.st.M*s.st.R) (by omega) (by omega)]
  obtain ⟨R,hR⟩:=Int.eq_ofNat_of_zero_le (show 0<=s.st.R by omega)
  obtain ⟨M',hM'⟩:=Int.eq_ofNat_of_zero_le (show 0<=s.st.M by omega)
  generalize hw:(baseV p l[k] inv s).1=w at hb1 ⊢
  have e1:(s.st.M*s.st.R).toNat=M'*R:=by rw [hR,hM',<- Int.natCast_mul,Int.toNat_natCast]
  have e2:s.st.M*s.st.R=((M'*R:Nat):Int):=by rw [hR,hM',Int.natCast_mul]
  rw [hR,hM'] at hp1 hp2
  rw [e1,zeroC_one,hR,hM',Int.toNat_natCast,Int.toNat_natCast,if_neg (by simp)]
  refine ⟨⟨by decide,by omega,by omega,by omega,rfl⟩,?_⟩
  refine wp_loop (λ st S' m=>∃ j:Nat,st=[.slice (some ⟨S2.length,0,none⟩) (j*R) (M'*R),vU (powM p w j)]/\j<=M'/\m=M'-j/\S2++[.cells ((rowsV p w R j).map (.int .u64)++List.replicate ((M'-j)*R) (.int .u64 0)) 24 none] <+: S') ?_ M' _ _
   ⟨0,by rw [powM_zero w hk]; simp,by omega,by omega,by simp [rowsV]⟩
  rintro st S' m ⟨j,rfl,hj,rfl,hp⟩
  have hp':=pre_of_add hp
  have hb5:=pre_get hp' hb3
  have hlen:=rowsV_len p w R j
  have hbl:=pre_get hp get_new
  have h7:=h5.trans hp'
  rcases Nat.lt_or_ge j M' with h8 | h8
  ·have h9:j*R+R<=M'*R:=by rw [<- Nat.succ_mul]; exact Nat.mul_le_mul_right _ h8
   have hm:=mul_w (p:=p) (powM_range p w j) hb1
   rw [mulF_powM1] at hm
   have hpw:powersV p (powM p w j) (R:Int)=(powsV p (powM p w j) R,0):=by unfold powersV;rw [if_pos hk,if_neg (by omega),Int.toNat_natCast]
   simp only [wps,cell_blk hb5,hR,hM',hm]
   rw [show (M':Int)*R=((M'*R:Nat):Int) by rw [Int.natCast_mul],wI_ (n:=((M'*R:Nat):Int)) (by omega) (by omega)]
   refine ⟨λ h10=>?_,λ h10=>by omega⟩
   refine (powers_w (p:=p) (a:=powM p w j) (powM_range p w j)).use ?_
   rintro _ S3 h11 ⟨b,k',rfl,hpa,hpb⟩
   rw [hpw] at hpa hpb ⊢
   obtain ⟨rfl,hk',hpc⟩:=hpb rfl
   simp only [wps,powsV_len]
   refine rdN_ar hpc (by rw [List.length_map,powsV_len]) ?_
   have hbl2:=pre_get h11 hbl
   refine wp_app_in hbl2 h9 ?_ (by simp [leafV]) ?_
   ·simp only [List.length_map,powsV_len,List.length_append,List.length_replicate,hlen]
    have : (M'-j)*R=M'*R-j*R:=Nat.sub_mul ..
    omega
   ·simp only [wps]
    refine ⟨M'-(j+1),by omega,j+1,by rw [Nat.succ_mul],by omega,rfl,?_⟩
    have e4:splice ((rowsV p w R j).map (.int .u64)++List.replicate ((M'-j)*R) (.int .u64 0)) (j*R) ((powsV p (powM p w j) R).map (.int .u64))=(rowsV p w R (j+1)).map (.int .u64)++List.replicate ((M'-(j+1))*R) (.int .u64 0):=by
     have e5:(M'-j)*R-R=(M'-(j+1))*R:=by rw [<- Nat.sub_one_mul,Nat.sub_sub]
     unfold splice
     rw [rowsV,List.take_append_of_le_length (by simp [hlen]),List.take_of_length_le (by simp [hlen]),List.drop_append,List.drop_of_length_le (by simp [hlen])]
     simp [hlen,powsV_len,e5]
    rw [e4]
    exact pre_top (hp.trans h11)
  ·obtain rfl:j=M':=by omega
   simp only [wps,cell_blk hb5,hR,hM']
   rw [show (j:Int)*R=((j*R:Nat):Int) by rw [Int.natCast_mul],wI_ (n:=((j*R:Nat):Int)) (by omega) (by omega)]
   refine ⟨λ h10=>by omega,λ h10=>?_⟩
   refine ⟨h7,_,_,by rw [hlen],?_,λ y e=>by cases e;exact h5.length_le⟩
   rw [Nat.sub_self,Nat.zero_mul,List.replicate_zero,List.append_nil] at hbl
   exact arU_blk hbl
theorem scat_in {P:Int->Prop}:∀ (l:List (Nat×Int)) (a:List Int),(∀ y∈a,P y)->(∀ e∈l,P e.2)->∀ y∈scat a l,P y
 | [], a, h, _ => h
 | e :: l, a, h1, h2 => by
   rw [scat,List.foldl_cons]
   refine scat_in l _ (λ y hy=>?_) λ e he=>h2 e (by simp [he])
   rcases List.mem_or_eq_of_mem_set hy with hy | rfl
   ·exact h1 y hy
   ·exact h2 e (by simp)
theorem doG_in {p:Int} (hk:known p=true) {inv tw:Bool} {n:Nat} {gs:List GrN} {tab x:List Int}:∀ y∈doG p inv tw n gs tab x,inP p y:=by
 unfold doG
 refine scat_in _ _ (λ y hy=>?_) λ e he=>?_
 ·rw [(List.mem_replicate.1 hy).2]; exact inP_zero hk
 ·obtain ⟨g,_,hg⟩:=List.mem_flatMap.1 he
  unfold gpairs at hg
  obtain ⟨i,hi,hx⟩:=List.mem_iff_getElem.1 (List.of_mem_zip hg).2
  rw [List.getElem_zipWith] at hx
  rw [<- hx]; exact inP_mul hk _ _
theorem doG_length (p:Int) (inv tw:Bool) (n:Nat) (gs:List GrN) (tab x:List Int):(doG p inv tw n gs tab x).length=n:=by unfold doG;rw [scat_len,List.length_replicate]
theorem tab_small {p:Int} {l:List Ax} {inv:Bool} {s:Stp} (h:stepV p l s=0):1<=(tabV p l inv s).length/\(tabV p l inv s).length<=4096:=by
 obtain ⟨k,d,inner,n,m,hS⟩:=step_shape h
 rw [tab_length hS]
 have h1:=hS.d1
 rcases hS.st with ⟨ht,_⟩ | ⟨ht,R,L,M,hst,r1,r2,l1,m1,hd⟩
 ·rw [if_pos ht]; omega
 ·rw [if_neg (by rw [ht]; simp),hst]
  dsimp only
  rw [Int.toNat_natCast,Int.toNat_natCast]
  have h2:R*M<=L*(R*M):=Nat.le_mul_of_pos_left _ (by omega)
  have h3:1<=M*R:=Nat.mul_pos (by omega) (by omega)
  rw [Nat.mul_comm M R] at h3 ⊢
  omega
theorem nd_get {l:List Ax} {s:Stp} {k d inner nn m:Nat} (hS:Shp l s k d inner nn m) {j:Nat} (hj:j < l.length):l[j].N=(((ndOf l)[j]'(by simp [ndOf]; exact hj):Nat):Int):=by
 have h1:=hS.all _ (List.getElem_mem (l:=ndOf l) (n:=j) (by simp [ndOf]; exact hj))
 simp only [ndOf,List.getElem_map] at h1 ⊢
 omega
theorem prod_take_le {l:List Nat} (h:∀ x∈l,1<=x) (j:Nat):prodN (l.take j)<=prodN l:=by
 conv=>rhs;rw [<- List.take_append_drop j l,prodN_app]
 exact Nat.le_mul_of_pos_right _ (prodN_pos _ λ x hx=>h x (List.mem_of_mem_drop hx))
theorem prod_take_succ {l:List Nat} {j:Nat} (hj:j < l.length):prodN (l.take (j+1))=prodN (l.take j)*l[j]:=by
 rw [take_snoc hj,prodN_app]
 show _=_
 unfold prodN
 simp
theorem cells_le (t:List Int):(cellsV t).1.2.length<=2:=by
 unfold cellsV
 split
 ·simp
 ·split
  ·simp
  ·rcases thr_at (t.getD 0 0) (t.getD 1 0) (t.getD 2 0) with h | ⟨_,_,h⟩ <;> rcases thr_at (t.getD 3 0) (t.getD 4 0) (t.getD 5 0) with g | ⟨_,_,g⟩ <;> simp only [h,g] <;> simp [fxAt]
theorem fix_le (p:Int) (c:List Int):(fixV p c).1.2.length<=3:=by
 have:=cells_le (c.drop (c.length-6))
 unfold fixV
 dsimp only
 repeat' split
 all_goals simp <;> omega
theorem scrub_t {m:Mm} {p a:Int} {n:Nat} (hk:known p=true) (hn:1<=n/\n<=4096) (hN:m.hasN a ((n:Int)+6)=true) :
 (scrubV m p n a).2.W.length=m.W.length/\(scrubV m p n a).1.1.1.length<=3/\(((scrubV m p n a).1.2=0/\(scrubV m p n a).2.t=m.t+n+6+(scrubV m p n a).1.1.1.length)\/((scrubV m p n a).1.2=10/\(scrubV m p n a).2.t=m.t+n+6/\(scrubV m p n a).1.1.1=[])):=by
 unfold scrubV
 rw [if_neg (by rw [hk]; simp),if_neg (by rw [hN]; simp;omega)]
 dsimp only
 rw [Int.toNat_natCast]
 have hf:=fix_le p (m.rds (rowO a (n+6))).1
 obtain ⟨g1,g2,g3,g4⟩:=Mm.rds_len (rowO a (n+6)) m
 rw [rowO_len] at g3
 split
 ·exact ⟨g1,by simp,.inr ⟨rfl,by dsimp only;omega,rfl⟩⟩
 ·obtain ⟨w1,w2,w3⟩:=Mm.wrs_len (((fixV p (m.rds (rowO a (n+6))).1).1.2.map (Fx.up a)).map Fx.st) (m.rds (rowO a (n+6))).2
  refine ⟨w1.trans g1,by simpa using hf,.inl ⟨rfl,?_⟩⟩
  dsimp only
  rw [w2,g3,List.length_map]; omega
theorem lay_t {m:Mm} {l:List Int} {a:Int} (hN:m.hasN a l.length=true):(layV m l a).1=0/\(layV m l a).2.W.length=m.W.length/\(layV m l a).2.t=m.t+l.length:=by
 unfold layV
 rw [if_pos hN]
 obtain ⟨w1,w2,w3⟩:=Mm.wrs_len ((rowO a l.length).zip l) m
 exact ⟨rfl,w1,by dsimp only;rw [w2,List.length_zip,rowO_len]; omega⟩
theorem sound_t {m:Mm} {p a:Int} {n:Nat} {s:Int×Int} (hk:known p=true) (hn:1<=n/\n<=4096) (hN:m.hasN a (n:Int)=true):(soundV m p n a s).1.2=0/\(soundV m p n a s).2.W.length=m.W.length/\(soundV m p n a s).2.t=m.t+n:=by
 unfold soundV
 rw [if_neg (by rw [hk]; simp),if_neg (by rw [hN]; simp;omega)]
 dsimp only
 rw [Int.toNat_natCast]
 obtain ⟨g1,g2,g3,g4⟩:=Mm.rds_len (rowO a n) m
 rw [rowO_len] at g3
 exact ⟨rfl,g1,g3⟩
theorem holds_t {m:Mm} {l:List Int} {a:Int} (hN:m.hasN a l.length=true):(holdsV m l a).1.2=0/\(holdsV m l a).2.W.length=m.W.length/\(holdsV m l a).2.t=m.t+l.length:=by
 unfold holdsV
 rw [if_pos hN]
 obtain ⟨g1,g2,g3,g4⟩:=Mm.rds_len (rowO a l.length) m
 rw [rowO_len] at g3
 exact ⟨rfl,g1,g3⟩
theorem hasN_len {m m':Mm} (h:m'.W.length=m.W.length) (a n:Int):m'.hasN a n=m.hasN a n:=by unfold Mm.hasN;rw [h]
theorem hasN_less {m:Mm} {a n k:Int} (h:m.hasN a n=true) (hk:0<=k/\k<=n):m.hasN a k=true:=by
 have:=hasN_in h
 unfold Mm.hasN;apply decide_eq_true;omega
theorem pass_zero {m:Mm} {p:Int} {l:List Ax} {inv:Bool} {s:Stp} {src dst tab:Int} (hs:stepV p l s=0) (h1:m.hasN src (nV l+6)=true) (h2:m.hasN dst (nV l+6)=true) (h3:m.hasN tab (tabV p l inv s).length=true):(passV m p l inv s src dst tab).1.2=0:=by
 unfold passV;rw [if_pos hs,if_pos ⟨h1,h2,h3⟩]
theorem turnV_eq {m:Mm} {p:Int} {l:List Ax} {inv:Bool} {s:Stp} {src dst tab:Int} (hs:stepV p l s=0) (h1:m.hasN src (nV l+6)=true) (h2:m.hasN dst (nV l+6)=true) (h3:m.hasN tab (tabV p l inv s).length=true) :
 turnV m p l inv s src dst tab=if (scrubV m p (nV l) src).1.2≠0 then (((false,[]),0),(scrubV m p (nV l) src).2) else
  (((( soundV (passV (layV (scrubV m p (nV l) src).2 (tabV p l inv s) tab).2 p l inv s src dst tab).2 p (nV l) src (scrubV m p (nV l) src).1.1.2).1.1 &&
    (holdsV (soundV (passV (layV (scrubV m p (nV l) src).2 (tabV p l inv s) tab).2 p l inv s src dst tab).2 p (nV l) src (scrubV m p (nV l) src).1.1.2).2 (tabV p l inv s) tab).1.1 &&
    (soundV (holdsV (soundV (passV (layV (scrubV m p (nV l) src).2 (tabV p l inv s) tab).2 p l inv s src dst tab).2 p (nV l) src (scrubV m p (nV l) src).1.1.2).2 (tabV p l inv s) tab).2 p (nV l) dst (passV (layV (scrubV m p (nV l) src).2 (tabV p l inv s) tab).2 p l inv s src dst tab).1.1).1.1,
    (scrubV m p (nV l) src).1.1.1),0),(soundV (holdsV (soundV (passV (layV (scrubV m p (nV l) src).2 (tabV p l inv s) tab).2 p l inv s src dst tab).2 p (nV l) src (scrubV m p (nV l) src).1.1.2).2 (tabV p l inv s) tab).2 p (nV l) dst (passV (layV (scrubV m p (nV l) src).2 (tabV p l inv s) tab).2 p l inv s src dst tab).1.1).2):=by
 unfold turnV
 rw [if_neg (λ e=>e hs),if_pos ⟨h1,h2,h3⟩]
set_option maxHeartbeats 4000000 in
set_option maxRecDepth 20000 in
theorem turn_w {S:St} {b:Nat} {m:Mm} {T:List Nat} (h:MS S b m T) {p:Int} {axes:Option Addr} {an ac:Nat} {l:List Ax} {inv:Bool} {s:Stp} {src dst tab:Int} (har:Ar S axes an 2 eAx l) (hl:an<=8796093022208) (hax:∀ y,axes=some y->l≠[]->y.block∉T) (ht:0<=m.t/\m.t < 576460752303423488) :
 WP (gq5b [.pointer (some ⟨b,0,none⟩),vU p,.slice axes an ac,vB inv,spV s,vI src,vI dst,vI tab]) S λ v S'=>∃ fa,v=vT [vA [vB (turnV m p l inv s src dst tab).1.1.1,.slice fa (turnV m p l inv s src dst tab).1.1.2.length (turnV m p l inv s src dst tab).1.1.2.length],vI (turnV m p l inv s src dst tab).1.2]/\Kp T S S'/\MS S' b (turnV m p l inv s src dst tab).2 T/\OwnF S.length S' fa (turnV m p l inv s src dst tab).1.1.2:=by
 rw [gq5b_eq]
 have hw:=h.w
 have hTlt:=h.lt
 simp only [wps,List.append_assoc,List.cons_append,List.nil_append,List.length_append,List.length_cons,List.length_nil,Nat.zero_add,Nat.reduceAdd,Nat.add_assoc]
 generalize hY:S++[AObj.cells (spC s) 29 none,AObj.cells [vB false,.slice none 0 0] 52 none]=Y
 have p0:S <+: Y:=⟨_,hY⟩
 have z0:Y[S.length]? = some (AObj.cells (spC s) 29 none):=by rw [<- hY]; exact gA0
 have y0:Y[S.length+1]? = some (AObj.cells [vB false,.slice none 0 0] 52 none):=by rw [<- hY]; exact gA
 have hYl:Y.length=S.length+2:=by rw [<- hY]; simp
 have n0:S.length∉T:=λ hx=>by have:=hTlt _ hx;omega
 have n1:S.length+1∉T:=λ hx=>by have:=hTlt _ hx;omega
 have ends:∀ {S':St} {m':Mm} (o:AObj),S'[S.length+1]? = some (AObj.cells [vB false,.slice none 0 0] 52 none)->Kp T S S'->MS S' b m' T->(S'.set (S.length+1) o)[S.length+1]? = some o/\Kp T S (S'.set (S.length+1) o)/\MS (S'.set (S.length+1) o) b m' T:=fun {S' m'} o z k hm=>by
  have hl:=pre_lt z
  refine ⟨List.getElem?_set_self hl,⟨by rw [List.length_set]; exact k.len,λ i hi hn=>by rw [List.getElem?_set_ne (by omega),k.keep i hi hn]⟩,hm.kp (M:=[S.length+1]) ⟨by simp,λ i hi hn=>by rw [List.getElem?_set_ne]; rintro rfl;simp at hn⟩ (λ i hi=>by have:=hTlt i hi;simp;omega)⟩
 simp only [wps,cell_blk z0,gcz,gcs]
 refine (tablen_w (c:=ac) (har.mono p0) hl inv s).use ?_
 rintro _ S1 k1 ⟨tb,tk,rfl,htab,htn⟩
 have p1:=p0.trans k1
 have z1:=pre_get k1 z0
 have y1:=pre_get k1 y0
 have h1:=h.pre p1
 have l1:=p1.length_le
 simp only [wps,y1,List.drop_succ_cons,List.drop_zero,List.drop_nil]
 by_cases hst:stepV p l s≠0
 ·have hV:turnV m p l inv s src dst tab=(((false,[]),stepV p l s),m):=by unfold turnV;rw [if_pos hst]
  rw [hV]
  obtain ⟨q1,q2,q3⟩:=ends (AObj.cells [vB false,.slice none 0 0] 52 none) y1 (Kp.of p1) h1
  simp only [cell_blk q1,gcz,gcs,wps]
  exact ⟨λ _=>⟨none,rfl,q2,q3,.inl ⟨rfl,rfl⟩⟩,λ e=>absurd e hst⟩
 have hst:stepV p l s=0:=Classical.byContradiction hst
 refine ⟨λ e=>absurd hst e,λ _=>?_⟩
 rw [show tableV p l inv s (tabV p l inv s)=tabV p l inv s by unfold tableV;rw [if_pos hst]] at htab ⊢
 have hk:=step_known hst
 obtain ⟨kk,dd,inner,nn,mm,hS⟩:=step_shape hst
 have hnn:=hS.nn
 have hn1:=hS.n1
 have hTs:=tab_small (inv:=inv) hst
 have hanl:=har.1
 have hnd1:∀ x∈ndOf l,1<=x:=λ x hx=>(hS.all x hx).1
 have hpn:=hS.np
 refine wp_loop (λ st S' t=>∃ j:Nat,st=[vN (prodN ((ndOf l).take j)),vN j]/\t=an-j/\j<=an/\S1 <+: S') ?_ an _ _ ⟨0,rfl,rfl,by omega,List.prefix_refl _⟩
 rintro st S2 _ ⟨j,rfl,rfl,hj,k2⟩
 simp only [wps]
 refine ⟨λ h5=>?_,λ h5=>?_⟩
 ·have hj':j < l.length:=by omega
  have hjn:j < (ndOf l).length:=by simp [ndOf]; exact hj'
  obtain ⟨x,rfl,c0,c1⟩:=(har.mono (p1.trans k2)).getAx hj'
  have pr1:=prod_take_le hnd1 (j+1)
  have pr2:=prod_take_succ hjn
  have hN:=nd_get hS hj'
  rw [hpn] at pr1
  have hmul:((prodN ((ndOf l).take j):Nat):Int)*l[j].N=((prodN ((ndOf l).take (j+1)):Nat):Int):=by rw [pr2,Int.natCast_mul,hN]
  have gw:(S2++[AObj.cells [vI 0,vB false] 113 none])[S2.length]? = some (AObj.cells [vI 0,vB false] 113 none):=get_new
  simp only [wps,c0,c1,Int.toNat_natCast,hmul]
  rw [wI_ (n:=((prodN ((ndOf l).take (j+1)):Nat):Int)) (by omega) (by omega),wI_ (n:=(j:Int)+1) (by omega) (by omega)]
  exact ⟨by omega,an-(j+1),by omega,j+1,rfl,rfl,by omega,k2.trans (List.prefix_append _ _)⟩
 have hjn:j=an:=by omega
 have hall:(ndOf l).take j=ndOf l:=List.take_of_length_le (by simp [ndOf]; omega)
 rw [hall,hpn]
 have p2:=p1.trans k2
 have h2:=h1.pre k2
 have z2:=pre_get k2 z1
 have y2:=pre_get k2 y1
 have w6:wI ((nn:Int)+6)=(nn:Int)+6:=wI_ (by omega) (by omega)
 have pb:=List.prefix_append S2 [AObj.cells [.pointer (some ⟨b,0,none⟩),vI src,vI ((nn:Int)+6),.pointer (some ⟨b,0,none⟩),vI dst,vI ((nn:Int)+6),.pointer (some ⟨b,0,none⟩),vI tab,vN (tabV p l inv s).length] 145 none]
 have zb:=get_new (S:=S2) (o:=AObj.cells [.pointer (some ⟨b,0,none⟩),vI src,vI ((nn:Int)+6),.pointer (some ⟨b,0,none⟩),vI dst,vI ((nn:Int)+6),.pointer (some ⟨b,0,none⟩),vI tab,vN (tabV p l inv s).length] 145 none)
 simp only [wps,w6]
 generalize S2++[AObj.cells [.pointer (some ⟨b,0,none⟩),vI src,vI ((nn:Int)+6),.pointer (some ⟨b,0,none⟩),vI dst,vI ((nn:Int)+6),.pointer (some ⟨b,0,none⟩),vI tab,vN (tabV p l inv s).length] 145 none]=S3 at pb zb ⊢
 have p3:=p2.trans pb
 have h3:=h2.pre pb
 have y3:=pre_get pb y2
 have hVe:(m.hasN src (nV l+6)=true/\m.hasN dst (nV l+6)=true/\m.hasN tab (tabV p l inv s).length=true)\/turnV m p l inv s src dst tab=(((false,[]),1),m):=by
  by_cases hc:m.hasN src (nV l+6)=true/\m.hasN dst (nV l+6)=true/\m.hasN tab (tabV p l inv s).length=true
  ·exact .inl hc
  ·right;unfold turnV;rw [if_neg (λ e=>e hst),if_neg hc]
 have cb:∀ (i:Nat) (v:Value),[.pointer (some ⟨b,0,none⟩),vI src,vI ((nn:Int)+6),.pointer (some ⟨b,0,none⟩),vI dst,vI ((nn:Int)+6),.pointer (some ⟨b,0,none⟩),vI tab,vN (tabV p l inv s).length][i]? = some v->∀ {S':St},S3 <+: S'->St.cell S' ⟨S2.length,i,none⟩=some v:=λ i v e S' k=>pre_cell k (by rw [cell_blk zb]; exact e)
 refine wp_round ?_
 have b10:=cb 0 _ rfl (List.prefix_refl S3)
 have b11:=cb 1 _ rfl (List.prefix_refl S3)
 have b12:=cb 2 _ rfl (List.prefix_refl S3)
 simp only [wps,Nat.reduceMul,Nat.reduceAdd,Nat.zero_add,Nat.zero_mul,Int.reduceToNat,Int.reduceLT,Int.reduceLE,b10,b11,b12]
 have q1:=List.prefix_append S3 [AObj.cells [.pointer (some ⟨b,0,none⟩),vI src,vI ((nn:Int)+6)] 145 none]
 refine (rowthere_w (h3.pre q1)).use ?_
 rintro _ S4 k4 rfl
 have p34:=q1.trans k4
 have y4:=pre_get p34 y3
 have h4:=h3.pre p34
 have p4:=p3.trans p34
 have r4:=ends (AObj.cells [vB false,.slice none 0 0] 52 none) y4 (Kp.of p4) h4
 simp only [wps,y4,List.drop_succ_cons,List.drop_zero,List.drop_nil,cell_blk r4.1,gcz,gcs]
 refine ⟨λ e=>?_,λ hc1=>?_⟩
 ·rcases hVe with hc | hV
  ·exact absurd (hnn ▸ hc.1) (by rw [e]; simp)
  ·rw [hV]; exact ⟨none,rfl,r4.2.1,r4.2.2,.inl ⟨rfl,rfl⟩⟩
 refine wp_round ?_
 have b20:=cb 3 _ rfl p34
 have b21:=cb 4 _ rfl p34
 have b22:=cb 5 _ rfl p34
 have w01:wI (0+1)=1:=rfl
 simp only [wps,w01,Nat.reduceMul,Nat.reduceAdd,Nat.zero_add,Nat.zero_mul,Nat.one_mul,Int.reduceToNat,Int.toNat_one,Int.reduceLT,Int.reduceLE,b20,b21,b22]
 have q2:=List.prefix_append S4 [AObj.cells [.pointer (some ⟨b,0,none⟩),vI dst,vI ((nn:Int)+6)] 145 none]
 refine (rowthere_w (h4.pre q2)).use ?_
 rintro _ S5 k5 rfl
 have p45:=q2.trans k5
 have y5:=pre_get p45 y4
 have h5':=h4.pre p45
 have p5:=p4.trans p45
 have r5:=ends (AObj.cells [vB false,.slice none 0 0] 52 none) y5 (Kp.of p5) h5'
 simp only [wps,y5,List.drop_succ_cons,List.drop_zero,List.drop_nil,cell_blk r5.1,gcz,gcs]
 refine ⟨λ e=>?_,λ hc2=>?_⟩
 ·rcases hVe with hc | hV
  ·exact absurd (hnn ▸ hc.2.1) (by rw [e]; simp)
  ·rw [hV]; exact ⟨none,rfl,r5.2.1,r5.2.2,.inl ⟨rfl,rfl⟩⟩
 refine wp_round ?_
 have p35:=p34.trans p45
 have b30:=cb 6 _ rfl p35
 have b31:=cb 7 _ rfl p35
 have b32:=cb 8 _ rfl p35
 have w11:wI (1+1)=2:=rfl
 simp only [wps,w11,Nat.reduceMul,Nat.reduceAdd,Nat.zero_add,Nat.zero_mul,Nat.one_mul,Int.reduceToNat,Int.reduceLT,Int.reduceLE,b30,b31,b32]
 have q3:=List.prefix_append S5 [AObj.cells [.pointer (some ⟨b,0,none⟩),vI tab,vN (tabV p l inv s).length] 145 none]
 refine (rowthere_w (h5'.pre q3)).use ?_
 rintro _ S6 k6 rfl
 have p56:=q3.trans k6
 have y6:=pre_get p56 y5
 have h6:=h5'.pre p56
 have p6:=p5.trans p56
 have r6:=ends (AObj.cells [vB false,.slice none 0 0] 52 none) y6 (Kp.of p6) h6
 simp only [wps,y6,List.drop_succ_cons,List.drop_zero,List.drop_nil,cell_blk r6.1,gcz,gcs]
 refine ⟨λ e=>?_,λ hc3=>?_⟩
 ·rcases hVe with hc | hV
  ·exact absurd (hc.2.2) (by rw [e]; simp)
  ·rw [hV]; exact ⟨none,rfl,r6.2.1,r6.2.2,.inl ⟨rfl,rfl⟩⟩
 refine wp_round ?_
 have w21:wI (2+1)=3:=rfl
 simp only [wps,w21,Int.reduceLT]
 clear hVe
 have hc1':m.hasN src (nV l+6)=true:=by rw [hnn]; exact hc1
 have hc2':m.hasN dst (nV l+6)=true:=by rw [hnn]; exact hc2
 have hVt:=turnV_eq (inv:=inv) hst hc1' hc2' hc3
 generalize turnV m p l inv s src dst tab=V at hVt ⊢
 rw [hnn] at hVt
 obtain ⟨a1,a2,a3⟩:=scrub_t (n:=nn) hk (by omega) hc1
 refine (scrub_w (p:=p) (n:=(nn:Int)) (a:=src) h6 (by omega)).mono ?_
 rintro _ S7 ⟨fx,rfl,k7,h7,o7⟩
 generalize scrubV m p nn src=A at hVt a1 a2 a3 h7 o7 ⊢
 have kp7:=(Kp.of p6).trans k7
 have y7:=k7.get y6 n1
 have l6:=p6.length_le
 have ly6:=pre_lt y6
 simp only [wps]
 have q7:=List.prefix_append S7 [AObj.cells [vU A.1.1.2.1,vU A.1.1.2.2] 40 none]
 have z7:=get_new (S:=S7) (o:=AObj.cells [vU A.1.1.2.1,vU A.1.1.2.2] 40 none)
 have z7n:S7.length∉T:=λ hx=>by have:=hTlt _ hx;have:=k7.len;omega
 have hS7l:S6.length<=S7.length:=k7.len
 generalize hY8:S7++[AObj.cells [vU A.1.1.2.1,vU A.1.1.2.2] 40 none]=S8 at q7 z7 ⊢
 have y8:=pre_get q7 y7
 have h8:=h7.pre q7
 have kp8:=kp7.more q7
 have o8:=o7.pre q7
 have r8:=ends (AObj.cells [vB false,.slice none 0 0] 52 none) y8 kp8 h8
 simp only [wps,y8,List.drop_succ_cons,List.drop_zero,List.drop_nil,cell_blk r8.1,gcz,gcs]
 refine ⟨λ e=>?_,λ e=>?_⟩
 ·rw [if_pos e] at hVt
  rw [hVt]
  exact ⟨none,rfl,r8.2.1,r8.2.2,.inl ⟨rfl,rfl⟩⟩
 rw [if_neg (λ h=>h e)] at hVt
 have a3:A.2.t=m.t+nn+6+A.1.1.1.length:=by
  rcases a3 with a3 | a3
  ·exact a3.2
  ·rw [e] at a3;exact absurd a3.1 (by decide)
 have htu:∀ y∈tabV p l inv s,Go.Proofs.YtpecnaacgkgjmaaGreatDoor.u64r y:=λ y hy=>u64_of hk (tab_in hk y hy)
 have hTT:∀ y,tb=some y->tabV p l inv s≠[]->y.block∉T:=λ y hy _ hm=>by have:=htn y hy;have:=hTlt _ hm;omega
 have kp18:Kp T S1 S8:=((Kp.of (k2.trans (pb.trans (p34.trans (p45.trans p56))))).trans k7).more q7
 have htab8:=kp18.ar htab (λ hne y hy=>hTT y hy hne)
 obtain ⟨b1,b2,b3⟩:=lay_t (m:=A.2) (l:=tabV p l inv s) (a:=tab) (by rw [hasN_len a1]; exact hc3)
 refine (lay_w (lc:=tk) h8 htab8 hTT htu (by omega) (by omega)).mono ?_
 rintro _ S9 ⟨rfl,k9,h9⟩
 rw [b1]
 generalize (layV A.2 (tabV p l inv s) tab).2=L at hVt b2 b3 h9
 have bL:L.W.length=m.W.length:=b2.trans a1
 have kp9:=kp8.trans k9
 have y9:=k9.get y8 n1
 have z9:=k9.get z7 z7n
 have zS6:=pre_get ((k2.trans (pb.trans (p34.trans (p45.trans p56))))) z1
 have zS9:=k9.get (pre_get q7 (k7.get zS6 n0)) n0
 have har9:=kp9.ar har (λ hne y hy=>hax y hy hne)
 simp only [wps,cell_blk zS9,gcz,gcs]
 refine (run_w (p:=p) (c:=ac) (inv:=inv) (s:=s) (src:=src) (dst:=dst) (tab:=tab) h9 har9 hl hax ⟨by omega,by omega⟩).mono ?_
 rintro _ S10 ⟨rfl,k10,h10⟩
 have v0:(passV L p l inv s src dst tab).1.2=0:=pass_zero hst (by rw [hasN_len bL]; exact hc1') (by rw [hasN_len bL]; exact hc2') (by rw [hasN_len bL]; exact hc3)
 have vt:(passV L p l inv s src dst tab).2.t=L.t+3*nn+6/\(passV L p l inv s src dst tab).2.W.length=L.W.length:=by
  rcases passV_facts (m:=L) (p:=p) (l:=l) (inv:=inv) (s:=s) (src:=src) (dst:=dst) (tab:=tab) with ⟨hf,_⟩ | hf
  ·exact absurd v0 hf
  ·exact ⟨by rw [hf.2.1,hnn],hf.2.2.1⟩
 rw [v0]
 generalize passV L p l inv s src dst tab=P at hVt v0 vt h10 ⊢
 obtain ⟨vt1,vt2⟩:=vt
 have bP:P.2.W.length=m.W.length:=vt2.trans bL
 have kp10:=kp9.trans k10
 have y10:=k10.get y9 n1
 have z10:=k10.get z9 z7n
 simp only [wps]
 have q11:=List.prefix_append S10 [AObj.cells [vU P.1.1.1,vU P.1.1.2] 40 none]
 have x11:=get_new (S:=S10) (o:=AObj.cells [vU P.1.1.1,vU P.1.1.2] 40 none)
 have x11n:S10.length∉T:=λ hx=>by have:=hTlt _ hx;have:=kp10.len;omega
 generalize S10++[AObj.cells [vU P.1.1.1,vU P.1.1.2] 40 none]=S11 at q11 x11 ⊢
 have y11:=pre_get q11 y10
 have z11:=pre_get q11 z10
 have h11:=h10.pre q11
 have kp11:=kp10.more q11
 have hsrcn:P.2.hasN src (nn:Int)=true:=by rw [hasN_len bP]; exact hasN_less hc1 ⟨by omega,by omega⟩
 obtain ⟨s1,s2,s3⟩:=sound_t (m:=P.2) (s:=A.1.1.2) hk (n:=nn) (by omega) hsrcn
 simp only [wps,cell_blk z11,gcz,gcs]
 refine (sound_w (p:=p) (n:=(nn:Int)) (a:=src) (s:=A.1.1.2) h11 ⟨by omega,by omega⟩).mono ?_
 rintro _ S12 ⟨rfl,k12,h12⟩
 rw [s1]
 generalize soundV P.2 p nn src A.1.1.2=B at hVt s2 s3 h12 ⊢
 have bB:B.2.W.length=m.W.length:=s2.trans bP
 have kp12:=kp11.trans k12
 have y12:=k12.get y11 n1
 have x12:=k12.get x11 x11n
 have kp1c:Kp T S1 S12:=((kp18.trans k9).trans k10 |>.more q11).trans k12
 have htab12:=kp1c.ar htab (λ hne y hy=>hTT y hy hne)
 obtain ⟨u1,u2,u3⟩:=holds_t (m:=B.2) (l:=tabV p l inv s) (a:=tab) (by rw [hasN_len bB]; exact hc3)
 simp only [wps]
 refine (holds_w (lc:=tk) (a:=tab) h12 htab12 hTT ⟨by omega,by omega⟩ (by omega)).mono ?_
 rintro _ S13 ⟨rfl,k13,h13⟩
 rw [u1]
 generalize holdsV B.2 (tabV p l inv s) tab=C at hVt u2 u3 h13 ⊢
 have bC:C.2.W.length=m.W.length:=u2.trans bB
 have kp13:=kp12.trans k13
 have y13:=k13.get y12 n1
 have x13:=k13.get x12 x11n
 have hdstn:C.2.hasN dst (nn:Int)=true:=by rw [hasN_len bC]; exact hasN_less hc2 ⟨by omega,by omega⟩
 obtain ⟨d1,d2,d3⟩:=sound_t (m:=C.2) (s:=P.1.1) hk (n:=nn) (by omega) hdstn
 simp only [wps,cell_blk x13,gcz,gcs]
 refine (sound_w (p:=p) (n:=(nn:Int)) (a:=dst) (s:=P.1.1) h13 ⟨by omega,by omega⟩).mono ?_
 rintro _ S14 ⟨rfl,k14,h14⟩
 rw [d1]
 generalize soundV C.2 p nn dst P.1.1=D at hVt d2 d3 h14 ⊢
 have kp14:=kp13.trans k14
 have y14:=k14.get y13 n1
 have k814:Kp T S8 S14:=((((k9.trans k10).more q11).trans k12).trans k13).trans k14
 have o14:OwnF S6.length S14 fx A.1.1.1:=o8.keep λ i hi=>k814.keep i (o8.lt i hi).2 (λ hm=>by have:=(o8.lt i hi).1;have:=hTlt _ hm;omega)
 have own:∀ o:AObj,OwnF S.length (S14.set (S.length+1) o) fx A.1.1.1:=λ o=>by
  have:=o14.keep (S':=S14.set (S.length+1) o) λ i hi=>by
   have:=(o14.lt i hi).1
   rw [List.getElem?_set_ne (by omega)]
  exact this.imp id λ ⟨b,e1,e2,e3⟩=>⟨b,e1,by omega,e3⟩
 have fin:∀ u:Bool,u=(B.1.1 && C.1.1 && D.1.1)->∃ fa,vT [vA [vB u,.slice fx A.1.1.1.length A.1.1.1.length],vI 0]=vT [vA [vB V.1.1.1,.slice fa V.1.1.2.length V.1.1.2.length],vI V.1.2]/\Kp T S (S14.set (S.length+1) (AObj.cells [vB u,.slice fx A.1.1.1.length A.1.1.1.length] 52 none))/\MS (S14.set (S.length+1) (AObj.cells [vB u,.slice fx A.1.1.1.length A.1.1.1.length] 52 none)) b V.2 T/\OwnF S.length (S14.set (S.length+1) (AObj.cells [vB u,.slice fx A.1.1.1.length A.1.1.1.length] 52 none)) fa V.1.1.2:=λ u hu=>by
  have r14:=ends (AObj.cells [vB u,.slice fx A.1.1.1.length A.1.1.1.length] 52 none) y14 kp14 h14
  rw [hVt,hu]
  rw [hu] at r14
  exact ⟨fx,rfl,r14.2.1,r14.2.2,own _⟩
 have rr:=λ u:Bool=>(ends (AObj.cells [vB u,.slice fx A.1.1.1.length A.1.1.1.length] 52 none) y14 kp14 h14).1
 simp only [wps,y14,List.drop_succ_cons,List.drop_zero,List.drop_nil,λ u=>cell_blk (rr u),gcz,gcs]
 refine ⟨λ e1=>⟨λ e2=>fin _ (by rw [e1,e2]; rfl),λ e2=>fin _ (by rw [e1,e2]; rfl)⟩,λ e1=>fin _ (by rw [e1]; rfl)⟩
theorem turn_ticks {m:Mm} {p:Int} {l:List Ax} {inv:Bool} {s:Stp} {src dst tab:Int} (hs:stepV p l s=0) (h1:m.hasN src (nV l+6)=true) (h2:m.hasN dst (nV l+6)=true) (h3:m.hasN tab (tabV p l inv s).length=true) :
 (turnV m p l inv s src dst tab).1.2=0/\(turnV m p l inv s src dst tab).1.1.2.length<=3/\(turnV m p l inv s src dst tab).2.W.length=m.W.length /\
 (((turnV m p l inv s src dst tab).1.1.1=false/\(turnV m p l inv s src dst tab).1.1.2=[]/\(turnV m p l inv s src dst tab).2.t=m.t+nV l+6) \/
  (turnV m p l inv s src dst tab).2.t=m.t+6*nV l+12+2*(tabV p l inv s).length+(turnV m p l inv s src dst tab).1.1.2.length):=by
 have hk:=step_known hs
 obtain ⟨kk,dd,inner,nn,mm,hS⟩:=step_shape hs
 have hnn:=hS.nn
 have hn1:=hS.n1
 have hV:=turnV_eq (inv:=inv) hs h1 h2 h3
 generalize turnV m p l inv s src dst tab=V at hV ⊢
 have v0:∀ L:Mm,L.W.length=m.W.length->(passV L p l inv s src dst tab).1.2=0:=λ L hL=>pass_zero hs (by rw [hasN_len hL]; exact h1) (by rw [hasN_len hL]; exact h2) (by rw [hasN_len hL]; exact h3)
 rw [hnn] at hV h1 h2 ⊢
 obtain ⟨a1,a2,a3⟩:=scrub_t (n:=nn) hk (by omega) h1
 generalize scrubV m p nn src=A at hV a1 a2 a3
 by_cases e:A.1.2≠0
 ·rw [if_pos e] at hV
  rw [hV]
  rcases a3 with a3 | a3
  ·exact absurd a3.1 e
  ·exact ⟨rfl,by simp,a1,.inl ⟨rfl,rfl,a3.2.1⟩⟩
 rw [if_neg e] at hV
 have a3:A.2.t=m.t+nn+6+A.1.1.1.length:=by
  rcases a3 with a3 | a3
  ·exact a3.2
  ·exact absurd (by rw [a3.1]; decide) e
 obtain ⟨b1,b2,b3⟩:=lay_t (m:=A.2) (l:=tabV p l inv s) (a:=tab) (by rw [hasN_len a1]; exact h3)
 generalize (layV A.2 (tabV p l inv s) tab).2=L at hV b2 b3
 have bL:L.W.length=m.W.length:=b2.trans a1
 have v0:=v0 L bL
 have vt:(passV L p l inv s src dst tab).2.t=L.t+3*nn+6/\(passV L p l inv s src dst tab).2.W.length=L.W.length:=by
  rcases passV_facts (m:=L) (p:=p) (l:=l) (inv:=inv) (s:=s) (src:=src) (dst:=dst) (tab:=tab) with ⟨hf,_⟩ | hf
  ·exact absurd v0 hf
  ·exact ⟨by rw [hf.2.1,hnn],hf.2.2.1⟩
 generalize passV L p l inv s src dst tab=P at hV v0 vt
 obtain ⟨vt1,vt2⟩:=vt
 have bP:P.2.W.length=m.W.length:=vt2.trans bL
 obtain ⟨s1,s2,s3⟩:=sound_t (m:=P.2) (s:=A.1.1.2) hk (n:=nn) (a:=src) (by omega) (by rw [hasN_len bP]; exact hasN_less h1 ⟨by omega,by omega⟩)
 generalize soundV P.2 p nn src A.1.1.2=B at hV s2 s3
 have bB:B.2.W.length=m.W.length:=s2.trans bP
 obtain ⟨u1,u2,u3⟩:=holds_t (m:=B.2) (l:=tabV p l inv s) (a:=tab) (by rw [hasN_len bB]; exact h3)
 generalize holdsV B.2 (tabV p l inv s) tab=C at hV u2 u3
 have bC:C.2.W.length=m.W.length:=u2.trans bB
 obtain ⟨d1,d2,d3⟩:=sound_t (m:=C.2) (s:=P.1.1) hk (n:=nn) (a:=dst) (by omega) (by rw [hasN_len bC]; exact hasN_less h2 ⟨by omega,by omega⟩)
 generalize soundV C.2 p nn dst P.1.1=D at hV d2 d3
 rw [hV]
 refine ⟨rfl,a2,d2.trans bC,.inr ?_⟩
 dsimp only
 omega
theorem row_nil {m:Mm} (h:m.L=[]) {d n:Nat} (hl:d+n<=m.W.length):m.rds (rowO (d:Int) n)=((m.W.drop d).take n,⟨m.W,[],m.t+n,m.ah⟩):=by
 have:=gI_row (I:=m.W) (d:=d) (n:=n) hl
 rw [rds_nil _ _ h,rowO_len]
 exact Prod.ext this rfl
theorem win_mend {k d:Nat}:∀ (fx:List Fx) (W:List Int),(∀ f∈fx,0<=f.ad/\f.ad < k)->((wset W ((fx.map (Fx.up (d:Int))).map Fx.st)).drop d).take k=mend ((W.drop d).take k) fx
 | [], W, _ => rfl
 | f :: fx, W, h => by
   have hf:=h f (by simp)
   have e1:wset W (((f :: fx).map (Fx.up (d:Int))).map Fx.st)=wset (W.set (f.ad+(d:Int)).toNat f.good) ((fx.map (Fx.up (d:Int))).map Fx.st):=rfl
   rw [e1,win_mend fx _ λ g hg=>h g (by simp [hg]),win_set,if_pos ⟨by omega,by omega⟩]
   show _=mend (((W.drop d).take k).set f.ad.toNat f.good) fx
   rw [show (f.ad+(d:Int)).toNat-d=f.ad.toNat by omega]
theorem win_row {d:Nat} {l W:List Int} (h:d+l.length<=W.length):((wset W ((rowO (d:Int) l.length).zip l)).drop d).take l.length=l:=by
 have hz:(rowO (d:Int) l.length).zip l=((List.range l.length).zip l).map (shf (d:Int)):=zip_shf _ _ _
 have hfst:((List.range l.length).zip l).map (·.1)=List.range l.length:=by rw [List.map_fst_zip]; simp
 rw [hz,wset_shf _ _ h (λ e he=>List.mem_range.1 (List.of_mem_zip he).1)]
 apply List.ext_getElem?
 intro i
 by_cases hi:i < l.length
 ·have hm:(i,l[i])∈(List.range l.length).zip l:=by
   refine List.mem_iff_getElem.2 ⟨i,by simp;exact hi,by simp⟩
  have:=scat_at ((List.range l.length).zip l) ((W.drop d).take l.length) (by rw [hfst]; exact List.nodup_range) _ hm (by simp;omega)
  rw [this,List.getElem?_eq_getElem hi]
 ·rw [List.getElem?_eq_none (by rw [scat_len]; simp;omega),List.getElem?_eq_none (by omega)]
theorem wset_out {d n:Nat} {l:List (Int×Int)} {W:List Int} (h:∀ e∈l,(d:Int)<=e.1/\e.1 < (d:Int)+n) {i:Nat} (hi:i < d\/d+n<=i):(wset W l)[i]? = W[i]?:=
 wset_other l W i λ e he=>by have:=h e he;omega
theorem win_same {W V:List Int} {d n:Nat} (h:∀ i,d<=i->i < d+n->W[i]? = V[i]?):(W.drop d).take n=(V.drop d).take n:=by
 apply List.ext_getElem?
 intro i
 rw [List.getElem?_take,List.getElem?_take]
 split
 ·rename_i hi
  rw [List.getElem?_drop,List.getElem?_drop]
  exact h _ (by omega) (by omega)
 ·rfl
theorem scrub_nil {m:Mm} (hL:m.L=[]) {p:Int} {n d:Nat} {good:List Int} {fx:List Fx} (hk:known p=true) (hn:1<=n/\n<=4096) (hl:d+n+6<=m.W.length) (hw:∀ y∈m.W,0<=y) (hf:fixV p ((m.W.drop d).take (n+6))=((good,fx),0)) :
 (scrubV m p n d).1=((fx.map (Fx.up d),(good.getD n 0,good.getD (n+3) 0)),0)/\(scrubV m p n d).2.L=[]/\(scrubV m p n d).2.W.length=m.W.length/\((scrubV m p n d).2.W.drop d).take (n+6)=good/\∀ i,(i < d\/d+n+6<=i)->(scrubV m p n d).2.W[i]? = m.W[i]?:=by
 have hN:m.hasN (d:Int) ((n:Int)+6)=true:=by unfold Mm.hasN;apply decide_eq_true;omega
 obtain ⟨x,_,g1,g2,g3,g4,g5,g6,g7,g8⟩:=fix_sound (λ y hy=>hw y (List.mem_of_mem_drop (List.mem_of_mem_take hy))) hf
 have hcl:((m.W.drop d).take (n+6)).length=n+6:=by simp;omega
 unfold scrubV
 rw [if_neg (by rw [hk]; simp),if_neg (by rw [hN]; simp;omega)]
 dsimp only
 rw [Int.toNat_natCast,row_nil hL (by omega)]
 dsimp only
 rw [hf,if_neg (by simp)]
 dsimp only
 rw [wrs_nil _ _ rfl]
 refine ⟨rfl,rfl,wset_len _ _,?_,λ i hi=>?_⟩
 ·dsimp only
  rw [win_mend fx m.W λ f hf=>by have:=g7 f hf;omega]
  exact g8
 ·dsimp only
  refine wset_out (n:=n+6) (λ e he=>?_) (by omega)
  obtain ⟨f,hf1,rfl⟩:=List.mem_map.1 he
  obtain ⟨f',hf2,rfl⟩:=List.mem_map.1 hf1
  have:=g7 f' hf2
  show (d:Int)<=f'.ad+d/\f'.ad+d < _
  omega
theorem lay_nil {m:Mm} (hL:m.L=[]) {l:List Int} {d:Nat} (hl:d+l.length<=m.W.length):(layV m l d).2.L=[]/\(layV m l d).2.W.length=m.W.length/\((layV m l d).2.W.drop d).take l.length=l/\∀ i,(i < d\/d+l.length<=i)->(layV m l d).2.W[i]? = m.W[i]?:=by
 have hN:m.hasN (d:Int) (l.length:Int)=true:=by unfold Mm.hasN;apply decide_eq_true;omega
 unfold layV
 rw [if_pos hN]
 dsimp only
 rw [wrs_nil _ _ hL]
 refine ⟨rfl,wset_len _ _,win_row hl,λ i hi=>?_⟩
 dsimp only
 refine wset_out (n:=l.length) (λ e he=>?_) hi
 obtain ⟨j,hj,hx⟩:=List.mem_map.1 (List.of_mem_zip he).1
 have:=List.mem_range.1 hj
 rw [<- hx]; omega
theorem pass_L {m:Mm} (hL:m.L=[]) {p:Int} {l:List Ax} {inv:Bool} {s:Stp} {src dst tab:Int}:(passV m p l inv s src dst tab).2.L=[]:=by
 unfold passV
 split
 ·rename_i hs
  split
  ·dsimp only
   obtain ⟨k,dd,inner,nn,mm,hS⟩:=step_shape hs
   obtain ⟨gf1,_⟩:=grps_facts hS
   obtain ⟨L,a1,a2,a3,a4⟩:=steps_nil (inv:=inv) (src:=src) (dst:=dst) (tab:=tab) (step_known hs) (grpsV l s) (m,List.replicate (nV l).toNat 0) gf1 hL
   have a4:(passG p inv s.tw src dst tab m (nV l).toNat (grpsV l s)).1.L=[]:=a4
   rw [wrs_nil _ _ a4]
  ·exact hL
 ·exact hL
theorem agrees_ok {p:Int} (hk:known p=true) {x:List Int} (hx:∀ y∈x,inP p y) (hl:x.length<=4096):agreesV p (sumsV p x) x=true:=by
 unfold agreesV
 rw [hk,decide_eq_true hl,decide_eq_true (show ∀ y∈x,y < p from λ y hy=>(hx y hy).2)]
 simp
theorem turn_quiet {m:Mm} (hL:m.L=[]) {p:Int} {l:List Ax} {inv:Bool} {s:Stp} {sr d tb n:Nat} {good:List Int} {fx:List Fx} {x:List Int} (hst:stepV p l s=0) (hn:nV l=(n:Int)) (hw:∀ y∈m.W,0<=y)
 (h1:sr+n+6<=m.W.length) (h2:d+n+6<=m.W.length) (h3:tb+(tabV p l inv s).length<=m.W.length)
 (hd:d+n+6<=sr\/sr+n+6<=d) (ht:d+n+6<=tb\/tb+(tabV p l inv s).length<=d) (hs:sr+n+6<=tb\/tb+(tabV p l inv s).length<=sr)
 (hf:fixV p ((m.W.drop sr).take (n+6))=((good,fx),0)) (hx:good=x++sx (sumsV p x)) (hxi:∀ y∈x,inP p y) (hxl:x.length=n) :
 (turnV m p l inv s sr d tb).1=((true,fx.map (Fx.up sr)),0)/\(turnV m p l inv s sr d tb).2.L=[]/\(turnV m p l inv s sr d tb).2.W.length=m.W.length /\
 ((turnV m p l inv s sr d tb).2.W.drop d).take (n+6)=doG p inv s.tw n (grpsV l s) (tabV p l inv s) x++sixL (sumsV p (doG p inv s.tw n (grpsV l s) (tabV p l inv s) x)):=by
 have hk:=step_known hst
 obtain ⟨kk,dd,inner,nn,mm,hS⟩:=step_shape hst
 have hnn:=hS.nn
 have hn1:=hS.n1
 obtain rfl:nn=n:=by omega
 have hN:∀ (m':Mm) (a k:Nat),m'.W.length=m.W.length->a+k<=m.W.length->m'.hasN (a:Int) (k:Int)=true:=λ m' a k e h=>by unfold Mm.hasN;apply decide_eq_true;omega
 have c1:m.hasN sr (nV l+6)=true:=by rw [hn]; exact hN m sr (nn+6) rfl (by omega)
 have c2:m.hasN d (nV l+6)=true:=by rw [hn]; exact hN m d (nn+6) rfl (by omega)
 have c3:m.hasN tb (tabV p l inv s).length=true:=hN m tb _ rfl (by omega)
 have hV:=turnV_eq (inv:=inv) hst c1 c2 c3
 generalize turnV m p l inv s sr d tb=V at hV ⊢
 rw [hn] at hV
 obtain ⟨a1,a2,a3,a4,a5⟩:=scrub_nil hL hk (by omega) h1 hw hf
 generalize scrubV m p nn sr=A at hV a1 a2 a3 a4 a5
 rw [a1] at hV
 dsimp only at hV
 rw [if_neg (by simp)] at hV
 obtain ⟨q1,q2⟩:=sx_get (sumsV p x) x
 rw [hxl] at q1 q2
 rw [hx,q1,q2] at hV
 obtain ⟨b1,b2,b3,b4⟩:=lay_nil a2 (l:=tabV p l inv s) (d:=tb) (by omega)
 generalize (layV A.2 (tabV p l inv s) tb).2=L at hV b1 b2 b3 b4
 have bL:L.W.length=m.W.length:=b2.trans a3
 have wx:(L.W.drop sr).take (nn+6)=x++sx (sumsV p x):=by
  rw [<- hx,<- a4]
  exact win_same λ i hi1 hi2=>b4 i (by omega)
 have wx1:(L.W.drop sr).take nn=x:=by
  have : (L.W.drop sr).take nn=((L.W.drop sr).take (nn+6)).take nn:=by rw [List.take_take]; congr 1;omega
  rw [this,wx,<- hxl,List.take_left]
 obtain ⟨p1,p2⟩:=passQ b1 hst hn (by omega) (by omega) (by omega) wx1 hxi b3 hd ht
 obtain ⟨w,d',e1,e2,_,_,w1,_,_,_,w2,_⟩:=passW b1 (p:=p) (l:=l) (inv:=inv) (s:=s) (src:=(sr:Int)) (dst:=(d:Int)) (tab:=(tb:Int)) (by rw [p1])
 obtain rfl:w=nn:=by omega
 obtain rfl:d'=d:=by omega
 have pL:=pass_L b1 (p:=p) (l:=l) (inv:=inv) (s:=s) (src:=(sr:Int)) (dst:=(d':Int)) (tab:=(tb:Int))
 generalize hyd:doG p inv s.tw w (grpsV l s) (tabV p l inv s) x=y at p1 p2 ⊢
 have hyi:∀ v∈y,inP p v:=by rw [<- hyd]; exact doG_in hk
 have hyl:y.length=w:=by rw [<- hyd]; exact doG_length ..
 generalize passV L p l inv s sr d' tb=P at hV p1 p2 w1 w2 pL
 rw [p1] at hV
 dsimp only at hV
 have bP:P.2.W.length=m.W.length:=w1.trans bL
 have s1:soundV P.2 p w sr (sumsV p x)=((true,0),⟨P.2.W,[],P.2.t+w,P.2.ah⟩):=by
  unfold soundV
  rw [if_neg (by rw [hk]; simp),if_neg (by rw [hN P.2 sr w bP (by omega)]; simp;omega),Int.toNat_natCast,row_nil pL (by omega)]
  have : (P.2.W.drop sr).take w=x:=by rw [<- wx1]; exact win_same λ i hi1 hi2=>w2 i (by omega)
  rw [this,agrees_ok hk hxi (by omega)]
 have hs1:soundV P.2 p w sr ((sumsV p x).1,(sumsV p x).2)=((true,0),⟨P.2.W,[],P.2.t+w,P.2.ah⟩):=s1
 rw [hs1] at hV
 dsimp only at hV
 have u1:holdsV ⟨P.2.W,[],P.2.t+w,P.2.ah⟩ (tabV p l inv s) tb=((true,0),⟨P.2.W,[],P.2.t+w+(tabV p l inv s).length,P.2.ah⟩):=by
  unfold holdsV
  rw [if_pos (hN ⟨P.2.W,[],P.2.t+w,P.2.ah⟩ tb (tabV p l inv s).length bP (by omega)),row_nil rfl (by dsimp only;omega)]
  have : (P.2.W.drop tb).take (tabV p l inv s).length=tabV p l inv s:=(win_same λ i hi1 hi2=>w2 i (by omega)).trans b3
  dsimp only
  rw [this]
  simp
 rw [u1] at hV
 dsimp only at hV
 have d1:soundV ⟨P.2.W,[],P.2.t+w+(tabV p l inv s).length,P.2.ah⟩ p w d' (sumsV p y)=((true,0),⟨P.2.W,[],P.2.t+w+(tabV p l inv s).length+w,P.2.ah⟩):=by
  unfold soundV
  rw [if_neg (by rw [hk]; simp),if_neg (by rw [hN ⟨P.2.W,[],P.2.t+w+(tabV p l inv s).length,P.2.ah⟩ d' w bP (by omega)]; simp;omega),Int.toNat_natCast,row_nil rfl (by dsimp only;omega)]
  have : (P.2.W.drop d').take w=y:=by
   have : (P.2.W.drop d').take w=((P.2.W.drop d').take (w+6)).take w:=by rw [List.take_take]; congr 1;omega
   rw [this,p2,<- hyl,List.take_left]
  dsimp only
  rw [this,agrees_ok hk hyi (by omega)]
 rw [d1] at hV
 rw [hV]
 exact ⟨rfl,rfl,bP,p2⟩
theorem liveT_nV:nV [⟨2,false⟩]=((2:Nat):Int):=by decide +kernel
theorem liveT_do:doG P1 false false 2 (grpsV [⟨2,false⟩] ⟨0,false,⟨2,1,1⟩⟩) (tabV P1 [⟨2,false⟩] false ⟨0,false,⟨2,1,1⟩⟩) [3,5]=[8,998244351]:=by
 rw [live_tab,live_grp]
 unfold doG
 simp only [List.flatMap_cons,List.flatMap_nil,List.append_nil]
 unfold gpairs
 simp only [List.map_cons,List.map_nil,List.getD_cons_zero,List.getD_cons_succ]
 rw [live_fly]
 decide +kernel
set_option maxHeartbeats 2000000 in
theorem out_w {S:St} {b:Nat} {m:Mm} {T:List Nat} (h:MS S b m T) {p a:Int} {n:Nat} (hk:known p=true) (hn:1<=n/\n<=4096) (hN:m.hasN a ((n:Int)+6)=true) (ht:0<=m.t/\m.t < 576460752303423488) :
 WP (gq5f [.pointer (some ⟨b,0,none⟩),vU p,vN n,vI a]) S λ v S'=>∃ ya fa,v=vT [.slice ya (outV m p n a).1.1.1.length (outV m p n a).1.1.1.length,vA [vB (outV m p n a).1.1.2.1,.slice fa (outV m p n a).1.1.2.2.length (outV m p n a).1.1.2.2.length],vI (outV m p n a).1.2]/\Kp T S S'/\MS S' b (outV m p n a).2 T/\Ar S' ya (outV m p n a).1.1.1.length 1 eU (outV m p n a).1.1.1/\OwnF S.length S' fa (outV m p n a).1.1.2.2/\∀ y,ya=some y->S.length<=y.block:=by
 rw [gq5f_eq]
 have hw:=h.w
 have hTlt:=h.lt
 have p0:=List.prefix_append S [AObj.cells [vB false,.slice none 0 0] 52 none]
 have y0:=get_new (S:=S) (o:=AObj.cells [vB false,.slice none 0 0] 52 none)
 have n0:S.length∉T:=λ hx=>by have:=hTlt _ hx;omega
 have ends:∀ {S':St} {m':Mm} (o:AObj),S'[S.length]? = some (AObj.cells [vB false,.slice none 0 0] 52 none)->Kp T S S'->MS S' b m' T->(S'.set S.length o)[S.length]? = some o/\Kp T S (S'.set S.length o)/\MS (S'.set S.length o) b m' T:=fun {S' m'} o z k hm=>by
  have hl:=pre_lt z
  refine ⟨List.getElem?_set_self hl,⟨by rw [List.length_set]; exact k.len,λ i hi hn=>by rw [List.getElem?_set_ne (by omega),k.keep i hi hn]⟩,hm.kp (M:=[S.length]) ⟨by simp,λ i hi hn=>by rw [List.getElem?_set_ne]; rintro rfl;simp at hn⟩ (λ i hi=>by have:=hTlt i hi;simp;omega)⟩
 obtain ⟨a1,a2,a3⟩:=scrub_t hk hn hN
 simp only [wps]
 have hYl:(S++[AObj.cells [vB false,.slice none 0 0] 52 none]).length=S.length+1:=by simp
 generalize S++[AObj.cells [vB false,.slice none 0 0] 52 none]=Y at p0 y0 hYl ⊢
 have hO:outV m p n a=if (scrubV m p n a).1.2=10 then ((([],(false,[])),0),(scrubV m p n a).2) else if (scrubV m p n a).1.2≠0 then ((([],(false,[])),(scrubV m p n a).1.2),(scrubV m p n a).2) else
  if agreesV p (scrubV m p n a).1.1.2 ((scrubV m p n a).2.rds (rowO a n)).1=true then (((((scrubV m p n a).2.rds (rowO a n)).1,(true,(scrubV m p n a).1.1.1)),0),((scrubV m p n a).2.rds (rowO a n)).2)
  else ((([],(false,(scrubV m p n a).1.1.1)),0),((scrubV m p n a).2.rds (rowO a n)).2):=by
  unfold outV
  rw [Int.toNat_natCast]
 generalize outV m p n a=O at hO ⊢
 refine (scrub_w (p:=p) (n:=(n:Int)) (a:=a) (h.pre p0) (by omega)).mono ?_
 rintro _ S1 ⟨fx,rfl,k1,h1,o1⟩
 generalize scrubV m p n a=A at hO a1 a2 a3 h1 o1 ⊢
 have kp1:=(Kp.of p0).trans k1
 have y1:=k1.get y0 n0
 simp only [wps]
 have q2:=List.prefix_append S1 [AObj.cells [vU A.1.1.2.1,vU A.1.1.2.2] 40 none]
 have z2:=get_new (S:=S1) (o:=AObj.cells [vU A.1.1.2.1,vU A.1.1.2.2] 40 none)
 have z2n:S1.length∉T:=λ hx=>by have:=hTlt _ hx;have:=kp1.len;omega
 have l1:=kp1.len
 generalize S1++[AObj.cells [vU A.1.1.2.1,vU A.1.1.2.2] 40 none]=S2 at q2 z2 ⊢
 have kp2:=kp1.more q2
 have y2:=pre_get q2 y1
 have h2:=h1.pre q2
 have o2:=o1.pre q2
 refine ⟨λ e=>?_,λ e=>?_⟩
 ·rw [if_neg (by rw [e]; decide),if_neg (λ h=>h e)] at hO
  have a3:A.2.t=m.t+n+6+A.1.1.1.length:=by
   rcases a3 with a3 | a3
   ·exact a3.2
   ·rw [e] at a3;exact absurd a3.1 (by decide)
  have hin:=hasN_in hN
  refine (rowload_w h2 (a:=a) (k:=n) ⟨hin.1,by rw [a1]; omega⟩ ⟨by omega,by omega⟩).mono ?_
  rintro _ S3 ⟨rfl,k3,h3,hb⟩
  have rl:=(Mm.rds_len (rowO a n) A.2).2.1
  rw [rowO_len] at rl
  have hr:Ar S3 (some ⟨S2.length+1,0,none⟩) n 1 eU (A.2.rds (rowO a n)).1:=by
   have:=Ar.blk (w:=1) hb (λ _ _=>rfl) rfl
   rwa [rl] at this
  have hu:∀ y∈(A.2.rds (rowO a n)).1,inU y:=λ y hy=>by
   have:=(h1.ok.rds (rowO a n)).2 y hy
   exact ⟨this.1,by have:=this.2;omega⟩
  generalize A.2.rds (rowO a n)=R at hO h3 hb rl hr hu
  have kp3:=kp2.trans k3
  have y3:=k3.get y2 n0
  have z3:=k3.get z2 z2n
  have o3:OwnF Y.length S3 fx A.1.1.1:=o2.keep λ i hi=>k3.keep i (o2.lt i hi).2 (λ hm=>by have:=(o2.lt i hi).1;have:=hTlt _ hm;omega)
  simp only [wps,cell_blk z3,gcz,gcs]
  refine (agrees_w (c:=n) (s:=A.1.1.2) hk hr hn.2 hu).use ?_
  rintro _ S4 k4 rfl
  have y4:=pre_get k4 y3
  have h4:=h3.pre k4
  have kp4:=kp3.more k4
  have o4:=o3.pre k4
  have rr:=λ u:Bool=>ends (AObj.cells [vB u,.slice fx A.1.1.1.length A.1.1.1.length] 52 none) y4 kp4 h4
  have own:∀ o:AObj,OwnF S.length (S4.set S.length o) fx A.1.1.1:=λ o=>by
   have:=o4.keep (S':=S4.set S.length o) λ i hi=>by
    have:=(o4.lt i hi).1
    rw [List.getElem?_set_ne (by omega)]
   exact this.imp id λ ⟨b,e1,e2,e3⟩=>⟨b,e1,by omega,e3⟩
  simp only [wps,y4,List.drop_succ_cons,List.drop_zero,List.drop_nil,λ u=>cell_blk (rr u).1,gcz,gcs]
  refine ⟨λ e2=>?_,λ e2=>?_⟩
  ·rw [if_neg (by rw [e2]; simp)] at hO
   rw [hO]
   exact ⟨none,fx,rfl,(rr false).2.1,(rr false).2.2,.nil,own _,λ y e=>by cases e⟩
  ·rw [if_pos e2] at hO
   rw [hO,<- rl]
   have hS2:=q2.length_le
   refine ⟨some ⟨S2.length+1,0,none⟩,fx,rfl,(rr true).2.1,(rr true).2.2,?_,own _,λ y e=>by cases e;dsimp only;omega⟩
   rw [rl]
   exact (hr.mono k4).keepL λ y hy=>by
    injection hy with hy;subst hy
    rw [List.getElem?_set_ne (by dsimp only;omega)]
 ·rcases a3 with a3 | ⟨e10,a4,a5⟩
  ·exact absurd a3.1 e
  rw [if_pos e10] at hO
  have r2:=ends (AObj.cells [vB false,.slice none 0 0] 52 none) y2 kp2 h2
  simp only [wps,e10,y2,List.drop_succ_cons,List.drop_zero,List.drop_nil,cell_blk r2.1,gcz,gcs]
  rw [hO]
  exact ⟨none,none,rfl,r2.2.1,r2.2.2,.nil,.inl ⟨rfl,rfl⟩,λ y e=>by cases e⟩
theorem out_t {m:Mm} {p a:Int} {n:Nat} (hk:known p=true) (hn:1<=n/\n<=4096) (hN:m.hasN a ((n:Int)+6)=true):m.t<=(outV m p n a).2.t/\(outV m p n a).2.t<=m.t+2*n+9/\(outV m p n a).2.ah=m.ah:=by
 obtain ⟨a1,a2,a3⟩:=scrub_t hk hn hN
 have ah:(scrubV m p n a).2.ah=m.ah:=by
  unfold scrubV
  dsimp only
  repeat' split
  all_goals first | rfl | exact (Mm.rds_len _ _).2.2.2 | exact ((Mm.wrs_len _ _).2.2).trans (Mm.rds_len _ _).2.2.2
 have ht:m.t+n+6<=(scrubV m p n a).2.t/\(scrubV m p n a).2.t<=m.t+n+9:=by
  rcases a3 with a3 | a3 <;> omega
 obtain ⟨g1,g2,g3,g4⟩:=Mm.rds_len (rowO a n) (scrubV m p n a).2
 rw [rowO_len] at g3
 unfold outV
 rw [Int.toNat_natCast]
 dsimp only
 repeat' split
 all_goals dsimp only
 all_goals first | exact ⟨by omega,by omega,ah⟩ | exact ⟨by omega,by omega,g4.trans ah⟩
theorem pass_ah {m:Mm} {p:Int} {l:List Ax} {inv:Bool} {s:Stp} {src dst tab:Int}:(passV m p l inv s src dst tab).2.ah=m.ah:=by
 unfold passV
 split
 ·rename_i hs
  split
  ·dsimp only
   obtain ⟨k,dd,inner,nn,mm,hS⟩:=step_shape hs
   obtain ⟨gf1,_⟩:=grps_facts hS
   rw [(Mm.wrs_len _ _).2.2]
   exact (passG_facts (inv:=inv) (src:=src) (dst:=dst) (tab:=tab) (m:=m) (n:=0) (step_known hs) (grpsV l s) (m,List.replicate (nV l).toNat 0) gf1).2.2.1
  ·rfl
 ·rfl
theorem scrub_ah (m:Mm) (p n a:Int):(scrubV m p n a).2.ah=m.ah:=by
 unfold scrubV
 dsimp only
 repeat' split
 all_goals first | rfl | exact (Mm.rds_len _ _).2.2.2 | exact ((Mm.wrs_len _ _).2.2).trans (Mm.rds_len _ _).2.2.2
theorem lay_ah (m:Mm) (l:List Int) (a:Int):(layV m l a).2.ah=m.ah:=by
 unfold layV
 split
 ·exact (Mm.wrs_len _ _).2.2
 ·rfl
theorem sound_ah (m:Mm) (p n a:Int) (s:Int×Int):(soundV m p n a s).2.ah=m.ah:=by
 unfold soundV
 repeat' split
 all_goals first | rfl | exact (Mm.rds_len _ _).2.2.2
theorem holds_ah (m:Mm) (l:List Int) (a:Int):(holdsV m l a).2.ah=m.ah:=by
 unfold holdsV
 split
 ·exact (Mm.rds_len _ _).2.2.2
 ·rfl
theorem turn_ah (m:Mm) (p:Int) (l:List Ax) (inv:Bool) (s:Stp) (src dst tab:Int):(turnV m p l inv s src dst tab).2.ah=m.ah:=by
 unfold turnV
 dsimp only
 repeat' split
 all_goals first | rfl | exact scrub_ah _ _ _ _ | (dsimp only;rw [sound_ah,holds_ah,sound_ah,pass_ah,lay_ah,scrub_ah])
theorem evc_len (l:List Ev):(l.flatMap Ev.cells).length=l.length*6:=flat_len (e:=Ev.cells) (w:=6) (λ _=>rfl) l
theorem evc_at:∀ (l:List Ev) (i j:Nat) (hi:i < l.length) (v:Value),l[i].cells[j]? = some v->(l.flatMap Ev.cells)[i*6+j]? = some v
 | [], i, j, hi, v, h => by simp at hi
 | x :: l, 0, j, hi, v, h => by
   have hj:j < x.cells.length:=by
    rcases Nat.lt_or_ge j x.cells.length with h' | h'
    ·exact h'
    ·simp at h;rw [List.getElem?_eq_none h'] at h;cases h
   rw [List.flatMap_cons,Nat.zero_mul,Nat.zero_add,List.getElem?_append_left hj]; exact h
 | x :: l, i + 1, j, hi, v, h => by
   have : x.cells.length=6:=rfl
   rw [List.flatMap_cons,List.getElem?_append_right (by omega),this,show (i+1)*6+j-6=i*6+j by omega]
   exact evc_at l i j (by simpa using hi) v (by simpa using h)
theorem evc_set:∀ (l:List Ev) (i:Nat) (x:Ev),i < l.length->splice (l.flatMap Ev.cells) (i*6) x.cells=(l.set i x).flatMap Ev.cells
 | [], i, x, h => by simp at h
 | y :: l, 0, x, h => by
   rw [List.set_cons_zero,List.flatMap_cons,List.flatMap_cons,Nat.zero_mul]
   unfold splice
   have : x.cells.length=y.cells.length:=rfl
   simp [this]
 | y :: l, i + 1, x, h => by
   have ih:=evc_set l i x (by simpa using h)
   rw [List.set_cons_succ,List.flatMap_cons,List.flatMap_cons,<- ih]
   have h6:y.cells.length=6:=rfl
   unfold splice
   rw [show (i+1)*6=6+i*6 by omega,show 6=y.cells.length from rfl,List.take_length_add_append,Nat.add_assoc,List.drop_length_add_append]
   simp
structure Od (S:St) (b:Nat) (t:TypeId) (g:Option Nat) (l:List Ev) (S':St):Prop where
 len:S.length<=S'.length
 keep:∀ i,i < S.length->i≠b->S'[i]? = S[i]?
 at_:S'[b]? = some (.cells (l.flatMap Ev.cells) t g)
section
variable {S S1 S2:St} {b:Nat} {t:TypeId} {g:Option Nat} {l l':List Ev}
theorem Od.refl (h:S[b]? = some (.cells (l.flatMap Ev.cells) t g)):Od S b t g l S:=⟨Nat.le_refl _,λ _ _ _=>rfl,h⟩
theorem Od.more (h:Od S b t g l S1) (hs:S1 <+: S2):Od S b t g l S2:=
 ⟨Nat.le_trans h.len hs.length_le,λ i hi hne=>by rw [pre_at hs (Nat.lt_of_lt_of_le hi h.len),h.keep i hi hne],pre_get hs h.at_⟩
theorem Od.ev (h:Od S b t g l S1) {i:Nat} (hi:i < l.length):S1.cell ⟨b,i*6,none⟩=some (vI l[i].it)/\S1.cell ⟨b,i*6+1,none⟩=some (vI l[i].tr)/\S1.cell ⟨b,i*6+2,none⟩=some (vI l[i].wi) /\
 S1.cell ⟨b,i*6+3,none⟩=some (vI l[i].ti)/\S1.cell ⟨b,i*6+4,none⟩=some (vI l[i].ad)/\S1.cell ⟨b,i*6+5,none⟩=some (vU l[i].ma):=by
 have k:=cell_blk h.at_
 refine ⟨?_,?_,?_,?_,?_,?_⟩ <;> rw [k]
 ·exact evc_at l i 0 hi _ rfl
 ·exact evc_at l i 1 hi _ rfl
 ·exact evc_at l i 2 hi _ rfl
 ·exact evc_at l i 3 hi _ rfl
 ·exact evc_at l i 4 hi _ rfl
 ·exact evc_at l i 5 hi _ rfl
theorem Od.put (h:Od S b t g l S1) {i:Nat} (hi:i < l.length) (x:Ev):Od S b t g (l.set i x) (S1.set b (.cells (splice (l.flatMap Ev.cells) (i*6) x.cells) t g)):=
 ⟨by rw [List.length_set]; exact h.len,λ j hj hne=>by rw [List.getElem?_set_ne (λ e=>hne e.symm),h.keep j hj hne],by rw [List.getElem?_set_self (pre_lt h.at_),evc_set l i x hi]⟩
def swpW (l:List Ev) (i j:Nat) (hi:i < l.length) (hj:j < l.length):List Ev:=(l.set i l[j]).set j l[i]
end
theorem sw1 {S0 S:St} {b:Nat} {t:TypeId} {g:Option Nat} {L:List Ev} {i j:Nat} (h:Od S0 b t g L S) (hi:i < L.length) (hj:j < L.length) :
 i*6+(1+1+1+1+1+1)<=(L.flatMap Ev.cells).length/\(List.set S b (AObj.cells (splice (L.flatMap Ev.cells) (i*6) [vI L[j].it,vI L[j].tr,vI L[j].wi,vI L[j].ti,vI L[j].ad,vU L[j].ma]) t g))[b]? = some (.cells ((L.set i L[j]).flatMap Ev.cells) t g) /\
  j*6+(1+1+1+1+1+1)<=((L.set i L[j]).flatMap Ev.cells).length /\
  Od S0 b t g (swpW L i j hi hj) (List.set (List.set S b (AObj.cells (splice (L.flatMap Ev.cells) (i*6) [vI L[j].it,vI L[j].tr,vI L[j].wi,vI L[j].ti,vI L[j].ad,vU L[j].ma]) t g)) b
   (AObj.cells (splice ((L.set i L[j]).flatMap Ev.cells) (j*6) [vI L[i].it,vI L[i].tr,vI L[i].wi,vI L[i].ti,vI L[i].ad,vU L[i].ma]) t g)):=by
 have h1:=h.put hi L[j]
 have h2:=h1.put (i:=j) (by simpa using hj) L[i]
 exact ⟨by rw [evc_len]; omega,h1.at_,by rw [evc_len,List.length_set]; omega,h2⟩
theorem swp_at {p q s:List Ev} {x y:Ev} {i j:Nat} (hi:i=p.length) (hj:j=p.length+1+q.length) (h1:i < (p++x :: (q++y :: s)).length) (h2:j < (p++x :: (q++y :: s)).length) :
 swpW (p++x :: (q++y :: s)) i j h1 h2=p++y :: (q++x :: s):=by
 subst hi hj
 unfold swpW
 have e1:(p++x :: (q++y :: s))[p.length]'h1=x:=by simp
 have e2:(p++x :: (q++y :: s))[p.length+1+q.length]'h2=y:=by
  rw [List.getElem_append_right (by omega)]
  simp [show p.length+1+q.length-p.length=q.length+1 by omega]
 rw [e1,e2,List.set_append_right _ _ (by omega),Nat.sub_self,List.set_cons_zero,List.set_append_right _ _ (by omega),show p.length+1+q.length-p.length=q.length+1 by omega,List.set_cons_succ,List.set_append_right _ _ (by omega),Nat.sub_self,List.set_cons_zero]
theorem swapRange_w {S0 S:St} {b n c i j:Nat} {t:TypeId} {g:Option Nat} {cmp:Value}:∀ {p x q y s:List Ev},x.length=y.length->p.length=i->(p++(x++q)).length=j->(p++(x++(q++(y++s)))).length=n->n<=1000000 ->
 Od S0 b t g (p++(x++(q++(y++s)))) S ->
 WP (gq4r [.slice (some ⟨b,0,none⟩) n c,vI i,vI j,vI x.length,cmp]) S λ v S'=>v=vT []/\Od S0 b t g (p++(y++(q++(x++s)))) S':=by
 intro p x q y s hxy hi hj hn hbig h
 rw [gq4r_eq]
 simp only [wps]
 have hL:∀ k,k<=x.length->(p++(y.take k++x.drop k++(q++(x.take k++y.drop k++s)))).length=n:=by
  intro k hk
  rw [<- hn]
  simp [List.length_append,List.length_take,List.length_drop,hxy]; omega
 refine wp_loop (λ st S' m=>∃ k:Nat,st=[vI k]/\k<=x.length/\m=x.length-k/\Od S0 b t g (p++(y.take k++x.drop k++(q++(x.take k++y.drop k++s)))) S') ?_ x.length _ _
  ⟨0,rfl,by omega,by omega,by simpa using h⟩
 rintro st S' m ⟨k,rfl,hk,rfl,ho⟩
 simp only [wps]
 refine ⟨λ h3=>?_,λ h3=>?_⟩
 ·have hk':k < x.length:=by omega
  have hLk:=hL k (by omega)
  have e1:wI ((j:Int)+(k:Int))=((j+k:Nat):Int):=by rw [wI_ (by omega) (by simp at hj hn;omega)]; omega
  have e2:wI ((i:Int)+(k:Int))=((i+k:Nat):Int):=by rw [wI_ (by omega) (by simp at hj hn;omega)]; omega
  have hjk:j+k < (p++(y.take k++x.drop k++(q++(x.take k++y.drop k++s)))).length:=by rw [hLk]; simp at hj hn;omega
  have hik:i+k < (p++(y.take k++x.drop k++(q++(x.take k++y.drop k++s)))).length:=by rw [hLk]; simp at hj hn;omega
  obtain ⟨c0,c1,c2,c3,c4,c5⟩:=ho.ev hjk
  obtain ⟨d0,d1,d2,d3,d4,d5⟩:=ho.ev hik
  have gj:((j+k:Nat):Int) < (n:Int):=by rw [hLk] at hjk;omega
  have gi:((i+k:Nat):Int) < (n:Int):=by rw [hLk] at hik;omega
  simp only [e1,e2,wps,c0,c1,c2,c3,c4,c5,d0,d1,d2,d3,d4,d5,ho.at_,gj,gi]
  obtain ⟨w1,w2,w3,h9⟩:=sw1 ho hik hjk
  refine ⟨w1,_,_,_,w2,w3,?_⟩
  rw [wI_ (n:=(k:Int)+1) (by omega) (by omega)]
  refine ⟨x.length-(k+1),by omega,k+1,rfl,by omega,rfl,?_⟩
  have ky:k < y.length:=by omega
  have E:p++(y.take k++x.drop k++(q++(x.take k++y.drop k++s)))=(p++y.take k)++x[k] :: ((x.drop (k+1)++(q++x.take k))++y[k] :: (y.drop (k+1)++s)):=by
   rw [List.drop_eq_getElem_cons hk',List.drop_eq_getElem_cons ky]; simp only [List.append_assoc,List.cons_append]
  have E2:p++(y.take (k+1)++x.drop (k+1)++(q++(x.take (k+1)++y.drop (k+1)++s)))=(p++y.take k)++y[k] :: ((x.drop (k+1)++(q++x.take k))++x[k] :: (y.drop (k+1)++s)):=by
   rw [take_snoc hk',take_snoc ky]; simp only [List.append_assoc,List.cons_append,List.nil_append]
  rw [E2]
  have hsw:∀ (L:List Ev) (hL:L=(p++y.take k)++x[k] :: ((x.drop (k+1)++(q++x.take k))++y[k] :: (y.drop (k+1)++s))) (h1:i+k < L.length) (h2:j+k < L.length),
   swpW L (i+k) (j+k) h1 h2=(p++y.take k)++y[k] :: ((x.drop (k+1)++(q++x.take k))++x[k] :: (y.drop (k+1)++s)):=by
   intro L hL h1 h2
   subst hL
   refine swp_at ?_ ?_ _ _
   ·simp;omega
   ·simp at hj ⊢; omega
  rw [hsw _ E] at h9
  exact h9
 ·have : k=x.length:=by omega
  subst this
  simp only [List.take_of_length_le (Nat.le_of_eq hxy.symm),List.drop_length,List.append_nil,List.take_length,List.drop_of_length_le (Nat.le_of_eq hxy.symm)] at ho
  exact ho
theorem rotate_w {S0 S:St} {b n c a m e:Nat} {t:TypeId} {g:Option Nat} {cmp:Value} {p u v s:List Ev} (hu:0 < u.length) (hv:0 < v.length) (ha:p.length=a) (hm:a+u.length=m) (he:m+v.length=e)
 (hn:(p++(u++(v++s))).length=n) (hbig:n<=1000000) (h:Od S0 b t g (p++(u++(v++s))) S) :
 WP (gq4p [.slice (some ⟨b,0,none⟩) n c,vI a,vI m,vI e,cmp]) S λ r S'=>r=vT []/\Od S0 b t g (p++(v++(u++s))) S':=by
 have hmn:e+s.length=n:=by rw [<- hn]; simp;omega
 rw [gq4p_eq]
 simp only [wps]
 have e1:wI ((m:Int)-(a:Int))=(u.length:Int):=by rw [wI_ (by omega) (by omega)]; omega
 have e2:wI ((e:Int)-(m:Int))=(v.length:Int):=by rw [wI_ (by omega) (by omega)]; omega
 rw [e1,e2]
 refine wp_loop (λ st S' k=>∃ A X Y B:List Ev,st=[vI X.length,vI Y.length]/\0 < X.length/\0 < Y.length/\k=X.length+Y.length/\A++(Y++(X++B))=v++u/\(p++(A++X)).length=m /\
  Od S0 b t g (p++(A++(X++(Y++(B++s))))) S') ?_ (u.length+v.length) _ _ ⟨[],u,v,[],rfl,hu,hv,rfl,by simp,by simp;omega,by simpa using h⟩
 rintro st S' k ⟨A,X,Y,B,rfl,hX,hY,rfl,hAB,hAX,ho⟩
 have hlen:A.length+(Y.length+(X.length+B.length))=v.length+u.length:=by simpa using congrArg List.length hAB
 simp only [List.length_append] at hAX
 simp only [wps]
 have hN:∀ x q y s':List Ev,(A++(X++(Y++B))).length=(x++(q++(y++s'))).length->(p++(x++(q++(y++(s'++s))))).length=n:=by
  intro x q y s' hh
  simp only [List.length_append] at hh ⊢
  omega
 refine ⟨λ h1=>?_,λ h1=>?_⟩
 ·refine ⟨λ h2=>?_,λ h2=>?_⟩
  ·have hlt:Y.length < X.length:=by omega
   have e3:wI ((m:Int)-(X.length:Int))=((p.length+A.length:Nat):Int):=by rw [wI_ (by omega) (by omega)]; omega
   rw [e3]
   have hl:(X.take Y.length).length=Y.length:=by rw [List.length_take]; omega
   have hsw:=swapRange_w (S:=S') (S0:=S0) (b:=b) (n:=n) (c:=c) (i:=p.length+A.length) (j:=m) (t:=t) (g:=g) (cmp:=cmp) (p:=p++A) (x:=X.take Y.length) (q:=X.drop Y.length) (y:=Y) (s:=B++s) hl (by simp)
    (by simp;omega) (by simp;omega) hbig (by
      have : X.take Y.length++(X.drop Y.length++(Y++(B++s)))=X++(Y++(B++s)):=by rw [<- List.append_assoc,List.take_append_drop]
      rw [this]; simpa using ho)
   rw [hl] at hsw
   refine hsw.mono ?_
   rintro _ S2 ⟨rfl,h3⟩
   simp only [wps]
   rw [wI_ (n:=(X.length:Int)-(Y.length:Int)) (by omega) (by omega)]
   refine ⟨(X.length-Y.length)+Y.length,by omega,A++Y,X.drop Y.length,X.take Y.length,B,?_,by simp;omega,by omega,by simp;omega,?_,by simp;omega,by simpa using h3⟩
   ·rw [List.length_drop,hl]; congr 2;omega
   ·rw [<- hAB]; simp only [List.append_assoc]; rw [<- List.append_assoc (X.take _),List.take_append_drop]
  ·have hlt:X.length < Y.length:=by omega
   have e3:wI ((m:Int)-(X.length:Int))=((p.length+A.length:Nat):Int):=by rw [wI_ (by omega) (by omega)]; omega
   have e4:wI (wI ((m:Int)+(Y.length:Int))-(X.length:Int))=((m+Y.length-X.length:Nat):Int):=by rw [wI_ (n:=(m:Int)+(Y.length:Int)) (by omega) (by omega),wI_ (by omega) (by omega)]; omega
   rw [e3,e4]
   have hl:X.length=(Y.drop (Y.length-X.length)).length:=by rw [List.length_drop]; omega
   have hsw:=swapRange_w (S:=S') (S0:=S0) (b:=b) (n:=n) (c:=c) (i:=p.length+A.length) (j:=m+Y.length-X.length) (t:=t) (g:=g) (cmp:=cmp) (p:=p++A) (x:=X) (q:=Y.take (Y.length-X.length)) (y:=Y.drop (Y.length-X.length)) (s:=B++s) hl (by simp)
    (by simp;omega) (by simp;omega) hbig (by
      have : Y.take (Y.length-X.length)++(Y.drop (Y.length-X.length)++(B++s))=Y++(B++s):=by rw [<- List.append_assoc,List.take_append_drop]
      rw [this]; simpa using ho)
   refine hsw.mono ?_
   rintro _ S2 ⟨rfl,h3⟩
   simp only [wps]
   rw [wI_ (n:=(Y.length:Int)-(X.length:Int)) (by omega) (by omega)]
   refine ⟨X.length+(Y.length-X.length),by omega,A,Y.drop (Y.length-X.length),Y.take (Y.length-X.length),X++B,?_,by omega,by simp;omega,by simp;omega,?_,by simp;omega,by simpa using h3⟩
   ·rw [<- hl,List.length_take]; congr 3;omega
   ·rw [<- hAB]; rw [<- List.append_assoc (Y.take _),List.take_append_drop]
 ·have h1:X.length=Y.length:=by omega
  have e3:wI ((m:Int)-(X.length:Int))=((p.length+A.length:Nat):Int):=by rw [wI_ (by omega) (by omega)]; omega
  rw [e3]
  refine (swapRange_w (S:=S') (S0:=S0) (b:=b) (n:=n) (c:=c) (i:=p.length+A.length) (j:=m) (t:=t) (g:=g) (cmp:=cmp) (p:=p++A) (x:=X) (q:=[]) (y:=Y) (s:=B++s) h1 (by simp) (by simp;omega) (by simp;omega) hbig (by simpa using ho)).mono ?_
  rintro _ S2 ⟨rfl,h3⟩
  simp only [wps]
  have e5:p++(v++(u++s))=p++A++(Y++([]++(X++(B++s)))):=by
   rw [<- List.append_assoc v,<- hAB]; simp
  rw [e5]; exact h3
def CmpOK (C:FuncId->List Value->M Value) (cmp:Value):Prop:=∀ S (x y:Ev),Sp (callV C cmp [x.val,y.val]) S λ v _=>∃ d,v=vI d/\(d < 0↔x.ti < y.ti)
theorem half_ {x y:Nat} (h:x+y<=10000000):wI ((wU (wI ((x:Int)+(y:Int)))).fdiv (2 ^ min 1 IntKind.u64.bits))=(((x+y) / 2:Nat):Int):=by
 rw [wI_ (n:=(x:Int)+(y:Int)) (by omega) (by omega),wU_ (by omega) (by omega)]
 have e:(2:Int) ^ min 1 IntKind.u64.bits=2:=rfl
 rw [e,Int.fdiv_eq_ediv_of_nonneg _ (by omega),wI_ (by omega) (by omega)]
 omega
theorem get_mid {α:Type} {p q:List α} {x:α} {i:Nat} (h:i=p.length) (hi:i < (p++x :: q).length):(p++x :: q)[i]=x:=by
 subst h;simp
theorem insertion_w {C:FuncId->List Value->M Value} {cmp:Value} (hC:CmpOK C cmp) {S0 S:St} {b n c a e:Nat} {t:TypeId} {g:Option Nat} {p u s:List Ev} (ha:p.length=a) (he:a+u.length=e)
 (hn:(p++(u++s)).length=n) (hbig:n<=1000000) (h:Od S0 b t g (p++(u++s)) S) :
 WP (gq4o C [.slice (some ⟨b,0,none⟩) n c,vI a,vI e,cmp]) S λ r S'=>r=vT []/\∃ w,Stab Ev.ti u w/\Od S0 b t g (p++(w++s)) S':=by
 have hen:e+s.length=n:=by rw [<- hn]; simp;omega
 rw [gq4o_eq]
 simp only [wps]
 rw [wI_ (n:=(a:Int)+1) (by omega) (by omega)]
 rcases Nat.eq_zero_or_pos u.length with hu0 | hu0
 ·have hu:u=[]:=List.eq_nil_of_length_eq_zero hu0
  subst hu
  refine wp_round ?_
  simp only [wps]
  refine ⟨λ hf=>by simp at he;omega,λ _=>⟨[],Stab.self .nil,h⟩⟩
 refine wp_loop (λ st S' m=>∃ (k:Nat) (w:List Ev),st=[vI ((a+k:Nat):Int)]/\1<=k/\k<=u.length/\m=u.length-k/\Stab Ev.ti (u.take k) w/\Od S0 b t g (p++(w++(u.drop k++s))) S') ?_ (u.length-1) _ _
  ⟨1,u.take 1,by simp,by omega,hu0,rfl,?_,?_⟩
 rotate_left
 ·refine Stab.self ?_
  match u,hu0 with
  | x :: u,_=>simp
 ·rw [<- List.append_assoc (u.take 1),List.take_append_drop]; exact h
 rintro st S' m ⟨k,w,rfl,hk1,hk,rfl,hst,ho⟩
 have hwl:=hst.len
 rw [List.length_take] at hwl
 simp only [wps]
 refine ⟨λ hf=>?_,λ hf=>?_⟩
 rotate_left
 ·have : k=u.length:=by omega
  subst this
  rw [List.take_length] at hst
  rw [List.drop_length,List.nil_append] at ho
  exact ⟨w,hst,ho⟩
 have hk':k < u.length:=by omega
 refine wp_loop (λ st S' m=>∃ (r1 r2:List Ev),w=r1++r2/\st=[vI ((a+r1.length:Nat):Int)]/\m=r1.length/\(∀ y∈r2,u[k].ti < y.ti)/\Od S0 b t g (p++(r1++u[k] :: (r2++(u.drop (k+1)++s)))) S') ?_ w.length _ _
  ⟨w,[],by simp,by simp;omega,rfl,by simp,by rw [List.drop_eq_getElem_cons hk'] at ho;simp only [List.nil_append]; exact ho⟩
 rintro st S2 m ⟨r1,r2,rfl,rfl,rfl,hr2,ho2⟩
 have hl12:r1.length+r2.length=k:=by rw [List.length_append] at hwl;omega
 have hlen2:(p++(r1++u[k] :: (r2++(u.drop (k+1)++s)))).length=n:=by simp;omega
 unfold kq64
 simp only [wps]
 have stop:∀ S3,Od S0 b t g (p++(r1++u[k] :: (r2++(u.drop (k+1)++s)))) S3->(∀ y∈r1,y.ti<=u[k].ti) ->
  ∃ n' < u.length-k,∃ (k':Nat) (w:List Ev),[vI (wI (((a+k:Nat):Int)+1))]=[vI ((a+k':Nat):Int)]/\1<=k'/\k'<=u.length/\n'=u.length-k'/\Stab Ev.ti (u.take k') w/\Od S0 b t g (p++(w++(u.drop k'++s))) S3:=by
  intro S3 h3 hle
  refine ⟨u.length-(k+1),by omega,k+1,r1++u[k] :: r2,?_,by omega,by omega,rfl,?_,by simpa using h3⟩
  ·rw [wI_ (by omega) (by omega)]; congr 2
  ·rw [take_snoc hk']; exact hst.ins hle hr2
 rcases List.eq_nil_or_concat r1 with hr1 | ⟨r0,z,hr1⟩
 ·subst hr1
  refine ⟨λ hf=>absurd hf (by simp),λ _=>?_⟩
  exact stop _ ho2 (by simp)
 ·subst hr1
  have eL:p++(r0.concat z++u[k] :: (r2++(u.drop (k+1)++s)))=(p++r0)++z :: ([]++u[k] :: (r2++(u.drop (k+1)++s))):=by simp
  have lz:(r0.concat z).length=r0.length+1:=by simp
  rw [eL] at ho2 hlen2
  rw [lz] at hl12 ⊢
  have e2:wI (((a+(r0.length+1):Nat):Int)-1)=((a+r0.length:Nat):Int):=by rw [wI_ (by omega) (by omega)]; omega
  have hi:a+(r0.length+1) < ((p++r0)++z :: ([]++u[k] :: (r2++(u.drop (k+1)++s)))).length:=by rw [hlen2]; omega
  have hj:a+r0.length < ((p++r0)++z :: ([]++u[k] :: (r2++(u.drop (k+1)++s)))).length:=by rw [hlen2]; omega
  have gi:((a+(r0.length+1):Nat):Int) < (n:Int):=by omega
  have gj:((a+r0.length:Nat):Int) < (n:Int):=by omega
  have ga:(a:Int) < ((a+(r0.length+1):Nat):Int):=by omega
  have xi:((p++r0)++z :: ([]++u[k] :: (r2++(u.drop (k+1)++s))))[a+(r0.length+1)]=u[k]:=by
   rw [List.getElem_append_right (by simp;omega)]
   simp only [List.length_append,show a+(r0.length+1)-(p.length+r0.length)=1 by omega]
   rfl
  have xj:((p++r0)++z :: ([]++u[k] :: (r2++(u.drop (k+1)++s))))[a+r0.length]=z:=get_mid (by simp;omega) _
  obtain ⟨c0,c1,c2,c3,c4,c5⟩:=ho2.ev hi
  obtain ⟨d0,d1,d2,d3,d4,d5⟩:=ho2.ev hj
  rw [xi] at c0 c1 c2 c3 c4 c5
  rw [xj] at d0 d1 d2 d3 d4 d5
  simp only [e2,wps,c0,c1,c2,c3,c4,c5,d0,d1,d2,d3,d4,d5,gi,gj,ga]
  refine (hC S2 u[k] z).use ?_
  rintro _ S3 h3 ⟨d,rfl,hd⟩
  have ho3:=ho2.more h3
  obtain ⟨c0,c1,c2,c3,c4,c5⟩:=ho3.ev hi
  obtain ⟨d0,d1,d2,d3,d4,d5⟩:=ho3.ev hj
  obtain ⟨w1,w2,w3,h9⟩:=sw1 ho3 hi hj
  rw [xi] at c0 c1 c2 c3 c4 c5
  rw [xj] at d0 d1 d2 d3 d4 d5
  simp only [xi,xj] at w1 w2 w3 h9
  simp only [e2,wps,c0,c1,c2,c3,c4,c5,d0,d1,d2,d3,d4,d5,gi,gj,ho3.at_]
  refine ⟨λ hlt=>⟨w1,_,_,_,w2,w3,?_⟩,λ hlt=>?_⟩
  ·refine ⟨r0.length,by omega,r0,z :: r2,by simp,rfl,rfl,?_,?_⟩
   ·intro y hy
    rcases List.mem_cons.1 hy with rfl | hy
    ·exact hd.1 hlt
    ·exact hr2 y hy
   ·have hs:swpW ((p++r0)++z :: ([]++u[k] :: (r2++(u.drop (k+1)++s)))) (a+(r0.length+1)) (a+r0.length) hi hj=(p++r0)++u[k] :: ([]++z :: (r2++(u.drop (k+1)++s))):=by
     have:=swp_at (p:=p++r0) (q:=[]) (s:=r2++(u.drop (k+1)++s)) (x:=z) (y:=u[k]) (i:=a+r0.length) (j:=a+(r0.length+1)) (by simp;omega) (by simp;omega) hj hi
     rw [<- this]
     unfold swpW
     rw [List.set_comm _ _ (by omega)]
    rw [hs] at h9
    simpa using h9
  ·refine stop S3 (by rw [eL]; exact ho3) ?_
   intro y hy
   have hz:z.ti<=u[k].ti:=by
    rcases Int.lt_or_le u[k].ti z.ti with h' | h'
    ·exact absurd (hd.2 h') hlt
    ·exact h'
   rcases List.mem_append.1 (by simpa using hy:y∈r0++[z]) with hy | hy
   ·have h7:=(List.pairwise_append.1 hst.ord).1
    rw [List.concat_eq_append] at h7
    have h8:=List.pairwise_append.1 h7
    have:=h8.2.2 y hy z (by simp)
    omega
   ·simp at hy;subst hy;exact hz
theorem get_in {α:Type} {p v s:List α} {i k:Nat} (hk:k < v.length) (hi:i=p.length+k) (h:i < (p++(v++s)).length):(p++(v++s))[i]=v[k]:=by
 subst hi
 rw [List.getElem_append_right (by omega)]
 simp only [Nat.add_sub_cancel_left]
 rw [List.getElem_append_left hk]
theorem upS_w {S0 S:St} {b n:Nat} {t:TypeId} {g:Option Nat} {body:List Value->M (Nat×List Value)} {Q:Nat×List Value->St->Prop} {x:Ev} (a:Nat) {p s:List Ev} (ha:p.length=a) :
 ∀ (v1 v2:List Ev),(p++(x :: (v1++v2)++s)).length=n->Od S0 b t g (p++(x :: (v1++v2)++s)) S ->
 (∀ (k:Nat) S' (L:List Ev),L.length=n->k < v1.length->Od S0 b t g L S'->∀ (h1:a+k < L.length) (h2:a+k+1 < L.length),WP (body [vI ((a+k:Nat):Int)]) S' λ q S''=>q=(0,[vI ((a+k+1:Nat):Int)])/\Od S0 b t g (swpW L (a+k) (a+k+1) h1 h2) S'') ->
 (∀ S' ,Od S0 b t g (p++(v1++x :: v2++s)) S'->WP (body [vI ((a+v1.length:Nat):Int)]) S' λ q S''=>q.1≠0/\Q q S'') ->
 WP (loopM body [vI (a:Int)]) S Q:=by
 intro v1 v2 hn h hstep hend
 refine wp_loop (λ st S' m=>∃ k:Nat,st=[vI ((a+k:Nat):Int)]/\k<=v1.length/\m=v1.length-k/\Od S0 b t g (p++(v1.take k++x :: (v1.drop k++v2)++s)) S') ?_ v1.length _ _ ⟨0,rfl,by omega,rfl,by simpa using h⟩
 rintro st S' m ⟨k,rfl,hk,rfl,ho⟩
 rcases Nat.lt_or_ge k v1.length with hk' | hk'
 ·have hlen:(p++(v1.take k++x :: (v1.drop k++v2)++s)).length=n:=by
   rw [<- hn]; simp;omega
  refine (hstep k S' _ hlen hk' ho (by rw [hlen,<- hn]; simp;omega) (by rw [hlen,<- hn]; simp;omega)).mono ?_
  rintro q S'' ⟨rfl,h9⟩
  refine ⟨v1.length-(k+1),by omega,k+1,by congr 2,by omega,rfl,?_⟩
  have e1:p++(v1.take k++x :: (v1.drop k++v2)++s)=(p++v1.take k)++x :: ([]++v1[k] :: (v1.drop (k+1)++v2++s)):=by
   rw [List.drop_eq_getElem_cons hk']; simp only [List.append_assoc,List.cons_append,List.nil_append]
  have e2:p++(v1.take (k+1)++x :: (v1.drop (k+1)++v2)++s)=(p++v1.take k)++v1[k] :: ([]++x :: (v1.drop (k+1)++v2++s)):=by
   rw [take_snoc hk']; simp only [List.append_assoc,List.cons_append,List.nil_append]
  have key:∀ (L:List Ev) (hL:L=(p++v1.take k)++x :: ([]++v1[k] :: (v1.drop (k+1)++v2++s))) (h1:a+k < L.length) (h2:a+k+1 < L.length),swpW L (a+k) (a+k+1) h1 h2=(p++v1.take k)++v1[k] :: ([]++x :: (v1.drop (k+1)++v2++s)):=by
   intro L hL h1 h2
   subst hL
   exact swp_at (by simp;omega) (by simp;omega) _ _
  rw [key _ e1] at h9
  rw [e2]; exact h9
 ·have : k=v1.length:=by omega
  subst this
  rw [List.take_length,List.drop_length,List.nil_append] at ho
  refine (hend S' ho).mono ?_
  rintro ⟨i,l⟩ S'' ⟨h1,h2⟩
  cases i with
  | zero=>exact absurd rfl h1
  | succ i=>exact h2
theorem downS_w {S0 S:St} {b n:Nat} {t:TypeId} {g:Option Nat} {body:List Value->M (Nat×List Value)} {Q:Nat×List Value->St->Prop} {x:Ev} (a:Nat) {p s:List Ev} (ha:p.length=a) :
 ∀ (u1 u2:List Ev),(p++(u1++u2++x :: s)).length=n->Od S0 b t g (p++(u1++u2++x :: s)) S ->
 (∀ (k:Nat) S' (L:List Ev),L.length=n->u1.length < k->k<=u1.length+u2.length->Od S0 b t g L S'->∀ (h1:a+k < L.length) (h2:a+k-1 < L.length),WP (body [vI ((a+k:Nat):Int)]) S' λ q S''=>q=(0,[vI ((a+k-1:Nat):Int)])/\Od S0 b t g (swpW L (a+k-1) (a+k) h2 h1) S'') ->
 (∀ S' ,Od S0 b t g (p++(u1++x :: u2++s)) S'->WP (body [vI ((a+u1.length:Nat):Int)]) S' λ q S''=>q.1≠0/\Q q S'') ->
 WP (loopM body [vI ((a+(u1.length+u2.length):Nat):Int)]) S Q:=by
 intro u1 u2 hn h hstep hend
 refine wp_loop (λ st S' m=>∃ k:Nat,st=[vI ((a+(u1.length+k):Nat):Int)]/\k<=u2.length/\m=k/\Od S0 b t g (p++(u1++u2.take k++x :: (u2.drop k++s))) S') ?_ u2.length _ _ ⟨u2.length,rfl,by omega,rfl,by simpa using h⟩
 rintro st S' k ⟨_,rfl,hk,rfl,ho⟩
 rcases k with _ | k
 ·simp only [List.take_zero,List.drop_zero,List.append_nil] at ho
  refine (hend S' (by simpa using ho)).mono ?_
  rintro ⟨i,l⟩ S'' ⟨h1,h2⟩
  cases i with
  | zero=>exact absurd rfl h1
  | succ i=>exact h2
 ·have hk':k < u2.length:=by omega
  have hlen:(p++(u1++u2.take (k+1)++x :: (u2.drop (k+1)++s))).length=n:=by
   rw [<- hn]; simp;omega
  have hst:=hstep (u1.length+(k+1)) S' _ hlen (by omega) (by omega) ho (by rw [hlen,<- hn]; simp;omega) (by rw [hlen,<- hn]; simp;omega)
  refine hst.mono ?_
  rintro q S'' ⟨rfl,h9⟩
  refine ⟨k,by omega,k,by congr 2,by omega,rfl,?_⟩
  have e1:p++(u1++u2.take (k+1)++x :: (u2.drop (k+1)++s))=(p++(u1++u2.take k))++u2[k] :: ([]++x :: (u2.drop (k+1)++s)):=by
   rw [take_snoc hk']; simp only [List.append_assoc,List.cons_append,List.nil_append]
  have e2:p++(u1++u2.take k++x :: (u2.drop k++s))=(p++(u1++u2.take k))++x :: ([]++u2[k] :: (u2.drop (k+1)++s)):=by
   rw [List.drop_eq_getElem_cons hk']; simp only [List.append_assoc,List.cons_append,List.nil_append]
  have key:∀ (L:List Ev) (hL:L=(p++(u1++u2.take k))++u2[k] :: ([]++x :: (u2.drop (k+1)++s))) (h1:a+(u1.length+(k+1))-1 < L.length) (h2:a+(u1.length+(k+1)) < L.length),
   swpW L (a+(u1.length+(k+1))-1) (a+(u1.length+(k+1))) h1 h2=(p++(u1++u2.take k))++x :: ([]++u2[k] :: (u2.drop (k+1)++s)):=by
   intro L hL h1 h2
   subst hL
   exact swp_at (by simp;omega) (by simp;omega) _ _
  rw [key _ e1] at h9
  rw [e2]; exact h9
theorem bs_w {S0:St} {b:Nat} {t:TypeId} {g:Option Nat} {L:List Ev} {body:List Value->M (Nat×List Value)} {Q:Nat×List Value->St->Prop} {lo hi:Nat} (P:Nat->Prop) (hlh:lo<=hi)
 (hmono:∀ c c',lo<=c'->c'<=c->c < hi->P c->P c')
 (hbody:∀ i j S',lo<=i->i < j->j<=hi->Od S0 b t g L S'->WP (body [vI (i:Nat),vI (j:Nat)]) S' λ q S''=>Od S0 b t g L S''/\((q=(0,[vI (((i+j) / 2+1:Nat):Int),vI (j:Nat)])/\P ((i+j) / 2))\/(q=(0,[vI (i:Nat),vI (((i+j) / 2:Nat):Int)])/\¬ P ((i+j) / 2))))
 (hend:∀ i S',lo<=i->i<=hi->(∀ c,lo<=c->c < i->P c)->(∀ c,i<=c->c < hi->¬ P c)->Od S0 b t g L S'->WP (body [vI (i:Nat),vI (i:Nat)]) S' λ q S''=>q.1≠0/\Q q S'') :
 ∀ {S},Od S0 b t g L S->WP (loopM body [vI (lo:Nat),vI (hi:Nat)]) S Q:=by
 intro S h
 refine wp_loop (λ st S' m=>∃ i j:Nat,st=[vI (i:Nat),vI (j:Nat)]/\lo<=i/\i<=j/\j<=hi/\m=j-i/\(∀ c,lo<=c->c < i->P c)/\(∀ c,j<=c->c < hi->¬ P c)/\Od S0 b t g L S') ?_ (hi-lo) _ _
  ⟨lo,hi,rfl,Nat.le_refl _,hlh,Nat.le_refl _,rfl,λ c h1 h2=>by omega,λ c h1 h2=>by omega,h⟩
 rintro st S' m ⟨i,j,rfl,h1,h2,h3,rfl,h4,h5,ho⟩
 rcases Nat.lt_or_ge i j with hij | hij
 ·refine (hbody i j S' h1 hij h3 ho).mono ?_
  rintro q S'' ⟨ho2,⟨rfl,hp⟩ | ⟨rfl,hp⟩⟩
  ·exact ⟨j-((i+j) / 2+1),by omega,(i+j) / 2+1,j,rfl,by omega,by omega,h3,rfl,λ c hc1 hc2=>hmono _ c hc1 (by omega) (by omega) hp,h5,ho2⟩
  ·exact ⟨(i+j) / 2-i,by omega,i,(i+j) / 2,rfl,h1,by omega,by omega,rfl,h4,λ c hc1 hc2 hpc=>hp (hmono c _ (by omega) hc1 hc2 hpc),ho2⟩
 ·obtain rfl:i=j:=by omega
  refine (hend i S' h1 h3 h4 h5 ho).mono ?_
  rintro ⟨k,l⟩ S'' ⟨g1,g2⟩
  cases k with
  | zero=>exact absurd rfl g1
  | succ k=>exact g2
theorem swp_comm {L:List Ev} {i j:Nat} (hi:i < L.length) (hj:j < L.length) (hne:i≠j):swpW L i j hi hj=swpW L j i hj hi:=by
 unfold swpW
 rw [List.set_comm _ _ hne]
theorem sorted_le {u:List Ev} (hu:u.Pairwise λ a b=>a.ti<=b.ti) {i j:Nat} (h:i<=j) (hj:j < u.length):(u[i]'(by omega)).ti<=u[j].ti:=by
 rcases Nat.lt_or_ge i j with h' | h'
 ·exact List.pairwise_iff_getElem.1 hu _ _ (by omega) hj h'
 ·have : i=j:=by omega
  subst this;exact Int.le_refl _
def SymQ (S0:St) (b:Nat) (t:TypeId) (g:Option Nat) (p u v s:List Ev) (r:Value) (S':St):Prop:=r=vT []/\∃ w,Stab Ev.ti (u++v) w/\Od S0 b t g (p++(w++s)) S'
variable {C:FuncId->List Value->M Value} {cmp:Value}
set_option maxRecDepth 20000 in
theorem sym1_w (hC:∀ g1 g2,CmpOK (lookD [(277,g1),(272,g2)] C) cmp) {gR:List Value->M Value} {S0 S:St} {b n c a e:Nat} {t:TypeId} {g:Option Nat} {p v s:List Ev} {x:Ev} (ha:p.length=a) (he:a+1+v.length=e)
 (hv0:0 < v.length) (hn:(p++(([x]++v)++s)).length=n) (hbig:n<=1000000) (hv:v.Pairwise λ a b=>a.ti<=b.ti) (h:Od S0 b t g (p++(([x]++v)++s)) S) :
 WP (sq6b C gR [.slice (some ⟨b,0,none⟩) n c,vI a,vI ((a+1:Nat):Int),vI e,cmp]) S (SymQ S0 b t g p [x] v s):=by
 have hen:e+s.length=n:=by rw [<- hn]; simp;omega
 rw [gq4s_eq]
 have e1:wI (((a+1:Nat):Int)-(a:Int))=1:=by rw [wI_ (by omega) (by omega)]; omega
 simp only [wps,e1]
 have hLv:∀ k (hk:k < v.length) (h:a+1+k < (p++(([x]++v)++s)).length),(p++(([x]++v)++s))[a+1+k]=v[k]:=by
  intro k hk h
  have e:p++(([x]++v)++s)=(p++[x])++(v++s):=by simp
  simp only [e]
  exact get_in hk (by simp;omega) _
 have hLx:∀ (h:a < (p++(([x]++v)++s)).length),(p++(([x]++v)++s))[a]=x:=λ h=>get_mid ha.symm h
 refine bs_w (S0:=S0) (b:=b) (t:=t) (g:=g) (L:=p++(([x]++v)++s)) (lo:=a+1) (hi:=e) (λ c=>∃ h:c-(a+1) < v.length,v[c-(a+1)].ti < x.ti) (by omega) ?_ ?_ ?_ h
 ·rintro c c' h1 h2 h3 ⟨h4,h5⟩
  refine ⟨by omega,?_⟩
  have:=sorted_le hv (i:=c'-(a+1)) (j:=c-(a+1)) (by omega) h4
  omega
 ·intro i j S' h1 h2 h3 ho
  have hh:=half_ (x:=i) (y:=j) (by omega)
  have hd:(i+j) / 2-(a+1) < v.length:=by omega
  have g1:(((i+j) / 2:Nat):Int) < (n:Int):=by omega
  have g2:(a:Int) < (n:Int):=by omega
  have g3:(i:Int) < (j:Int):=by omega
  have k1:(i+j) / 2 < (p++(([x]++v)++s)).length:=by rw [hn]; omega
  have k2:a < (p++(([x]++v)++s)).length:=by rw [hn]; omega
  have x1:(p++(([x]++v)++s))[(i+j) / 2]=v[(i+j) / 2-(a+1)]:=by
   have:=hLv ((i+j) / 2-(a+1)) hd (by rw [hn]; omega)
   rw [<- this]; congr 1;omega
  obtain ⟨c0,c1,c2,c3,c4,c5⟩:=ho.ev k1
  obtain ⟨d0,d1,d2,d3,d4,d5⟩:=ho.ev k2
  rw [x1] at c0 c1 c2 c3 c4 c5
  rw [hLx k2] at d0 d1 d2 d3 d4 d5
  simp only [wps,hh,g1,g2,g3,c0,c1,c2,c3,c4,c5,d0,d1,d2,d3,d4,d5]
  refine (hC _ _ S' v[(i+j) / 2-(a+1)] x).use ?_
  rintro _ S3 h3' ⟨d,rfl,hd'⟩
  simp only [wps]
  refine ⟨λ hlt=>⟨ho.more h3',.inl ⟨?_,hd,hd'.1 hlt⟩⟩,λ hlt=>⟨ho.more h3',.inr ?_⟩⟩
  ·rw [wI_ (n:=(((i+j) / 2:Nat):Int)+1) (by omega) (by omega)]; rfl
  ·rintro ⟨_,h6⟩; exact hlt (hd'.2 h6)
 ·intro i S' h1 h2 h3 h4 ho
  have g3:¬ (i:Int) < (i:Int):=by omega
  simp only [wps,g3]
  have e2:wI ((i:Int)-1)=((i-1:Nat):Int):=by rw [wI_ (by omega) (by omega)]; omega
  have evs_:v.take (i-(a+1))++v.drop (i-(a+1))=v:=List.take_append_drop _ _
  have hl1:(v.take (i-(a+1))).length=i-(a+1):=by rw [List.length_take]; omega
  refine ⟨by omega,upS_w (n:=n) (S0:=S0) (b:=b) (t:=t) (g:=g) (x:=x) (p:=p) (s:=s) a ha (v.take (i-(a+1))) (v.drop (i-(a+1))) ?_ ?_ ?_ ?_⟩
  ·rw [evs_]; exact hn
  ·rw [evs_]; exact ho
  ·intro k S2 L hL hk ho2 k1 k2
   have f1:wI (((a+k:Nat):Int)+1)=((a+k+1:Nat):Int):=by rw [wI_ (by omega) (by omega)]; omega
   have f2:((a+k:Nat):Int) < ((i-1:Nat):Int):=by omega
   have f3:((a+k+1:Nat):Int) < (n:Int):=by omega
   have f4:((a+k:Nat):Int) < (n:Int):=by omega
   obtain ⟨c0,c1,c2,c3,c4,c5⟩:=ho2.ev k1
   obtain ⟨d0,d1,d2,d3,d4,d5⟩:=ho2.ev k2
   obtain ⟨w1,w2,w3,h9⟩:=sw1 ho2 k1 k2
   simp only [wps,e2,f1,f2,f3,f4,c0,c1,c2,c3,c4,c5,d0,d1,d2,d3,d4,d5,ho2.at_]
   exact ⟨w1,_,_,_,w2,w3,h9⟩
  ·intro S2 ho2
   have f2:¬ ((a+(v.take (i-(a+1))).length:Nat):Int) < ((i-1:Nat):Int):=by omega
   simp only [wps,e2,f2]
   refine ⟨by omega,rfl,v.take (i-(a+1))++x :: v.drop (i-(a+1)),?_,ho2⟩
   have hS:=Stab.front (key:=Ev.ti) (x:=x) (v1:=v.take (i-(a+1))) (v2:=v.drop (i-(a+1))) (by rw [evs_]; exact hv) ?_ ?_
   ·rw [evs_] at hS;exact hS
   ·intro y hy
    obtain ⟨k,hk,rfl⟩:=List.mem_iff_getElem.1 hy
    rw [List.getElem_take]
    rw [hl1] at hk
    obtain ⟨_,h6⟩:=h3 (a+1+k) (by omega) (by omega)
    simpa using h6
   ·intro y hy
    obtain ⟨k,hk,rfl⟩:=List.mem_iff_getElem.1 hy
    rw [List.length_drop] at hk
    rw [List.getElem_drop]
    have h6:=h4 (i+k) (by omega) (by omega)
    have e7:i+k-(a+1)=i-(a+1)+k:=by omega
    rcases Int.lt_or_le (v[i-(a+1)+k]'(by omega)).ti x.ti with h8 | h8
    ·exact absurd ⟨by omega,by simpa only [e7] using h8⟩ h6
    ·exact h8
set_option maxRecDepth 20000 in
theorem sym2_w (hC:∀ g1 g2,CmpOK (lookD [(277,g1),(272,g2)] C) cmp) {gR:List Value->M Value} {S0 S:St} {b n c a m:Nat} {t:TypeId} {g:Option Nat} {p u s:List Ev} {x:Ev} (ha:p.length=a) (hm:a+u.length=m)
 (hu0:1 < u.length) (hn:(p++((u++[x])++s)).length=n) (hbig:n<=1000000) (hu:u.Pairwise λ a b=>a.ti<=b.ti) (h:Od S0 b t g (p++((u++[x])++s)) S) :
 WP (sq6b C gR [.slice (some ⟨b,0,none⟩) n c,vI a,vI m,vI ((m+1:Nat):Int),cmp]) S (SymQ S0 b t g p u [x] s):=by
 have hen:m+1+s.length=n:=by rw [<- hn]; simp;omega
 rw [gq4s_eq]
 have e0:wI ((m:Int)-(a:Int))=((u.length:Nat):Int):=by rw [wI_ (by omega) (by omega)]; omega
 have e1:wI (((m+1:Nat):Int)-(m:Int))=1:=by rw [wI_ (by omega) (by omega)]; omega
 have e0':¬ ((u.length:Nat):Int)=1:=by omega
 simp only [wps,e0,e1,e0']
 have hLu:∀ k (hk:k < u.length) (h:a+k < (p++((u++[x])++s)).length),(p++((u++[x])++s))[a+k]=u[k]:=by
  intro k hk h
  have e:p++((u++[x])++s)=p++(u++([x]++s)):=by simp
  simp only [e]
  exact get_in hk (by omega) _
 have hLx:∀ (h:m < (p++((u++[x])++s)).length),(p++((u++[x])++s))[m]=x:=λ h=>by
  have e:p++((u++[x])++s)=(p++u)++x :: s:=by simp
  simp only [e]
  exact get_mid (by simp;omega) _
 intro _
 refine bs_w (S0:=S0) (b:=b) (t:=t) (g:=g) (L:=p++((u++[x])++s)) (lo:=a) (hi:=m) (λ c=>∃ h:c-a < u.length,u[c-a].ti<=x.ti) (by omega) ?_ ?_ ?_ h
 ·rintro c c' h1 h2 h3 ⟨h4,h5⟩
  refine ⟨by omega,?_⟩
  have:=sorted_le hu (i:=c'-a) (j:=c-a) (by omega) h4
  omega
 ·intro i j S' h1 h2 h3 ho
  have hh:=half_ (x:=i) (y:=j) (by omega)
  have hd:(i+j) / 2-a < u.length:=by omega
  have g1:(((i+j) / 2:Nat):Int) < (n:Int):=by omega
  have g2:(m:Int) < (n:Int):=by omega
  have g3:(i:Int) < (j:Int):=by omega
  have k1:(i+j) / 2 < (p++((u++[x])++s)).length:=by rw [hn]; omega
  have k2:m < (p++((u++[x])++s)).length:=by rw [hn]; omega
  have x1:(p++((u++[x])++s))[(i+j) / 2]=u[(i+j) / 2-a]:=by
   have:=hLu ((i+j) / 2-a) hd (by rw [hn]; omega)
   rw [<- this]; congr 1;omega
  obtain ⟨c0,c1,c2,c3,c4,c5⟩:=ho.ev k1
  obtain ⟨d0,d1,d2,d3,d4,d5⟩:=ho.ev k2
  rw [x1] at c0 c1 c2 c3 c4 c5
  rw [hLx k2] at d0 d1 d2 d3 d4 d5
  simp only [wps,hh,g1,g2,g3,c0,c1,c2,c3,c4,c5,d0,d1,d2,d3,d4,d5]
  refine (hC _ _ S' x u[(i+j) / 2-a]).use ?_
  rintro _ S3 h3' ⟨d,rfl,hd'⟩
  simp only [wps]
  refine ⟨λ hlt=>⟨ho.more h3',.inl ⟨?_,hd,?_⟩⟩,λ hlt=>⟨ho.more h3',.inr ?_⟩⟩
  ·rw [wI_ (n:=(((i+j) / 2:Nat):Int)+1) (by omega) (by omega)]; rfl
  ·rcases Int.lt_or_le x.ti u[(i+j) / 2-a].ti with h8 | h8
   ·exact absurd (hd'.2 h8) hlt
   ·exact h8
  ·rintro ⟨_,h6⟩
   have:=hd'.1 hlt
   omega
 ·intro i S' h1 h2 h3 h4 ho
  have g3:¬ (i:Int) < (i:Int):=by omega
  simp only [wps,g3]
  have evs_:u.take (i-a)++u.drop (i-a)=u:=List.take_append_drop _ _
  have hl1:(u.take (i-a)).length=i-a:=by rw [List.length_take]; omega
  have hl2:(u.drop (i-a)).length=u.length-(i-a):=by rw [List.length_drop]
  have hm2:(m:Int)=((a+((u.take (i-a)).length+(u.drop (i-a)).length):Nat):Int):=by rw [hl1,hl2]; omega
  rw [hm2]
  refine ⟨by omega,downS_w (n:=n) (S0:=S0) (b:=b) (t:=t) (g:=g) (x:=x) (p:=p) (s:=s) a ha (u.take (i-a)) (u.drop (i-a)) ?_ ?_ ?_ ?_⟩
  ·rw [evs_]; simpa using hn
  ·rw [evs_]; simpa using ho
  ·intro k S2 L hL hk hk2 ho2 k1 k2
   have f1:wI (((a+k:Nat):Int)-1)=((a+k-1:Nat):Int):=by rw [wI_ (by omega) (by omega)]; omega
   have f2:(i:Int) < ((a+k:Nat):Int):=by omega
   have f3:((a+k-1:Nat):Int) < (n:Int):=by omega
   have f4:((a+k:Nat):Int) < (n:Int):=by omega
   obtain ⟨c0,c1,c2,c3,c4,c5⟩:=ho2.ev k1
   obtain ⟨d0,d1,d2,d3,d4,d5⟩:=ho2.ev k2
   obtain ⟨w1,w2,w3,h9⟩:=sw1 ho2 k1 k2
   rw [swp_comm k1 k2 (by omega)] at h9
   simp only [wps,f1,f2,f3,f4,c0,c1,c2,c3,c4,c5,d0,d1,d2,d3,d4,d5,ho2.at_]
   exact ⟨w1,_,_,_,w2,w3,h9⟩
  ·intro S2 ho2
   have f2:¬ (i:Int) < ((a+(u.take (i-a)).length:Nat):Int):=by omega
   simp only [wps,f2]
   refine ⟨by omega,rfl,u.take (i-a)++x :: u.drop (i-a),?_,ho2⟩
   have hS:=Stab.ins (key:=Ev.ti) (l:=u) (x:=x) (r1:=u.take (i-a)) (r2:=u.drop (i-a)) (by rw [evs_]; exact Stab.self hu) ?_ ?_
   ·exact hS
   ·intro y hy
    obtain ⟨k,hk,rfl⟩:=List.mem_iff_getElem.1 hy
    rw [List.getElem_take]
    rw [hl1] at hk
    obtain ⟨_,h6⟩:=h3 (a+k) (by omega) (by omega)
    simpa using h6
   ·intro y hy
    obtain ⟨k,hk,rfl⟩:=List.mem_iff_getElem.1 hy
    rw [List.length_drop] at hk
    rw [List.getElem_drop]
    have h6:=h4 (i+k) (by omega) (by omega)
    have e7:i+k-a=i-a+k:=by omega
    rcases Int.lt_or_le x.ti (u[i-a+k]'(by omega)).ti with h8 | h8
    ·exact h8
    ·exact absurd ⟨by omega,by simpa only [e7] using h8⟩ h6
end Go.AM
namespace Go.AM
open Go Go.Proofs.YtpecnaacgkgjmaaGreatDoor
variable {C:FuncId->List Value->M Value} {cmp:Value}
def SymR (gR:List Value->M Value) (S0:St) (b n c:Nat) (t:TypeId) (g:Option Nat) (cmp:Value) (N:Nat):Prop:=
 ∀ (S:St) (p u v s:List Ev) (a m e:Nat),u.length+v.length < N->0 < u.length->0 < v.length->p.length=a->a+u.length=m->m+v.length=e->(p++((u++v)++s)).length=n ->
  (u.Pairwise λ a b=>a.ti<=b.ti)->(v.Pairwise λ a b=>a.ti<=b.ti)->Od S0 b t g (p++((u++v)++s)) S ->
  WP (gR [.slice (some ⟨b,0,none⟩) n c,vI a,vI m,vI e,cmp]) S (SymQ S0 b t g p u v s)
theorem k1_w {gR:List Value->M Value} {S0 S:St} {b n c a m e i mid:Nat} {t:TypeId} {g:Option Nat} {p w1 u2 v2 s:List Ev} {N:Nat} {R:Nat×List Value->St->Prop} (hR:SymR gR S0 b n c t g cmp N) (hbig:n<=1000000)
 (hmid:mid=(a+e) / 2) (hae:e<=n) (ham:a<=n) (hmn:m<=n) (hp:p.length+w1.length=mid) (h1:mid+u2.length=mid+m-i) (h2:mid+m-i+v2.length=e) (hN:u2.length+v2.length < N) (hn:(p++(w1++((u2++v2)++s))).length=n) (hi:i<=m)
 (hu:u2.Pairwise λ a b=>a.ti<=b.ti) (hv:v2.Pairwise λ a b=>a.ti<=b.ti) (h:Od S0 b t g (p++(w1++((u2++v2)++s))) S)
 (q:∀ w2 S',Stab Ev.ti (u2++v2) w2->Od S0 b t g (p++(w1++(w2++s))) S'->R (0,[vT []]) S') :
 WP (kq65 gR (some ⟨b,0,none⟩) n c a m e cmp (i:Nat) (0,[])) S R:=by
 unfold kq65
 have hh:=half_ (x:=a) (y:=e) (by omega)
 rw [<- hmid] at hh
 have e1:wI ((mid:Int)+(m:Int))=((mid+m:Nat):Int):=by rw [wI_ (by omega) (by omega)]; omega
 have e2:wI (((mid+m:Nat):Int)-(i:Int))=((mid+m-i:Nat):Int):=by rw [wI_ (by omega) (by omega)]; omega
 simp only [wps,hh,e1,e2]
 have triv:(u2=[]\/v2=[])->R (0,[vT []]) S:=by
  intro h0
  refine q (u2++v2) S (Stab.self ?_) h
  rcases h0 with rfl | rfl
  ·exact hv
  ·rw [List.append_nil]; exact hu
 refine ⟨λ g1=>⟨λ g2=>?_,λ g2=>?_⟩,λ g1=>?_⟩
 ·refine (hR S (p++w1) u2 v2 s mid (mid+m-i) e hN (by omega) (by omega) (by simp;omega) h1 h2 (by rw [<- hn]; simp) hu hv (by simpa using h)).mono ?_
  rintro _ S' ⟨rfl,w2,h3,h4⟩
  simp only [wps]
  exact q w2 S' h3 (by simpa using h4)
 ·exact triv (.inr (List.eq_nil_of_length_eq_zero (by omega)))
 ·exact triv (.inl (List.eq_nil_of_length_eq_zero (by omega)))
theorem k2_w {gR:List Value->M Value} {S0 S:St} {b n c a m e i mid:Nat} {t:TypeId} {g:Option Nat} {p u1 v1 u2 v2 s:List Ev} {N:Nat} {R:Nat×List Value->St->Prop} (hR:SymR gR S0 b n c t g cmp N) (hbig:n<=1000000)
 (hmid:mid=(a+e) / 2) (hae:e<=n) (ham:a<=n) (hmn:m<=n) (ha:p.length=a) (h0:a+u1.length=i) (h00:i+v1.length=mid) (h1:mid+u2.length=mid+m-i) (h2:mid+m-i+v2.length=e) (hN:u2.length+v2.length < N) (hN':u1.length+v1.length < N) (hi:i<=m)
 (hn:(p++((u1++v1)++((u2++v2)++s))).length=n)
 (hu:u2.Pairwise λ a b=>a.ti<=b.ti) (hv:v2.Pairwise λ a b=>a.ti<=b.ti) (hu1:u1.Pairwise λ a b=>a.ti<=b.ti) (hv1:v1.Pairwise λ a b=>a.ti<=b.ti) (h:Od S0 b t g (p++((u1++v1)++((u2++v2)++s))) S)
 (q:∀ w1 w2 S',Stab Ev.ti (u1++v1) w1->Stab Ev.ti (u2++v2) w2->Od S0 b t g (p++(w1++(w2++s))) S'->R (0,[vT []]) S') :
 WP (kq66 gR (some ⟨b,0,none⟩) n c a m e cmp (i:Nat) (0,[])) S R:=by
 unfold kq66
 have hh:=half_ (x:=a) (y:=e) (by omega)
 rw [<- hmid] at hh
 have next:∀ S1 w1,Stab Ev.ti (u1++v1) w1->Od S0 b t g (p++(w1++((u2++v2)++s))) S1->WP (kq65 gR (some ⟨b,0,none⟩) n c a m e cmp (i:Nat) (0,[])) S1 R:=by
  intro S1 w1 h3 h4
  have hl:=h3.len
  simp only [List.length_append] at hl
  exact k1_w hR hbig hmid hae ham hmn (by omega) h1 h2 hN (by rw [<- hn]; simp;omega) hi hu hv h4 λ w2 S' h5 h6=>q w1 w2 S' h3 h5 h6
 simp only [wps,hh]
 have triv:(u1=[]\/v1=[])->WP (kq65 gR (some ⟨b,0,none⟩) n c a m e cmp (i:Nat) (0,[])) S R:=by
  intro h0
  refine next S (u1++v1) (Stab.self ?_) h
  rcases h0 with rfl | rfl
  ·exact hv1
  ·rw [List.append_nil]; exact hu1
 refine ⟨λ g1=>⟨λ g2=>?_,λ g2=>?_⟩,λ g1=>?_⟩
 ·refine (hR S p u1 v1 ((u2++v2)++s) a i mid hN' (by omega) (by omega) ha h0 h00 hn hu1 hv1 h).mono ?_
  rintro _ S' ⟨rfl,w1,h3,h4⟩
  simp only [wps]
  exact next S' w1 h3 h4
 ·exact triv (.inr (List.eq_nil_of_length_eq_zero (by omega)))
 ·exact triv (.inl (List.eq_nil_of_length_eq_zero (by omega)))
theorem k3_w (hC:∀ g1 g2,CmpOK (lookD [(277,g1),(272,g2)] C) cmp) {gR:List Value->M Value} {S0 S:St} {b n c a m e mid lo hi:Nat} {t:TypeId} {g:Option Nat} {p u v s:List Ev} {N:Nat} {R:Nat×List Value->St->Prop} (hR:SymR gR S0 b n c t g cmp N)
 (hN:u.length+v.length<=N) (hbig:n<=1000000) (hmid:mid=(a+e) / 2) (ha:p.length=a) (hm:a+u.length=m) (he:m+v.length=e) (hu0:1 < u.length) (hv0:1 < v.length) (hn:(p++((u++v)++s)).length=n)
 (hu:u.Pairwise λ a b=>a.ti<=b.ti) (hv:v.Pairwise λ a b=>a.ti<=b.ti) (h:Od S0 b t g (p++((u++v)++s)) S) (hlo:lo=if mid < m then mid+m-e else a) (hhi:hi=if mid < m then mid else m)
 (q:∀ w S',Stab Ev.ti (u++v) w->Od S0 b t g (p++(w++s)) S'->R (0,[vT []]) S') :
 WP (kq67 C gR (some ⟨b,0,none⟩) n c a m e cmp (0,[vI (lo:Nat),vI (hi:Nat)])) S R:=by
 have hen:e+s.length=n:=by rw [<- hn]; simp;omega
 unfold kq67
 have hh:=half_ (x:=a) (y:=e) (by omega)
 rw [<- hmid] at hh
 have e1:wI ((mid:Int)+(m:Int))=((mid+m:Nat):Int):=by rw [wI_ (by omega) (by omega)]; omega
 have e2:wI (((mid+m:Nat):Int)-1)=((mid+m-1:Nat):Int):=by rw [wI_ (by omega) (by omega)]; omega
 have bnd:a<=lo/\lo<=hi/\hi<=m/\∀ c,lo<=c->c < hi->m<=mid+m-1-c/\mid+m-1-c < e:=by
  by_cases hc:mid < m
  ·rw [if_pos hc] at hlo hhi;refine ⟨by omega,by omega,by omega,λ c h1 h2=>by omega⟩
  ·rw [if_neg hc] at hlo hhi;refine ⟨by omega,by omega,by omega,λ c h1 h2=>by omega⟩
 obtain ⟨b1,b2,b3,b4⟩:=bnd
 have hLu:∀ k (hk:k < u.length) (h:a+k < (p++((u++v)++s)).length),(p++((u++v)++s))[a+k]=u[k]:=by
  intro k hk h
  have e:p++((u++v)++s)=p++(u++(v++s)):=by simp
  simp only [e]
  exact get_in hk (by omega) _
 have hLv:∀ k (hk:k < v.length) (h:m+k < (p++((u++v)++s)).length),(p++((u++v)++s))[m+k]=v[k]:=by
  intro k hk h
  have e:p++((u++v)++s)=(p++u)++(v++s):=by simp
  simp only [e]
  exact get_in hk (by simp;omega) _
 simp only [wps,hh,e1,e2]
 refine bs_w (S0:=S0) (b:=b) (t:=t) (g:=g) (L:=p++((u++v)++s)) (lo:=lo) (hi:=hi) (λ c=>∃ (h:c-a < u.length) (h':mid+m-1-c-m < v.length),u[c-a].ti<=v[mid+m-1-c-m].ti) b2 ?_ ?_ ?_ h
 ·rintro c c' h1 h2 h3 ⟨h4,h5,h6⟩
  have b5:=b4 c' h1 (by omega)
  refine ⟨by omega,by omega,?_⟩
  have l1:=sorted_le hu (i:=c'-a) (j:=c-a) (by omega) h4
  have l2:=sorted_le hv (i:=mid+m-1-c-m) (j:=mid+m-1-c'-m) (by omega) (by omega)
  omega
 ·intro i j S' h1 h2 h3 ho
  have hh2:=half_ (x:=i) (y:=j) (by omega)
  have b5:=b4 ((i+j) / 2) (by omega) (by omega)
  have hd:(i+j) / 2-a < u.length:=by omega
  have hd2:mid+m-1-(i+j) / 2-m < v.length:=by omega
  have e3:wI (((mid+m-1:Nat):Int)-(((i+j) / 2:Nat):Int))=((mid+m-1-(i+j) / 2:Nat):Int):=by rw [wI_ (by omega) (by omega)]; omega
  have g1:(((i+j) / 2:Nat):Int) < (n:Int):=by omega
  have g2:((mid+m-1-(i+j) / 2:Nat):Int) < (n:Int):=by omega
  have g3:(i:Int) < (j:Int):=by omega
  have k1:(i+j) / 2 < (p++((u++v)++s)).length:=by rw [hn]; omega
  have k2:mid+m-1-(i+j) / 2 < (p++((u++v)++s)).length:=by rw [hn]; omega
  have x1:(p++((u++v)++s))[(i+j) / 2]=u[(i+j) / 2-a]:=by
   have:=hLu ((i+j) / 2-a) hd (by rw [hn]; omega)
   rw [<- this]; congr 1;omega
  have x2:(p++((u++v)++s))[mid+m-1-(i+j) / 2]=v[mid+m-1-(i+j) / 2-m]:=by
   have:=hLv (mid+m-1-(i+j) / 2-m) hd2 (by rw [hn]; omega)
   rw [<- this]; congr 1;omega
  obtain ⟨c0,c1,c2,c3,c4,c5⟩:=ho.ev k1
  obtain ⟨d0,d1,d2,d3,d4,d5⟩:=ho.ev k2
  rw [x1] at c0 c1 c2 c3 c4 c5
  rw [x2] at d0 d1 d2 d3 d4 d5
  simp only [wps,hh,e1,e2,hh2,e3,g1,g2,g3,c0,c1,c2,c3,c4,c5,d0,d1,d2,d3,d4,d5]
  refine (hC _ _ S' v[mid+m-1-(i+j) / 2-m] u[(i+j) / 2-a]).use ?_
  rintro _ S3 h3' ⟨d,rfl,hd'⟩
  simp only [wps]
  refine ⟨λ hlt=>⟨ho.more h3',.inl ⟨?_,hd,hd2,?_⟩⟩,λ hlt=>⟨ho.more h3',.inr ?_⟩⟩
  ·rw [wI_ (n:=(((i+j) / 2:Nat):Int)+1) (by omega) (by omega)]; rfl
  ·rcases Int.lt_or_le v[mid+m-1-(i+j) / 2-m].ti u[(i+j) / 2-a].ti with h8 | h8
   ·exact absurd (hd'.2 h8) hlt
   ·exact h8
  ·rintro ⟨_,_,h6⟩
   have:=hd'.1 hlt
   omega
 ·intro i S' h1 h2 h3 h4 ho
  have g3:¬ (i:Int) < (i:Int):=by omega
  have e4:wI (((mid+m:Nat):Int)-(i:Int))=((mid+m-i:Nat):Int):=by rw [wI_ (by omega) (by omega)]; omega
  obtain ⟨u1,u2,v1,v2,hu12,hv12,l1,l2,i1,i2,i3,i4,f1,f2⟩:=split_facts Ev.ti u v a m e mid i lo hi hm.symm he.symm hmid hu0 hv0 hlo hhi h1 h2 hu hv
   (λ c h5 h6 h7 h8=>by obtain ⟨_,_,h9⟩:=h3 c h7 h8;exact h9)
   (λ c h5 h6 h7 h8=>by
     have:=h4 c h7 h8
     rcases Int.lt_or_le v[mid+m-1-c-m].ti u[c-a].ti with h9 | h9
     ·exact h9
     ·exact absurd ⟨h5,h6,h9⟩ this)
  subst hu12 hv12
  simp only [List.length_append] at hm he hu0 hv0 hN
  obtain ⟨su1,su2,_⟩:=List.pairwise_append.1 hu
  obtain ⟨sv1,sv2,_⟩:=List.pairwise_append.1 hv
  have next:∀ S1,Od S0 b t g (p++((u1++v1)++((u2++v2)++s))) S1->WP (kq66 gR (some ⟨b,0,none⟩) n c a m e cmp (i:Nat) (0,[])) S1 R:=by
   intro S1 h9
   have hsm:u2.length+v2.length < N/\u1.length+v1.length < N:=by omega
   refine k2_w hR hbig hmid (by omega) (by omega) (by omega) ha (by omega) (by omega) (by omega) (by omega) hsm.1 hsm.2 i2 (by rw [<- hn]; simp;omega) su2 sv2 su1 sv1 h9 λ w1 w2 S2 h10 h11 h12=>?_
   refine q (w1++w2) S2 (Stab.join h10 h11 hu hv f1 f2) (by simpa using h12)
  simp only [wps,g3,e4]
  refine ⟨by omega,⟨λ g1=>⟨λ g2=>?_,λ g2=>?_⟩,λ g1=>?_⟩⟩
  ·refine (rotate_w (S0:=S0) (S:=S') (b:=b) (n:=n) (c:=c) (a:=i) (m:=m) (e:=mid+m-i) (t:=t) (g:=g) (cmp:=cmp) (p:=p++u1) (u:=u2) (v:=v1) (s:=v2++s) (by omega) (by omega) (by simp;omega) (by omega) (by omega) (by rw [<- hn]; simp) hbig (by simpa using ho)).mono ?_
   rintro _ S2 ⟨rfl,h9⟩
   simp only [wps]
   exact next S2 (by simpa using h9)
  ·have : v1=[]:=List.eq_nil_of_length_eq_zero (by omega)
   subst this
   exact next S' (by simpa using ho)
  ·have : u2=[]:=List.eq_nil_of_length_eq_zero (by omega)
   subst this
   exact next S' (by simpa using ho)
set_option maxRecDepth 20000 in
theorem sym_w (hC:∀ g1 g2,CmpOK (lookD [(277,g1),(272,g2)] C) cmp) {S0:St} {b n c:Nat} {t:TypeId} {g:Option Nat} (hbig:n<=1000000) :
 ∀ f,SymR (rq6a C f) S0 b n c t g cmp f:=by
 intro f
 induction f with
 | zero => intro S p u v s a m e h1; omega
 | succ f ih =>
   intro S p u v s a m e hN hu0 hv0 ha hm he hn hu hv h
   have hen:e+s.length=n:=by rw [<- hn]; simp;omega
   show WP (sq6b C (rq6a C f) _) S _
   rcases Nat.lt_or_ge 1 u.length with hu1 | hu1
   ·rcases Nat.lt_or_ge 1 v.length with hv1 | hv1
    ·rw [gq4s_eq]
     have e0:wI ((m:Int)-(a:Int))=((u.length:Nat):Int):=by rw [wI_ (by omega) (by omega)]; omega
     have e1:wI ((e:Int)-(m:Int))=((v.length:Nat):Int):=by rw [wI_ (by omega) (by omega)]; omega
     have e0':¬ ((u.length:Nat):Int)=1:=by omega
     have e1':¬ ((v.length:Nat):Int)=1:=by omega
     have hh:=half_ (x:=a) (y:=e) (by omega)
     have e2:wI ((((a+e) / 2:Nat):Int)+(m:Int))=(((a+e) / 2+m:Nat):Int):=by rw [wI_ (by omega) (by omega)]; omega
     simp only [wps,e0,e1,e0',e1',hh,e2]
     intro _ _
     refine ⟨λ g1=>?_,λ g1=>?_⟩
     ·have e3:wI ((((a+e) / 2+m:Nat):Int)-(e:Int))=(((a+e) / 2+m-e:Nat):Int):=by rw [wI_ (by omega) (by omega)]; omega
      rw [e3]
      refine k3_w hC ih (by omega) hbig rfl ha hm he hu1 hv1 hn hu hv h (by rw [if_pos (by omega)]) (by rw [if_pos (by omega)]) λ w S' h3 h4=>?_
      simp only [wps]
      exact ⟨rfl,w,h3,h4⟩
     ·refine k3_w hC ih (by omega) hbig rfl ha hm he hu1 hv1 hn hu hv h (by rw [if_neg (by omega)]) (by rw [if_neg (by omega)]) λ w S' h3 h4=>?_
      simp only [wps]
      exact ⟨rfl,w,h3,h4⟩
    ·obtain ⟨x,rfl⟩:=List.length_eq_one_iff.1 (show v.length=1 by omega)
     obtain rfl:e=m+1:=by simpa using he.symm
     exact sym2_w hC ha hm hu1 hn hbig hu h
   ·obtain ⟨x,rfl⟩:=List.length_eq_one_iff.1 (show u.length=1 by omega)
    obtain rfl:m=a+1:=by simpa using hm.symm
    exact sym1_w hC ha he hv0 hn hbig hv h
end Go.AM
namespace Go.AM
open Go Go.Proofs.YtpecnaacgkgjmaaGreatDoor
variable {C:FuncId->List Value->M Value} {cmp:Value}
theorem chk_at {α:Type} {key:α->Int} {b a k:Nat} {l:List α} (h:Chk key b l) (ha:a=k*b):((l.drop a).take b).Pairwise λ x y=>key x<=key y:=by
 subst ha;exact h k
theorem same_app {l1 l2 r1 r2:List Ev} (h1:∀ x,at_key Ev.ti x r1=at_key Ev.ti x l1) (h2:∀ x,at_key Ev.ti x r2=at_key Ev.ti x l2):∀ x,at_key Ev.ti x (r1++r2)=at_key Ev.ti x (l1++l2):=λ x=>by
 rw [at_key_append,at_key_append,h1,h2]
theorem take_add_ {α:Type} (l:List α) (a b:Nat):l.take (a+b)=l.take a++(l.drop a).take b:=List.take_add
theorem merge_w (hC:∀ g1 g2,CmpOK (lookD [(277,g1),(272,g2)] C) cmp) {S0:St} {b n c:Nat} {t:TypeId} {g:Option Nat} {L:List Ev} {blk:Nat} (hb0:0 < blk) (hbn:blk < n) (hL:L.length=n) (hbig:n<=900) (hc:Chk Ev.ti blk L)
 {Q:Nat×List Value->St->Prop} (hQ:∀ (q a:Nat) (D:List Ev) S',a=q*(2*blk)->a<=n->n < a+2*blk->D.length=a->Chk Ev.ti (2*blk) D->(∀ x,at_key Ev.ti x D=at_key Ev.ti x (L.take a))->Od S0 b t g (D++L.drop a) S'->Q (1,[vI (a:Nat)]) S') :
 ∀ {S},Od S0 b t g L S->WP (loopM (λ st=>guardM (st.length=2) ((aI (st.headD topV)).bind λ n_3=>(aI (st.tail.headD topV)).bind λ n_4=>bif decide (n_4<=(n:Int)) then
  (gq4s C [Value.slice (some ⟨b,0,none⟩) n c,vI n_3,vI (wI (n_3+(blk:Int))),vI n_4,cmp]).bind λ v=>(asT v).bind λ vs=>guardM (vs.length=0) (retQ 0 [vI n_4,vI (wI (n_4+wI (2*(blk:Int))))]) else retQ 1 [vI n_3])) [vI 0,vI (wI (2*(blk:Int)))]) S Q:=by
 intro S h
 have e2:wI (2*(blk:Int))=((2*blk:Nat):Int):=by rw [wI_ (by omega) (by omega)]; omega
 rw [e2]
 refine wp_loop (λ st S' m=>∃ (q a:Nat) (D:List Ev),st=[vI a,vI ((a+2*blk:Nat):Int)]/\a=q*(2*blk)/\a<=n/\m=n-a/\D.length=a/\Chk Ev.ti (2*blk) D/\(∀ x,at_key Ev.ti x D=at_key Ev.ti x (L.take a))/\Od S0 b t g (D++L.drop a) S') ?_ n _ _
  ⟨0,0,[],by simp,by omega,by omega,by omega,rfl,.nil,λ x=>by simp [at_key],by simpa using h⟩
 rintro st S' m ⟨q,a,D,rfl,ha,han,rfl,hD,hcD,hsD,ho⟩
 simp only [wps]
 refine ⟨λ h1=>?_,λ h1=>?_⟩
 ·have e3:wI ((a:Int)+(blk:Int))=((a+blk:Nat):Int):=by rw [wI_ (by omega) (by omega)]; omega
  have e4:wI (((a+2*blk:Nat):Int)+((2*blk:Nat):Int))=((a+2*blk+2*blk:Nat):Int):=by rw [wI_ (by omega) (by omega)]; omega
  rw [e3,e4]
  have hu:=chk_at (a:=a) (k:=2*q) hc (by rw [ha,Nat.mul_comm 2 q,Nat.mul_assoc])
  have hv:=chk_at (a:=a+blk) (k:=2*q+1) hc (by rw [ha,Nat.add_mul,Nat.mul_comm 2 q,Nat.mul_assoc]; omega)
  have lu:((L.drop a).take blk).length=blk:=by rw [List.length_take,List.length_drop]; omega
  have lv:((L.drop (a+blk)).take blk).length=blk:=by rw [List.length_take,List.length_drop]; omega
  have eL:D++L.drop a=D++(((L.drop a).take blk++(L.drop (a+blk)).take blk)++L.drop (a+2*blk)):=by
   congr 1
   rw [List.append_assoc]
   conv=>lhs;rw [<- List.take_append_drop blk (L.drop a)]
   congr 1
   rw [List.drop_drop]
   conv=>lhs;rw [<- List.take_append_drop blk (L.drop (a+blk))]
   congr 1
   rw [List.drop_drop]; congr 1;omega
  rw [eL] at ho
  have hw:=sym_w (n:=n) (c:=c) (S0:=S0) (b:=b) (t:=t) (g:=g) hC (by omega) 1000 S' D _ _ _ a (a+blk) (a+2*blk) (by rw [lu,lv]; omega) (by omega) (by omega) hD (by omega) (by omega) (by simp;omega) hu hv ho
  refine WP.mono hw ?_
  rintro _ S2 ⟨rfl,w,h3,h4⟩
  have hwl:=h3.len
  rw [List.length_append,lu,lv] at hwl
  simp only [wps]
  refine ⟨n-(a+2*blk),by omega,q+1,a+2*blk,D++w,rfl,by rw [ha]; exact (Nat.succ_mul q (2*blk)).symm,by omega,rfl,by simp;omega,hcD.snoc (by rw [hD,ha]) h3.ord (by omega),?_,by simpa using h4⟩
  have e5:L.take (a+2*blk)=L.take a++((L.drop a).take blk++(L.drop (a+blk)).take blk):=by
   rw [show a+2*blk=a+(blk+blk) by omega,take_add_,take_add_ (L.drop a),List.drop_drop]
  rw [e5]
  exact same_app hsD h3.same
 ·exact hQ q a D S' ha han (by omega) hD hcD hsD ho
theorem stable_w (hC1:CmpOK C cmp) (hC:∀ g1 g2,CmpOK (lookD [(277,g1),(272,g2)] C) cmp) {S0 S:St} {b n c:Nat} {t:TypeId} {g:Option Nat} {l:List Ev} (hn:l.length=n) (hbig:n<=900) (h:Od S0 b t g l S) :
 WP (gq4q C [.slice (some ⟨b,0,none⟩) n c,vI n,cmp]) S λ r S'=>r=vT []/\∃ w,Stab Ev.ti l w/\Od S0 b t g w S':=by
 rw [gq4q_eq]
 simp only [wps]
 refine wp_loop (λ st S' m=>∃ (q a:Nat) (D:List Ev),st=[vI a,vI ((a+20:Nat):Int)]/\a=q*20/\a<=n/\m=n-a/\D.length=a/\Chk Ev.ti 20 D/\(∀ x,at_key Ev.ti x D=at_key Ev.ti x (l.take a))/\Od S0 b t g (D++l.drop a) S') ?_ n _ _
  ⟨0,0,[],rfl,rfl,by omega,by omega,rfl,.nil,λ x=>by simp [at_key],by simpa using h⟩
 rintro st S' m ⟨q,a,D,rfl,ha,han,rfl,hD,hcD,hsD,ho⟩
 simp only [wps]
 refine ⟨λ h1=>?_,λ h1=>?_⟩
 ·have lu:((l.drop a).take 20).length=20:=by rw [List.length_take,List.length_drop]; omega
  have e4:wI (((a+20:Nat):Int)+20)=((a+20+20:Nat):Int):=by rw [wI_ (by omega) (by omega)]; omega
  rw [e4]
  have eL:D++l.drop a=D++((l.drop a).take 20++l.drop (a+20)):=by
   congr 1
   conv=>lhs;rw [<- List.take_append_drop 20 (l.drop a)]
   rw [List.drop_drop]
  rw [eL] at ho
  refine (insertion_w (n:=n) (c:=c) hC1 hD (by omega) (by simp;omega) (by omega) ho).mono ?_
  rintro _ S2 ⟨rfl,w,h3,h4⟩
  have hwl:=h3.len
  simp only [wps]
  refine ⟨n-(a+20),by omega,q+1,a+20,D++w,rfl,by omega,by omega,rfl,by simp;omega,hcD.snoc (by rw [hD,ha]) h3.ord (by omega),?_,by simpa using h4⟩
  rw [take_add_]
  exact same_app hsD h3.same
 ·refine (insertion_w (n:=n) (c:=c) (s:=[]) hC1 hD (e:=n) (u:=l.drop a) (by rw [List.length_drop]; omega) (by simp;omega) (by omega) (by simpa using ho)).mono ?_
  rintro _ S2 ⟨rfl,w,h3,h4⟩
  have hwl:=h3.len
  rw [List.length_drop] at hwl
  simp only [wps]
  refine wp_loop (λ st S' m=>∃ (blk:Nat) (L:List Ev),st=[vI blk]/\0 < blk/\m=n-blk/\blk<=2000/\L.length=n/\Chk Ev.ti blk L/\(∀ x,at_key Ev.ti x L=at_key Ev.ti x l)/\Od S0 b t g L S') ?_ (n-20) _ _
   ⟨20,D++w,rfl,by omega,rfl,by omega,by simp;omega,hcD.snoc (by rw [hD,ha]) h3.ord (by omega),?_,by simpa using h4⟩
  rotate_left
  ·have:=same_app hsD h3.same
   rwa [List.take_append_drop] at this
  rintro st S3 m ⟨blk,L,rfl,hb0,rfl,hb2,hL,hc,hs,ho3⟩
  simp only [wps]
  refine ⟨λ h5=>?_,λ h5=>?_⟩
  rotate_left
  ·exact ⟨L,⟨hc.all (by omega),hs⟩,ho3⟩
  have e9:wI ((blk:Int)*2)=((2*blk:Nat):Int):=by rw [wI_ (by omega) (by omega)]; omega
  refine merge_w (S0:=S0) hC hb0 (by omega) hL hbig hc ?_ ho3
  intro q2 a2 D2 S4 ha2 han2 hna2 hD2 hcD2 hsD2 ho4
  have e3:wI ((a2:Int)+(blk:Int))=((a2+blk:Nat):Int):=by rw [wI_ (by omega) (by omega)]; omega
  have hu:=chk_at (a:=a2) (k:=2*q2) hc (by rw [ha2,Nat.mul_comm 2 q2,Nat.mul_assoc])
  simp only [wps,e3,e9]
  refine ⟨λ h6=>?_,λ h6=>?_⟩
  ·have hv:=chk_at (a:=a2+blk) (k:=2*q2+1) hc (by rw [ha2,Nat.add_mul,Nat.mul_comm 2 q2,Nat.mul_assoc]; omega)
   rw [List.take_of_length_le (by rw [List.length_drop]; omega)] at hv
   have lu:((L.drop a2).take blk).length=blk:=by rw [List.length_take,List.length_drop]; omega
   have lv:(L.drop (a2+blk)).length=n-(a2+blk):=by rw [List.length_drop]; omega
   have eL:D2++L.drop a2=D2++(((L.drop a2).take blk++L.drop (a2+blk))++[]):=by
    congr 1
    rw [List.append_nil]
    conv=>lhs;rw [<- List.take_append_drop blk (L.drop a2)]
    rw [List.drop_drop]
   rw [eL] at ho4
   refine WP.mono (sym_w (n:=n) (c:=c) (S0:=S0) (b:=b) (t:=t) (g:=g) hC (by omega) 1000 S4 D2 _ _ _ a2 (a2+blk) n (by rw [lu,lv]; omega) (by omega) (by omega) hD2 (by omega) (by omega) (by simp;omega) hu hv ho4) ?_
   rintro _ S5 ⟨rfl,w,h7,h8⟩
   have hwl:=h7.len
   rw [List.length_append,lu,lv] at hwl
   simp only [wps]
   refine ⟨n-2*blk,by omega,2*blk,D2++w,rfl,by omega,rfl,by omega,by simp;omega,hcD2.snoc (by rw [hD2,ha2]) h7.ord (by omega),?_,by simpa using h8⟩
   have e5:L=L.take a2++((L.drop a2).take blk++L.drop (a2+blk)):=by
    conv=>lhs;rw [<- List.take_append_drop a2 L]
    congr 1
    conv=>lhs;rw [<- List.take_append_drop blk (L.drop a2)]
    rw [List.drop_drop]
   intro x
   rw [<- hs x]
   conv=>rhs;rw [e5]
   exact same_app hsD2 h7.same x
  ·rw [List.take_of_length_le (by rw [List.length_drop]; omega)] at hu
   refine ⟨n-2*blk,by omega,2*blk,D2++L.drop a2,rfl,by omega,rfl,by omega,by simp;omega,hcD2.snoc (by rw [hD2,ha2]) hu (by rw [List.length_drop]; omega),?_,ho4⟩
   intro x
   rw [<- hs x]
   conv=>rhs;rw [<- List.take_append_drop a2 L]
   exact same_app hsD2 (λ _=>rfl) x
end Go.AM
namespace Go.AM
open Go Go.Proofs.YtpecnaacgkgjmaaGreatDoor
def ins1 (out:List Ev) (x:Ev):List Ev:=out.filter (λ y=>decide (y.ti<=x.ti))++x :: out.filter (λ y=>decide (x.ti < y.ti))
def sortS (l:List Ev):List Ev:=l.foldl ins1 []
theorem split_at {out:List Ev} (x:Ev) (h:out.Pairwise λ a b=>a.ti<=b.ti):out=out.filter (λ y=>decide (y.ti<=x.ti))++out.filter (λ y=>decide (x.ti < y.ti)):=by
 induction out with
 | nil => rfl
 | cons y out ih =>
   obtain ⟨h1,h2⟩:=List.pairwise_cons.1 h
   have ih:=ih h2
   by_cases hy:y.ti<=x.ti
   ·rw [List.filter_cons,List.filter_cons,if_pos (by simpa using hy),if_neg (by simp;omega),List.cons_append,<- ih]
   ·have e1:out.filter (λ y=>decide (y.ti<=x.ti))=[]:=by
     rw [List.filter_eq_nil_iff]; intro z hz;have:=h1 z hz;simp;omega
    have e2:out.filter (λ y=>decide (x.ti < y.ti))=out:=by
     rw [List.filter_eq_self]; intro z hz;have:=h1 z hz;simp;omega
    rw [List.filter_cons,List.filter_cons,if_neg (by simpa using hy),if_pos (by simp;omega),e1,e2,List.nil_append]
theorem ins1_stab {l out:List Ev} {x:Ev} (h:Stab Ev.ti l out):Stab Ev.ti (l++[x]) (ins1 out x):=by
 have e:=split_at x h.ord
 rw [e] at h
 exact h.ins (λ y hy=>by have:=(List.mem_filter.1 hy).2;simpa using this) (λ y hy=>by have:=(List.mem_filter.1 hy).2;simpa using this)
theorem foldl_stab:∀ (l l0 out:List Ev),Stab Ev.ti l0 out->Stab Ev.ti (l0++l) (l.foldl ins1 out)
 | [], l0, out, h => by simpa using h
 | x :: l, l0, out, h => by
   have:=foldl_stab l (l0++[x]) (ins1 out x) (ins1_stab h)
   simpa using this
theorem sortS_stab (l:List Ev):Stab Ev.ti l (sortS l):=by
 have:=foldl_stab l [] [] (Stab.self .nil)
 simpa [sortS] using this
def ownB (it tr wi:Int) (x:Ev):Bool:=decide (x.it=it) && decide (x.tr=tr) && decide (x.wi=wi)
def ofS (l:List Ev) (it tr wi:Int):List Ev:=sortS (l.filter (ownB it tr wi))
theorem isNaN_w {x:Int}:gq27 [vI x]=M.ret (vB false):=by
 refine wp_eq λ S=>?_
 rw [gq27_eq]
 simp only [wps]
 simp
theorem compare_w {x y:Int}:∃ d,gq26 [vI x,vI y]=M.ret (vI d)/\(d < 0↔x < y):=by
 rcases Int.lt_trichotomy x y with h | h | h
 ·refine ⟨-1,wp_eq λ S=>?_,by omega⟩
  rw [gq26_eq]
  simp only [wps,isNaN_w]
  exact λ h'=>absurd h h'
 ·refine ⟨0,wp_eq λ S=>?_,by omega⟩
  rw [gq26_eq]
  simp only [wps,isNaN_w]
  exact ⟨λ h'=>by omega,λ h' h''=>by omega⟩
 ·refine ⟨1,wp_eq λ S=>?_,by omega⟩
  rw [gq26_eq]
  simp only [wps,isNaN_w]
  exact ⟨λ h'=>by omega,λ h' h''=>by omega⟩
theorem of1_w (S:St) (x y:Ev):Sp (gq4e [x.val,y.val]) S λ v _=>∃ d,v=vI d/\(d < 0↔x.ti < y.ti):=by
 unfold Sp
 rw [gq4e_eq]
 obtain ⟨d,h1,h2⟩:=compare_w (x:=x.ti) (y:=y.ti)
 have hb:=get_add (t:=[AObj.cells [vI y.it,vI y.tr,vI y.wi,vI y.ti,vI y.ad,vU y.ma] 82 none]) (get_new (S:=S) (o:=AObj.cells [vI x.it,vI x.tr,vI x.wi,vI x.ti,vI x.ad,vU x.ma] 82 none))
 simp only [wps,cell_blk hb,h1]
 exact ⟨pre_add (List.prefix_append _ _) _,d,rfl,h2⟩
theorem cmp_ok1:CmpOK (lookD [(223,gq4e)] noC) (.func (.func 223) ⟨[]⟩ ⟨[]⟩):=by
 intro S x y
 simp only [wps,beq_self_eq_true]
 exact of1_w S x y
theorem cmp_ok2 (g1 g2:List Value->M Value):CmpOK (lookD [(277,g1),(272,g2)] (lookD [(223,gq4e)] noC)) (.func (.func 223) ⟨[]⟩ ⟨[]⟩):=by
 intro S x y
 have e1:((277:Nat) == 223)=false:=rfl
 have e2:((272:Nat) == 223)=false:=rfl
 simp only [wps,e1,e2,beq_self_eq_true]
 exact of1_w S x y
theorem stableNil_w {C:FuncId->List Value->M Value} {cmp:Value} {S:St}:WP (gq4q C [.slice none 0 0,vI 0,cmp]) S λ r S'=>r=vT []/\S'=S:=by
 have hins:∀ S,WP (gq4o C [.slice none 0 0,vI 0,vI 0,cmp]) S λ r S'=>r=vT []/\S'=S:=by
  intro S
  rw [gq4o_eq]
  simp only [wps]
  refine wp_round ?_
  simp only [wps]
  rw [wI_ (n:=0+1) (by omega) (by omega)]
  exact λ h=>by omega
 rw [gq4q_eq]
 simp only [wps]
 refine wp_round ?_
 simp only [wps]
 refine ⟨λ h=>by omega,λ _=>?_⟩
 refine (hins S).mono ?_
 rintro _ S1 ⟨rfl,rfl⟩
 simp only [wps]
 refine wp_round ?_
 simp only [wps]
 exact λ h=>by omega
theorem Od.ap {S0 S S':St} {b k:Nat} {l r:List Ev} (ha:Ap S0 none S (some ⟨b,0,none⟩) k 82 6 (l.flatMap Ev.cells)) (h:Od S b 82 (some 6) r S') (hl:r.length=l.length) :
 Ap S0 none S' (some ⟨b,0,none⟩) k 82 6 (r.flatMap Ev.cells) where
 len:=Nat.le_trans ha.len h.len
 keep:=λ i hi hne=>by
  have hb:=ha.new rfl
  rw [h.keep i (Nat.lt_of_lt_of_le hi ha.len) (by intro e;subst e;dsimp at hb;omega),ha.keep i hi hne]
 at_:=ha.at_
 size:=by rw [evc_len,hl]; have:=ha.size;rwa [evc_len] at this
 own:=.inr ⟨b,rfl,h.at_⟩
 was:=.inl rfl
theorem of_w {S:St} {p:Option Addr} {n c:Nat} {l:List Ev} {it tr wi:Int} (h:Ar S p n 6 Ev.cells l) (hn:n<=900) :
 WP (gq4d [.slice p n c,vI it,vI tr,vI wi]) S λ v S'=>∃ a,v=vT [.slice a (ofS l it tr wi).length (ofS l it tr wi).length,vI 0]/\Ap S none S' a (ofS l it tr wi).length 82 6 ((ofS l it tr wi).flatMap Ev.cells):=by
 have hl:=h.1
 rw [gq4d_eq]
 simp only [wps,chk10_w.wp,if_neg (show ¬ 1024 < n by omega)]
 refine wp_loop (λ st S' m=>∃ (j:Nat) (a:Option Addr) (k:Nat),st=[.slice a k k,vI j]/\j<=n/\m=n-j/\Ap S none S' a k 82 6 (((l.take j).filter (ownB it tr wi)).flatMap Ev.cells)) ?_ n _ _
  ⟨0,none,0,rfl,by omega,by omega,Ap.nil⟩
 rintro st S' m ⟨j,a,k,rfl,hj,rfl,ha⟩
 have hcnt:=ha.cnt (λ _=>rfl) (by decide)
 have hcl:((l.take j).filter (ownB it tr wi)).length<=n:=Nat.le_trans (List.length_filter_le _ _) (by rw [List.length_take]; omega)
 simp only [wps]
 refine ⟨λ h3=>⟨h3,?_⟩,λ h3=>?_⟩
 ·have hj':j < l.length:=by omega
  obtain ⟨x,rfl,d0,d1,d2,d3,d4,d5⟩:=(h.mono ha.pre).getEv hj'
  have et:(l.take (j+1)).filter (ownB it tr wi)=(l.take j).filter (ownB it tr wi)++(if ownB it tr wi l[j]=true then [l[j]] else []):=by
   rw [List.take_add_one,List.getElem?_eq_getElem hj',List.filter_append]
   congr 1
   by_cases hf:ownB it tr wi l[j]=true <;> simp [hf]
  simp only [wps,d0,d1,d2,d3,d4,d5]
  rw [wI_ (n:=(j:Int)+1) (by omega) (by omega)]
  have hp2:=List.prefix_append S' [AObj.cells [vI l[j].it,vI l[j].tr,vI l[j].wi,vI l[j].ti,vI l[j].ad,vU l[j].ma] 82 none]
  have hb:=get_new (S:=S') (o:=AObj.cells [vI l[j].it,vI l[j].tr,vI l[j].wi,vI l[j].ti,vI l[j].ad,vU l[j].ma] 82 none)
  have skip:ownB it tr wi l[j]=false->∃ n' < n-j,∃ (j':Nat) (a':Option Addr) (k':Nat),[Value.slice a k k,vI ((j:Int)+1)]=[Value.slice a' k' k',vI j']/\j'<=n/\n'=n-j' /\
   Ap S none (S'++[AObj.cells [vI l[j].it,vI l[j].tr,vI l[j].wi,vI l[j].ti,vI l[j].ad,vU l[j].ma] 82 none]) a' k' 82 6 (((l.take j').filter (ownB it tr wi)).flatMap Ev.cells):=by
   intro hf
   refine ⟨n-(j+1),by omega,j+1,_,_,rfl,by omega,rfl,?_⟩
   rw [et,if_neg (by simp [hf]),List.append_nil]
   exact ha.more hp2
  unfold kq62
  simp only [wps,cell_blk hb]
  refine ⟨λ e1=>⟨λ e2=>⟨λ e3=>?_,λ e3=>skip ?_⟩,λ e2=>skip ?_⟩,λ e1=>skip ?_⟩
  ·refine wp_push (ha.more hp2) rfl (by omega) (by omega) rfl ?_
   intro b' S3 h6
   simp only [wps]
   refine ⟨n-(j+1),by omega,j+1,_,_,rfl,by omega,rfl,?_⟩
   rw [et,if_pos (by unfold ownB;simp [e1,e2,e3]),List.flatMap_append]
   exact h6
  ·unfold ownB;simp [e3]
  ·unfold ownB;simp [e2]
  ·unfold ownB;simp [e1]
 ·rw [List.take_of_length_le (by omega)] at ha hcnt hcl
  have hst:=sortS_stab (l.filter (ownB it tr wi))
  have hlen:=hst.len
  have hout:ofS l it tr wi=sortS (l.filter (ownB it tr wi)):=rfl
  have hk:k=(ofS l it tr wi).length:=by rw [hout,hlen,hcnt]
  rw [gq4n_eq]
  rcases ha.own with ⟨rfl,h0⟩ | ⟨b,rfl,hb⟩
  ·have hnil:l.filter (ownB it tr wi)=[]:=List.eq_nil_of_length_eq_zero (by omega)
   rw [h0] at ha ⊢
   simp only [wps]
   refine stableNil_w.mono ?_
   rintro _ S2 ⟨rfl,rfl⟩
   simp only [wps]
   have : ofS l it tr wi=[]:=by rw [hout,hnil]; rfl
   rw [this]
   exact ⟨none,rfl,by rw [hnil] at ha;exact ha⟩
  ·simp only [wps]
   refine (stable_w (S0:=S') (l:=l.filter (ownB it tr wi)) cmp_ok1 cmp_ok2 hcnt.symm (by omega) (Od.refl hb)).mono ?_
   rintro _ S2 ⟨rfl,w,h3,h4⟩
   simp only [wps]
   have hw:w=ofS l it tr wi:=h3.unique hst
   subst hw
   refine ⟨some ⟨b,0,none⟩,by rw [<- hk],?_⟩
   rw [<- hk]
   exact Od.ap ha h4 (by rw [hout,hlen])
structure Ts where
 m:Mm
 win:Int
 Y:List Int
 fx:List (Int×Fx)
 sl:List (Int×Int)
abbrev TurnF:=Mm->(Bool×List Fx×List Int)×Mm
def Ts.on (s:Ts) (r:(Bool×List Fx×List Int)×Mm) (sl:List (Int×Int)):Ts:=⟨r.2,s.win+1,r.1.2.2,s.fx++r.1.2.1.map (λ x=>(s.win+1,x)),s.sl++sl⟩
def Ts.next (s:Ts) (f:TurnF) (of:Int->List Ev):(Bool×List Fx×List Int)×Mm:=f (s.m.nxt (of (s.win+1)))
def wellT (f:TurnF) (of:Int->List Ev) (step:Int):Nat->Ts->Bool×Ts
 | 0, s => (false, s)
 | k + 1, s => if (s.next f of).1.1 = true then (true, s.on (s.next f of) []) else wellT f of step k (s.on (s.next f of) [(s.win + 1, step)])
structure TP where
 p:Int
 ax:List Ax
 inv:Bool
 times:Nat
def doF (c:TP) (s:Stp) (src dst:Int):TurnF:=λ m=>(((turnV m c.p c.ax c.inv s src dst (2*(nV c.ax+6))).1.1.1,(turnV m c.p c.ax c.inv s src dst (2*(nV c.ax+6))).1.1.2,[]),(turnV m c.p c.ax c.inv s src dst (2*(nV c.ax+6))).2)
def outF (c:TP) (src:Int):TurnF:=λ m=>(((outV m c.p (nV c.ax) src).1.1.2.1,(outV m c.p (nV c.ax) src).1.1.2.2,(outV m c.p (nV c.ax) src).1.1.1),(outV m c.p (nV c.ax) src).2)
def allT (c:TP) (of:Int->List Ev):List Stp->Int->Int->Int->Ts->Bool×Ts
 | [], i, src, _, s => wellT (outF c src) of i c.times s
 | st :: l, i, src, dst, s => if (wellT (doF c st src dst) of i c.times s).1 = true then allT c of l (i + 1) dst src (wellT (doF c st src dst) of i c.times s).2 else wellT (doF c st src dst) of i c.times s
def m0T (p W:Int) (x:List Int) (l:List Ev):Mm:=(layV ⟨List.replicate W.toNat 0,l,0,0⟩ (x++sixL (sumsV p x)) 0).2
def itemV (q:Req) (it:Int):List Int:=(q.X.drop (it*nV q.axes).toNat).take (nV q.axes).toNat
def tpOf (q:Req):TP:=⟨q.P,q.axes,q.inv,(q.retry+1).toNat⟩
def tryT (q:Req) (it tr:Int) (l:List Ev):Bool×Ts:=
 allT (tpOf q) (ofS l it tr) (stepsGo q.inv 0 q.axes) 0 0 (nV q.axes+6) ⟨m0T q.P (makeV q.P q.axes q.inv).1.W (itemV q it) (ofS l it tr 0),0,[],[],[]⟩
structure Tr where
 ok:Bool
 Y:List Int
 fx:List (Int×Fx)
 sl:List (Int×Int)
 ticks:Int
def tryE (q:Req) (it tr:Int) (n:Nat):Int:=if checkV q≠0 then checkV q else if 0<=it/\it < q.batch/\0<=tr/\tr<=q.again/\n<=1024 then 0 else 1
def tryR (q:Req) (it tr:Int) (l:List Ev):Tr:=
 if tryE q it tr l.length=0 then ⟨(tryT q it tr l).1,(tryT q it tr l).2.Y,(tryT q it tr l).2.fx,(tryT q it tr l).2.sl,(tryT q it tr l).2.m.ah+(tryT q it tr l).2.m.t⟩ else ⟨false,[],[],[],0⟩
structure TFok (f:TurnF) (w:Nat) (cost:Int):Prop where
 len:∀ m:Mm,m.W.length=w->(f m).2.W.length=w
 ah:∀ m:Mm,(f m).2.ah=m.ah
 t:∀ m:Mm,m.W.length=w->m.t+7<=(f m).2.t/\(f m).2.t<=m.t+cost+(f m).1.2.1.length
 te:∀ m:Mm,m.W.length=w->(f m).1.1=true->(f m).2.t=m.t+cost+(f m).1.2.1.length
 fx:∀ m:Mm,m.W.length=w->(f m).1.2.1.length<=3
 ne:∀ m:Mm,m.ok->∀ x∈(f m).1.2.1,x.bad≠x.good
 y:∀ m:Mm,m.W.length=w->(f m).1.1=false->(f m).1.2.2=[]
 yl:∀ m:Mm,m.W.length=w->(f m).1.2.2.length<=4096
theorem scrub_ne {m:Mm} (h:m.ok) (p n a:Int):∀ x∈(scrubV m p n a).1.1.1,x.bad≠x.good:=by
 unfold scrubV
 split
 ·intro x hx;cases hx
 ·split
  ·intro x hx;cases hx
  ·dsimp only
   split
   ·intro x hx;cases hx
   ·intro x hx
    obtain ⟨g,hg,rfl⟩:=List.mem_map.1 hx
    exact fix_ne (λ y hy=>((Mm.ok.rds _ h).2 y hy).1) g hg
theorem turn_fx (m:Mm) (p:Int) (l:List Ax) (inv:Bool) (s:Stp) (src dst tab:Int):(turnV m p l inv s src dst tab).1.1.2=[]\/(turnV m p l inv s src dst tab).1.1.2=(scrubV m p (nV l) src).1.1.1:=by
 unfold turnV
 split
 ·exact .inl rfl
 ·split
  ·dsimp only
   split
   ·exact .inl rfl
   ·exact .inr rfl
  ·exact .inl rfl
theorem out_fx (m:Mm) (p n a:Int):(outV m p n a).1.1.2.2=[]\/(outV m p n a).1.1.2.2=(scrubV m p n a).1.1.1:=by
 unfold outV
 dsimp only
 split
 ·exact .inl rfl
 ·split
  ·exact .inl rfl
  ·split
   ·exact .inr rfl
   ·exact .inr rfl
theorem out_ticks {m:Mm} {p a:Int} {n:Nat} (hk:known p=true) (hn:1<=n/\n<=4096) (hN:m.hasN a ((n:Int)+6)=true) :
 (outV m p n a).1.2=0/\(outV m p n a).1.1.2.2.length<=3/\(outV m p n a).2.W.length=m.W.length /\
 (((outV m p n a).1.1=([],false,[])/\(outV m p n a).2.t=m.t+n+6) \/
  ((outV m p n a).2.t=m.t+2*n+6+(outV m p n a).1.1.2.2.length/\(((outV m p n a).1.1.2.1=true/\(outV m p n a).1.1.1.length=n)\/((outV m p n a).1.1.2.1=false/\(outV m p n a).1.1.1=[])))):=by
 obtain ⟨a1,a2,a3⟩:=scrub_t hk hn hN
 obtain ⟨g1,g2,g3,g4⟩:=Mm.rds_len (rowO a n) (scrubV m p n a).2
 rw [rowO_len] at g2 g3
 unfold outV
 rw [Int.toNat_natCast]
 generalize scrubV m p n a=A at a1 a2 a3 g1 g2 g3 g4 ⊢
 dsimp only
 rcases a3 with ⟨e1,e2⟩ | ⟨e1,e2,e3⟩
 ·rw [if_neg (by rw [e1]; decide),if_neg (by rw [e1]; decide)]
  split
  ·exact ⟨rfl,a2,g1.trans a1,.inr ⟨by dsimp only;omega,.inl ⟨rfl,g2⟩⟩⟩
  ·exact ⟨rfl,a2,g1.trans a1,.inr ⟨by dsimp only;omega,.inr ⟨rfl,rfl⟩⟩⟩
 ·rw [if_pos e1]
  exact ⟨rfl,by simp,a1,.inl ⟨rfl,e2⟩⟩
def PlT (n:Int) (w:Nat) (src dst:Int):Prop:=0<=src/\0<=dst/\src+n+6<=w/\dst+n+6<=w
theorem has_of {m:Mm} {w:Nat} (h:m.W.length=w) {a n:Int} (h1:0<=a/\0<=n/\a+n<=w):m.hasN a n=true:=by unfold Mm.hasN;apply decide_eq_true;omega
def costS (c:TP) (st:Stp):Int:=6*nV c.ax+12+2*((tabV c.p c.ax c.inv st).length:Int)
theorem doF_ok {c:TP} {st:Stp} {src dst:Int} {w:Nat} (hs:stepV c.p c.ax st=0) (hp:PlT (nV c.ax) w src dst) (ht:2*(nV c.ax+6)+((tabV c.p c.ax c.inv st).length:Int)<=w):TFok (doF c st src dst) w (costS c st):=by
 obtain ⟨p1,p2,p3,p4⟩:=hp
 obtain ⟨kk,dd,inner,nn,mm,hS⟩:=step_shape hs
 have hnn:=hS.nn
 have hn1:=hS.n1
 have T:∀ m:Mm,m.W.length=w->_:=λ m hm=>turn_ticks (m:=m) (inv:=c.inv) (src:=src) (dst:=dst) (tab:=2*(nV c.ax+6)) hs (has_of hm ⟨p1,by omega,by omega⟩) (has_of hm ⟨p2,by omega,by omega⟩) (has_of hm ⟨by omega,by omega,by omega⟩)
 refine ⟨λ m hm=>(T m hm).2.2.1.trans hm,λ m=>turn_ah _ _ _ _ _ _ _ _,λ m hm=>?_,λ m hm hb=>?_,λ m hm=>(T m hm).2.1,λ m hm=>?_,λ m hm _=>rfl,λ m hm=>Nat.zero_le _⟩
 ·obtain ⟨t1,t2,t3,t4⟩:=T m hm
  unfold doF costS;dsimp only
  rcases t4 with ⟨u1,u2,u3⟩ | u
  ·rw [u2,u3]; exact ⟨by omega,by simp only [List.length_nil]; omega⟩
  ·rw [u]; exact ⟨by omega,by omega⟩
 ·obtain ⟨t1,t2,t3,t4⟩:=T m hm
  unfold doF costS;dsimp only
  rcases t4 with ⟨u1,u2,u3⟩ | u
  ·exact absurd (u1.symm.trans hb) (by decide)
  ·rw [u]; omega
 ·unfold doF;dsimp only
  rcases turn_fx m c.p c.ax c.inv st src dst (2*(nV c.ax+6)) with e | e
  ·rw [e]; intro x hx;cases hx
  ·rw [e]; exact scrub_ne hm _ _ _
theorem outF_ok {c:TP} {src:Int} {w:Nat} (hk:known c.p=true) (hn:1<=nV c.ax/\nV c.ax<=4096) (hp:0<=src/\src+nV c.ax+6<=w):TFok (outF c src) w (2*nV c.ax+6):=by
 obtain ⟨n,hnn⟩:=Int.eq_ofNat_of_zero_le (show 0<=nV c.ax by omega)
 have T:∀ m:Mm,m.W.length=w->_:=λ m hm=>out_ticks (m:=m) (p:=c.p) (a:=src) (n:=n) hk (by omega) (has_of hm ⟨hp.1,by omega,by omega⟩)
 rw [<- hnn] at T
 refine ⟨λ m hm=>(T m hm).2.2.1.trans hm,λ m=>?_,λ m hm=>?_,λ m hm hb=>?_,λ m hm=>(T m hm).2.1,λ m hm=>?_,λ m hm hb=>?_,λ m hm=>?_⟩
 ·have ah:=scrub_ah m c.p (nV c.ax) src
  unfold outF outV;dsimp only
  split
  ·exact ah
  ·split
   ·exact ah
   ·split
    ·exact (Mm.rds_len _ _).2.2.2.trans ah
    ·exact (Mm.rds_len _ _).2.2.2.trans ah
 ·obtain ⟨t1,t2,t3,t4⟩:=T m hm
  unfold outF;dsimp only
  rcases t4 with ⟨u1,u2⟩ | ⟨u,_⟩
  ·rw [u1,u2]; exact ⟨by omega,by simp only [List.length_nil]; omega⟩
  ·rw [u]; exact ⟨by omega,by omega⟩
 ·obtain ⟨t1,t2,t3,t4⟩:=T m hm
  unfold outF;dsimp only
  rcases t4 with ⟨u1,u2⟩ | ⟨u,_⟩
  ·have hb':(outV m c.p (nV c.ax) src).1.1.2.1=true:=hb
   rw [u1] at hb'; cases hb'
  ·rw [u]; omega
 ·unfold outF;dsimp only
  rcases out_fx m c.p (nV c.ax) src with e | e
  ·rw [e]; intro x hx;cases hx
  ·rw [e]; exact scrub_ne hm _ _ _
 ·obtain ⟨t1,t2,t3,t4⟩:=T m hm
  have hb':(outV m c.p (nV c.ax) src).1.1.2.1=false:=hb
  show (outV m c.p (nV c.ax) src).1.1.1=[]
  rcases t4 with ⟨u1,u2⟩ | ⟨u,h | h⟩
  ·rw [u1]
  ·rw [hb'] at h;cases h.1
  ·exact h.2
 ·obtain ⟨t1,t2,t3,t4⟩:=T m hm
  show (outV m c.p (nV c.ax) src).1.1.1.length<=4096
  rcases t4 with ⟨u1,u2⟩ | ⟨u,h | h⟩
  ·rw [u1]; exact Nat.zero_le _
  ·rw [h.2]; omega
  ·rw [h.2]; exact Nat.zero_le _
def Own (L:Nat) (S:St) (a:Option Addr) (t:TypeId) (w:Nat) (cs:List Value):Prop:=(a=none/\cs=[])\/∃ b,a=some ⟨b,0,none⟩/\L<=b/\S[b]? = some (.cells cs t (some w))
theorem Own.nil {L:Nat} {S:St} {t:TypeId} {w:Nat}:Own L S none t w []:=.inl ⟨rfl,rfl⟩
theorem Own.keep {L:Nat} {S S':St} {a:Option Addr} {t:TypeId} {w:Nat} {cs:List Value} (h:Own L S a t w cs) (k:∀ i,a=some ⟨i,0,none⟩->S'[i]? = S[i]?):Own L S' a t w cs:=by
 rcases h with h | ⟨b,e1,e2,e3⟩
 ·exact .inl h
 ·exact .inr ⟨b,e1,e2,by rw [k b e1]; exact e3⟩
theorem Own.pre {L:Nat} {S S':St} {a:Option Addr} {t:TypeId} {w:Nat} {cs:List Value} (h:Own L S a t w cs) (k:S <+: S'):Own L S' a t w cs:=h.imp id λ ⟨b,h1,h2,h3⟩=>⟨b,h1,h2,pre_get k h3⟩
theorem Own.ar {α:Type} {L:Nat} {S:St} {a:Option Addr} {t:TypeId} {w:Nat} {e:α->List Value} {l:List α} (h:Own L S a t w (l.flatMap e)) (hw:∀ x,(e x).length=w) (hw0:0 < w):Ar S a l.length w e l:=by
 rcases h with ⟨rfl,h⟩ | ⟨b,rfl,_,hb⟩
 ·cases l with
  | nil=>exact .nil
  | cons x l=>rw [List.flatMap_cons] at h;have:=hw x;rw [List.append_eq_nil_iff] at h;rw [h.1] at this;simp at this;omega
 ·exact Ar.blk hb (λ x _=>hw x) rfl
theorem wp_pushO {L:Nat} {S:St} {a:Option Addr} {n w bt:Nat} {t t0:TypeId} {cs xs:List Value} {Q:Sl->St->Prop} (h:Own L S a t w cs) (hn:cs.length=n*w) (hx:xs.length=w) (hw:0 < w) (hl:xs.all leafV=true) (hbt:1<=bt/\bt<=100) (hsz:n<=1000000) (hL:L<=S.length)
 (q:∀ b S',S.length<=b->b < S'.length->S.length<=S'.length->(∀ i,i < S.length->a≠some ⟨i,0,none⟩->S'[i]? = S[i]?)->Own L S' (some ⟨b,0,none⟩) t w (cs++xs)->Q ⟨some ⟨b,0,none⟩,n+1,n+1⟩ S') :
 WP (rdN (some (ad S.length 0)) w) (S++[AObj.cells xs t0 none]) λ ys S1=>WP (appM t w bt a n n 1 ys) S1 Q:=by
 refine rdN_ar (get_new (S:=S) (o:=AObj.cells xs t0 none)) hx ?_
 have own':(a=none/\n=0/\cs=[])\/∃ b,a=some ⟨b,0,none⟩/\(S++[AObj.cells xs t0 none])[b]? = some (.cells cs t (some w)):=by
  rcases h with ⟨e1,e2⟩ | ⟨b,e1,_,e3⟩
  ·refine .inl ⟨e1,?_,e2⟩
   rw [e2] at hn
   rcases Nat.mul_eq_zero.1 (show n*w=0 from hn.symm) with h | h
   ·exact h
   ·omega
  ·exact .inr ⟨b,e1,get_add e3⟩
 have hb:(n+1)*bt<=(n+1)*100:=Nat.mul_le_mul_left _ hbt.2
 refine wp_appN own' hn (by omega) (by omega) hbt.1 hl ?_
 intro S' h1 h2 h3
 simp only [List.length_append,List.length_singleton] at h1 h2 h3 ⊢
 exact q _ S' (by omega) (by omega) (by omega) (λ i hi hne=>by rw [h2 i (by omega) hne,List.getElem?_append_left hi]) (.inr ⟨_,rfl,by omega,h3⟩)
def rC (ok:Bool) (ya:Option Addr) (yn:Nat) (fa:Option Addr) (fn:Nat) (sa:Option Addr) (sn:Nat) (tk:Int) (b:Nat) (la:Option Addr) (ln lc:Nat) (it tr win:Int):List Value:=
 [vB ok,.slice ya yn yn,.slice fa fn fn,.slice sa sn sn,vI tk,.pointer (some ⟨b,0,none⟩),.slice la ln lc,vI it,vI tr,vI win]
section
variable {ok ok':Bool} {ya ya' fa fa' sa sa' la:Option Addr} {yn yn' fn fn' sn sn' b ln lc:Nat} {tk tk' it tr win win':Int}
theorem rC_len:(rC ok ya yn fa fn sa sn tk b la ln lc it tr win).length=10:=rfl
theorem rC_0:(rC ok ya yn fa fn sa sn tk b la ln lc it tr win)[0]? = some (vB ok):=rfl
theorem rC_1:(rC ok ya yn fa fn sa sn tk b la ln lc it tr win)[1]? = some (.slice ya yn yn):=rfl
theorem rC_2:(rC ok ya yn fa fn sa sn tk b la ln lc it tr win)[2]? = some (.slice fa fn fn):=rfl
theorem rC_3:(rC ok ya yn fa fn sa sn tk b la ln lc it tr win)[3]? = some (.slice sa sn sn):=rfl
theorem rC_4:(rC ok ya yn fa fn sa sn tk b la ln lc it tr win)[4]? = some (vI tk):=rfl
theorem rC_5:(rC ok ya yn fa fn sa sn tk b la ln lc it tr win)[5]? = some (.pointer (some ⟨b,0,none⟩)):=rfl
theorem rC_6:(rC ok ya yn fa fn sa sn tk b la ln lc it tr win)[6]? = some (.slice la ln lc):=rfl
theorem rC_7:(rC ok ya yn fa fn sa sn tk b la ln lc it tr win)[7]? = some (vI it):=rfl
theorem rC_8:(rC ok ya yn fa fn sa sn tk b la ln lc it tr win)[8]? = some (vI tr):=rfl
theorem rC_9:(rC ok ya yn fa fn sa sn tk b la ln lc it tr win)[9]? = some (vI win):=rfl
theorem rC_s1:splice (rC ok ya yn fa fn sa sn tk b la ln lc it tr win) 1 [.slice ya' yn' yn']=rC ok ya' yn' fa fn sa sn tk b la ln lc it tr win:=rfl
theorem rC_s2:splice (rC ok ya yn fa fn sa sn tk b la ln lc it tr win) 2 [.slice fa' fn' fn']=rC ok ya yn fa' fn' sa sn tk b la ln lc it tr win:=rfl
theorem rC_s3:splice (rC ok ya yn fa fn sa sn tk b la ln lc it tr win) 3 [.slice sa' sn' sn']=rC ok ya yn fa fn sa' sn' tk b la ln lc it tr win:=rfl
theorem rC_s4:splice (rC ok ya yn fa fn sa sn tk b la ln lc it tr win) 4 [vI tk']=rC ok ya yn fa fn sa sn tk' b la ln lc it tr win:=rfl
theorem rC_s9:splice (rC ok ya yn fa fn sa sn tk b la ln lc it tr win) 9 [vI win']=rC ok ya yn fa fn sa sn tk b la ln lc it tr win':=rfl
end
abbrev eRec (it tr:Int) (x:Int×Fx):List Value:=[vI it,vI tr,vI x.1,vI x.2.ad,vU x.2.bad,vU x.2.good]
abbrev eSlp (it tr:Int) (x:Int×Int):List Value:=[vI it,vI tr,vI x.1,vI x.2]
def blk (a:Option Addr):List Nat:=a.toList.map (·.block)
theorem mem_blk {a:Option Addr} {i:Nat}:i∈blk a↔∃ y,a=some y/\y.block=i:=by cases a <;> simp [blk,eq_comm]
abbrev fpR (rb:Nat) (T:List Nat) (fa sa:Option Addr):List Nat:=rb :: (T++(blk fa++blk sa))
theorem Own.blk_lt {L:Nat} {S:St} {a:Option Addr} {t:TypeId} {w:Nat} {cs:List Value} (h:Own L S a t w cs) {i:Nat} (hi:i∈blk a):L<=i/\i < S.length/\a=some ⟨i,0,none⟩:=by
 obtain ⟨y,e,rfl⟩:=mem_blk.1 hi
 rcases h with ⟨e1,_⟩ | ⟨b,e1,e2,hb⟩
 ·rw [e1] at e;cases e
 ·rw [e] at e1;cases e1;exact ⟨e2,pre_lt hb,e⟩
structure RS (la:Option Addr) (ln lc:Nat) (it tr:Int) (S0:St) (M0:List Nat) (S:St) (rb b:Nat) (T:List Nat) (s:Ts) (ya fa sa:Option Addr):Prop where
 mo:Mo M0 S0 (fpR rb T fa sa) S
 r:S[rb]? = some (.cells (rC false ya s.Y.length fa s.fx.length sa s.sl.length 0 b la ln lc it tr s.win) 172 none)
 ms:MS S b s.m T
 y:Ar S ya s.Y.length 1 eU s.Y
 ny:s.Y≠[]->∀ y,ya=some y->y.block∉fpR rb T fa sa
 fx:Own 0 S fa 80 6 (s.fx.flatMap (eRec it tr))
 sl:Own 0 S sa 76 4 (s.sl.flatMap (eSlp it tr))
 rT:rb∉T
 nf:∀ i∈blk fa,i∉T/\i≠rb
 ns:∀ i∈blk sa,i∉T/\i≠rb/\i∉blk fa
 ne:∀ x∈s.fx,x.2.bad≠x.2.good
section
variable {la:Option Addr} {ln lc:Nat} {it tr:Int} {S0:St} {M0:List Nat} {S S':St} {rb b:Nat} {T T':List Nat} {s:Ts} {ya fa sa:Option Addr}
theorem RS.lt (h:RS la ln lc it tr S0 M0 S rb b T s ya fa sa) {i:Nat} (hi:i∈fpR rb T fa sa):i < S.length:=by
 rcases List.mem_cons.1 hi with rfl | hi
 ·exact pre_lt h.r
 ·rcases List.mem_append.1 hi with hi | hi
  ·exact h.ms.lt _ hi
  ·rcases List.mem_append.1 hi with hi | hi
   ·exact (h.fx.blk_lt hi).2.1
   ·exact (h.sl.blk_lt hi).2.1
theorem RS.pre (h:RS la ln lc it tr S0 M0 S rb b T s ya fa sa) (k:S <+: S'):RS la ln lc it tr S0 M0 S' rb b T s ya fa sa:=
 ⟨h.mo.more k,pre_get k h.r,h.ms.pre k,h.y.mono k,h.ny,h.fx.pre k,h.sl.pre k,h.rT,h.nf,h.ns,h.ne⟩
theorem RS.put (h:RS la ln lc it tr S0 M0 S rb b T s ya fa sa) {Y':List Int} {win':Int} {ya':Option Addr} (hy:Ar S ya' Y'.length 1 eU Y') (hn:Y'≠[]->∀ y,ya'=some y->y.block∉fpR rb T fa sa) :
 RS la ln lc it tr S0 M0 (S.set rb (.cells (rC false ya' Y'.length fa s.fx.length sa s.sl.length 0 b la ln lc it tr win') 172 none)) rb b T { s with Y:=Y',win:=win' } ya' fa sa:=by
 have hlt:=pre_lt h.r
 have hk:∀ o:AObj,Kp [rb] S (S.set rb o):=λ o=>⟨by simp,λ i hi hn=>by rw [List.getElem?_set_ne]; rintro rfl;simp at hn⟩
 refine ⟨h.mo.trans ⟨(hk _).mono (by simp),λ i hi=>.inl hi⟩,List.getElem?_set_self hlt,h.ms.kp (hk _) (λ i hi hr=>h.rT (by rw [List.mem_singleton] at hr;exact hr ▸ hi)),?_,hn,?_,?_,h.rT,h.nf,h.ns,h.ne⟩
 ·by_cases hY:Y'=[]
  ·subst hY;exact ⟨rfl,λ i hi=>absurd hi (by simp)⟩
  ·refine hy.keepL λ y e=>?_
   rw [List.getElem?_set_ne]
   rintro rfl
   exact hn hY y e (by simp)
 ·refine h.fx.keep λ i e=>?_
  rw [List.getElem?_set_ne]
  rintro rfl
  exact (h.nf _ (mem_blk.2 ⟨_,e,rfl⟩)).2 rfl
 ·refine h.sl.keep λ i e=>?_
  rw [List.getElem?_set_ne]
  rintro rfl
  exact (h.ns _ (mem_blk.2 ⟨_,e,rfl⟩)).2.1 rfl
theorem RS.mem (h:RS la ln lc it tr S0 M0 S rb b T s ya fa sa) (hY:s.Y=[]) (k:Mo T S T' S') {m':Mm} (hm:MS S' b m' T'):RS la ln lc it tr S0 M0 S' rb b T' { s with m:=m' } ya fa sa:=by
 have hrl:=pre_lt h.r
 have hf:∀ i∈blk fa,i < S.length:=λ i hi=>(h.fx.blk_lt hi).2.1
 have hs:∀ i∈blk sa,i < S.length:=λ i hi=>(h.sl.blk_lt hi).2.1
 refine ⟨h.mo.trans ⟨k.kp.mono (λ i hi=>by simp [hi]),λ i hi=>?_⟩,k.get h.r h.rT,hm,?_,λ e=>absurd hY e,?_,?_,k.out h.rT hrl,λ i hi=>⟨k.out (h.nf i hi).1 (hf i hi),(h.nf i hi).2⟩,λ i hi=>⟨k.out (h.ns i hi).1 (hs i hi),(h.ns i hi).2⟩,h.ne⟩
 ·rcases List.mem_cons.1 hi with rfl | hi
  ·exact .inl (by simp)
  ·rcases List.mem_append.1 hi with hi | hi
   ·rcases k.own i hi with h' | h'
    ·exact .inl (by simp [h'])
    ·exact .inr h'
   ·exact .inl (List.mem_cons_of_mem _ (List.mem_append_right _ hi))
 ·show Ar S' ya s.Y.length 1 eU s.Y
  rw [hY]; exact ⟨rfl,λ i hi=>absurd hi (by simp)⟩
 ·exact h.fx.keep λ i e=>k.kp.keep i (hf i (mem_blk.2 ⟨_,e,rfl⟩)) (h.nf i (mem_blk.2 ⟨_,e,rfl⟩)).1
 ·exact h.sl.keep λ i e=>k.kp.keep i (hs i (mem_blk.2 ⟨_,e,rfl⟩)) (h.ns i (mem_blk.2 ⟨_,e,rfl⟩)).1
theorem RS.ylt (h:RS la ln lc it tr S0 M0 S rb b T s ya fa sa) (hY:s.Y≠[]) {y:Addr} (e:ya=some y):y.block < S.length:=h.y.low (λ x=>⟨_,rfl⟩) hY y e
theorem RS.pushF (h:RS la ln lc it tr S0 M0 S rb b T s ya fa sa) {nb:Nat} {x:Int×Fx} (hx:x.2.bad≠x.2.good) (hb:S.length<=nb) (hlt:nb < S'.length) (hl:S.length<=S'.length) (hk:∀ i,i < S.length->fa≠some ⟨i,0,none⟩->S'[i]? = S[i]?)
 (ho:Own 0 S' (some ⟨nb,0,none⟩) 80 6 (s.fx.flatMap (eRec it tr)++eRec it tr x)) :
 RS la ln lc it tr S0 M0 (S'.set rb (.cells (rC false ya s.Y.length (some ⟨nb,0,none⟩) (s.fx.length+1) sa s.sl.length 0 b la ln lc it tr s.win) 172 none)) rb b T { s with fx:=s.fx++[x] } ya (some ⟨nb,0,none⟩) sa:=by
 have hrl:=pre_lt h.r
 have hT:=h.ms.lt
 have hs:∀ i∈blk sa,i < S.length:=λ i hi=>(h.sl.blk_lt hi).2.1
 have hkp:∀ o:AObj,Kp (rb :: blk fa) S (S'.set rb o):=λ o=>⟨by simp;exact hl,λ i hi hn=>by
  rw [List.getElem?_set_ne (by rintro rfl;simp at hn)]
  exact hk i hi λ e=>hn (List.mem_cons_of_mem _ (mem_blk.2 ⟨_,e,rfl⟩))⟩
 have hbk:blk (some ⟨nb,0,none⟩)=[nb]:=rfl
 refine ⟨h.mo.trans ⟨(hkp _).mono (λ i hi=>?_),λ i hi=>?_⟩,?_,h.ms.kp (hkp _) (λ i hi hr=>?_),?_,λ hY y e=>?_,?_,?_,h.rT,λ i hi=>?_,λ i hi=>?_,λ y hy=>?_⟩
 ·rcases List.mem_cons.1 hi with rfl | hi
  ·simp
  ·exact List.mem_cons_of_mem _ (List.mem_append_right _ (List.mem_append_left _ hi))
 ·rcases List.mem_cons.1 hi with rfl | hi
  ·exact .inl (by simp)
  ·rcases List.mem_append.1 hi with hi | hi
   ·exact .inl (by simp [hi])
   ·rcases List.mem_append.1 hi with hi | hi
    ·rw [hbk,List.mem_singleton] at hi;exact .inr (by omega)
    ·exact .inl (by simp [hi])
 ·show (S'.set rb _)[rb]? = _
  rw [List.getElem?_set_self (by omega),List.length_append]; rfl
 ·rcases List.mem_cons.1 hr with rfl | hr
  ·exact h.rT hi
  ·exact (h.nf i hr).1 hi
 ·by_cases hY:s.Y=[]
  ·show Ar _ ya s.Y.length 1 eU s.Y
   rw [hY]; exact ⟨rfl,λ i hi=>absurd hi (by simp)⟩
  ·refine h.y.keepL λ y e=>?_
   have hn:=h.ny hY y e
   exact (hkp _).keep _ (h.ylt hY e) λ hm=>hn (by
    rcases List.mem_cons.1 hm with hm | hm
    ·rw [hm]; simp
    ·exact List.mem_cons_of_mem _ (List.mem_append_right _ (List.mem_append_left _ hm)))
 ·have hn:=h.ny hY y e
  have hyl:=h.ylt hY e
  intro hm
  rcases List.mem_cons.1 hm with hm | hm
  ·exact hn (by rw [hm]; simp)
  ·rcases List.mem_append.1 hm with hm | hm
   ·exact hn (by simp [hm])
   ·rcases List.mem_append.1 hm with hm | hm
    ·rw [hbk,List.mem_singleton] at hm;omega
    ·exact hn (by simp [hm])
 ·show Own 0 (S'.set rb _) (some ⟨nb,0,none⟩) _ 6 ((s.fx++[x]).flatMap _)
  rw [List.flatMap_append,List.flatMap_cons,List.flatMap_nil,List.append_nil]
  refine ho.keep λ i e=>?_
  cases e
  rw [List.getElem?_set_ne (by omega)]
 ·refine h.sl.keep λ i e=>?_
  have hi:=mem_blk.2 ⟨_,e,rfl⟩
  have h2:=h.ns i hi
  exact (hkp _).keep _ (hs i hi) λ hm=>by
   rcases List.mem_cons.1 hm with hm | hm
   ·exact h2.2.1 hm
   ·exact h2.2.2 hm
 ·rw [hbk,List.mem_singleton] at hi;subst hi
  exact ⟨λ hm=>by have:=hT _ hm;omega,by omega⟩
 ·have h2:=h.ns i hi
  refine ⟨h2.1,h2.2.1,λ hm=>?_⟩
  rw [hbk,List.mem_singleton] at hm;subst hm
  have:=hs _ hi;omega
 ·rcases List.mem_append.1 hy with hy | hy
  ·exact h.ne y hy
  ·rw [List.mem_singleton] at hy;subst hy;exact hx
theorem RS.pushS (h:RS la ln lc it tr S0 M0 S rb b T s ya fa sa) {nb:Nat} {x:Int×Int} (hb:S.length<=nb) (hlt:nb < S'.length) (hl:S.length<=S'.length) (hk:∀ i,i < S.length->sa≠some ⟨i,0,none⟩->S'[i]? = S[i]?)
 (ho:Own 0 S' (some ⟨nb,0,none⟩) 76 4 (s.sl.flatMap (eSlp it tr)++eSlp it tr x)) :
 RS la ln lc it tr S0 M0 (S'.set rb (.cells (rC false ya s.Y.length fa s.fx.length (some ⟨nb,0,none⟩) (s.sl.length+1) 0 b la ln lc it tr s.win) 172 none)) rb b T { s with sl:=s.sl++[x] } ya fa (some ⟨nb,0,none⟩):=by
 have hrl:=pre_lt h.r
 have hT:=h.ms.lt
 have hf:∀ i∈blk fa,i < S.length:=λ i hi=>(h.fx.blk_lt hi).2.1
 have hkp:∀ o:AObj,Kp (rb :: blk sa) S (S'.set rb o):=λ o=>⟨by simp;exact hl,λ i hi hn=>by
  rw [List.getElem?_set_ne (by rintro rfl;simp at hn)]
  exact hk i hi λ e=>hn (List.mem_cons_of_mem _ (mem_blk.2 ⟨_,e,rfl⟩))⟩
 have hbk:blk (some ⟨nb,0,none⟩)=[nb]:=rfl
 refine ⟨h.mo.trans ⟨(hkp _).mono (λ i hi=>?_),λ i hi=>?_⟩,?_,h.ms.kp (hkp _) (λ i hi hr=>?_),?_,λ hY y e=>?_,?_,?_,h.rT,h.nf,λ i hi=>?_,h.ne⟩
 ·rcases List.mem_cons.1 hi with rfl | hi
  ·simp
  ·exact List.mem_cons_of_mem _ (List.mem_append_right _ (List.mem_append_right _ hi))
 ·rcases List.mem_cons.1 hi with rfl | hi
  ·exact .inl (by simp)
  ·rcases List.mem_append.1 hi with hi | hi
   ·exact .inl (by simp [hi])
   ·rcases List.mem_append.1 hi with hi | hi
    ·exact .inl (by simp [hi])
    ·rw [hbk,List.mem_singleton] at hi;exact .inr (by omega)
 ·show (S'.set rb _)[rb]? = _
  rw [List.getElem?_set_self (by omega),List.length_append]; rfl
 ·rcases List.mem_cons.1 hr with rfl | hr
  ·exact h.rT hi
  ·exact (h.ns i hr).1 hi
 ·by_cases hY:s.Y=[]
  ·show Ar _ ya s.Y.length 1 eU s.Y
   rw [hY]; exact ⟨rfl,λ i hi=>absurd hi (by simp)⟩
  ·refine h.y.keepL λ y e=>?_
   have hn:=h.ny hY y e
   exact (hkp _).keep _ (h.ylt hY e) λ hm=>hn (by
    rcases List.mem_cons.1 hm with hm | hm
    ·rw [hm]; simp
    ·exact List.mem_cons_of_mem _ (List.mem_append_right _ (List.mem_append_right _ hm)))
 ·have hn:=h.ny hY y e
  have hyl:=h.ylt hY e
  intro hm
  rcases List.mem_cons.1 hm with hm | hm
  ·exact hn (by rw [hm]; simp)
  ·rcases List.mem_append.1 hm with hm | hm
   ·exact hn (by simp [hm])
   ·rcases List.mem_append.1 hm with hm | hm
    ·exact hn (by simp [hm])
    ·rw [hbk,List.mem_singleton] at hm;omega
 ·refine h.fx.keep λ i e=>?_
  have hi:=mem_blk.2 ⟨_,e,rfl⟩
  exact (hkp _).keep _ (hf i hi) λ hm=>by
   rcases List.mem_cons.1 hm with hm | hm
   ·exact (h.nf i hi).2 hm
   ·exact (h.ns i hm).2.2 hi
 ·show Own 0 (S'.set rb _) (some ⟨nb,0,none⟩) _ 4 ((s.sl++[x]).flatMap _)
  rw [List.flatMap_append,List.flatMap_cons,List.flatMap_nil,List.append_nil]
  refine ho.keep λ i e=>?_
  cases e
  rw [List.getElem?_set_ne (by omega)]
 ·rw [hbk,List.mem_singleton] at hi;subst hi
  exact ⟨λ hm=>by have:=hT _ hm;omega,by omega,λ hm=>by have:=hf _ hm;omega⟩
end
theorem mem_sort {x:Ev} {l:List Ev} (h:x∈sortS l):x∈l:=by
 have key:∀ (l o:List Ev),x∈l.foldl ins1 o->x∈l\/x∈o:=by
  intro l
  induction l with
  | nil=>intro o h;exact .inr h
  | cons y l ih=>
    intro o h
    rw [List.foldl_cons] at h
    rcases ih _ h with h | h
    ·exact .inl (List.mem_cons_of_mem _ h)
    ·unfold ins1 at h
     rcases List.mem_append.1 h with h | h
     ·exact .inr (List.mem_filter.1 h).1
     ·rcases List.mem_cons.1 h with rfl | h
      ·exact .inl (by simp)
      ·exact .inr (List.mem_filter.1 h).1
 rcases key l [] h with h | h
 ·exact h
 ·cases h
theorem mem_ofS {x:Ev} {l:List Ev} {it tr wi:Int} (h:x∈ofS l it tr wi):x∈l:=(List.mem_filter.1 (mem_sort h)).1
theorem ofS_len (l:List Ev) (it tr wi:Int):(ofS l it tr wi).length<=l.length:=by
 have hst:=sortS_stab (l.filter (ownB it tr wi))
 have : (ofS l it tr wi).length=(l.filter (ownB it tr wi)).length:=hst.len
 rw [this]; exact List.length_filter_le _ _
structure TB (s:Ts):Prop where
 t:0<=s.m.t/\s.m.t<=100000
 ah:0<=s.m.ah/\s.m.ah<=s.win*100000
 w:0<=s.win
 fx:(s.fx.length:Int)<=3*s.win
 sl:(s.sl.length:Int)<=s.win
 yl:s.Y.length<=4096
theorem TB.on {s:Ts} (h:TB s) {f:TurnF} {w:Nat} {cost:Int} (hf:TFok f w cost) (hw:s.m.W.length=w) (hc:cost<=90000) (of:Int->List Ev) {sl:List (Int×Int)} (hs:sl.length<=1):TB (s.on (s.next f of) sl)/\(s.on (s.next f of) sl).m.W.length=w:=by
 obtain ⟨h1,h2,h3,h4,h5,_⟩:=h
 have hn:(s.m.nxt (of (s.win+1))).W.length=w:=(Mm.nxt_len _ _).trans hw
 obtain ⟨t1,t2⟩:=hf.t _ hn
 have t3:=hf.fx _ hn
 have t0:(s.m.nxt (of (s.win+1))).t=0:=rfl
 have a0:(s.m.nxt (of (s.win+1))).ah=s.m.ah+s.m.t:=rfl
 refine ⟨⟨?_,?_,?_,?_,?_,hf.yl _ hn⟩,hf.len _ hn⟩
 ·show 0<=(f (s.m.nxt (of (s.win+1)))).2.t/\(f (s.m.nxt (of (s.win+1)))).2.t<=100000
  omega
 ·show 0<=(f (s.m.nxt (of (s.win+1)))).2.ah/\(f (s.m.nxt (of (s.win+1)))).2.ah<=(s.win+1)*100000
  rw [hf.ah,a0]; omega
 ·show 0<=s.win+1;omega
 ·show ((s.fx++_).length:Int)<=3*(s.win+1)
  rw [List.length_append,List.length_map]
  have : (s.next f of).1.2.1.length<=3:=t3
  omega
 ·show ((s.sl++sl).length:Int)<=s.win+1
  rw [List.length_append]; omega
def DoS (la:Option Addr) (ln lc:Nat) (it tr:Int) (S0:St) (M0:List Nat) (rb b:Nat) (C:FuncId->List Value->M Value) (dv:Value) (f:TurnF) (w:Nat):Prop:=
 ∀ (S:St) (T:List Nat) (s:Ts) (ya fa sa:Option Addr),RS la ln lc it tr S0 M0 S rb b T s ya fa sa->s.Y=[]->(0<=s.m.t/\s.m.t < 1000000)->s.m.W.length=w ->
  WP (callV C dv []) S λ v S'=>∃ xa ya',v=vT [vA [vB (f s.m).1.1,.slice xa (f s.m).1.2.1.length (f s.m).1.2.1.length],vI 0]/\RS la ln lc it tr S0 M0 S' rb b T { s with m:=(f s.m).2,Y:=(f s.m).1.2.2 } ya' fa sa/\OwnF S.length S' xa (f s.m).1.2.1/\S.length<=S'.length
set_option maxHeartbeats 4000000 in
set_option maxRecDepth 20000 in
theorem well_w {C:FuncId->List Value->M Value} {la:Option Addr} {ln lc:Nat} {it tr:Int} {S0:St} {M0:List Nat} {rb b:Nat} {dv:Value} {f:TurnF} {w:Nat} {cost step:Int} {times:Nat}
 (hd:DoS la ln lc it tr S0 M0 rb b (lookD [(170,gq4d),(28,gq3d)] C) dv f w) (hf:TFok f w cost) (hc:cost<=90000)
 {l:List Ev} (hl:Ar S0 la ln 6 Ev.cells l) (hlM:l≠[]->∀ y,la=some y->y.block∉M0) (hln:ln<=900) (hlk:∀ x∈l,Go.Proofs.YtpecnaacgkgjmaaGreatDoor.u64r x.ma) (hlt:∀ x∈l,x.ti<=9223372036854775807)
 {S:St} {T:List Nat} {s:Ts} {ya fa sa:Option Addr} (h:RS la ln lc it tr S0 M0 S rb b T s ya fa sa) (hY:s.Y=[]) (hB:TB s) (hw:s.m.W.length=w) (hwin:s.win+times<=200000) (ht:times<=1000) :
 WP (gq5a C [.pointer (some ⟨rb,0,none⟩),vI step,vI times,dv]) S λ v S'=>v=vT [vB (wellT f (ofS l it tr) step times s).1,vI 0] /\
  ∃ T' ya' fa' sa',RS la ln lc it tr S0 M0 S' rb b T' (wellT f (ofS l it tr) step times s).2 ya' fa' sa'/\TB (wellT f (ofS l it tr) step times s).2/\(wellT f (ofS l it tr) step times s).2.m.W.length=w/\(wellT f (ofS l it tr) step times s).2.win<=s.win+times /\
  ((wellT f (ofS l it tr) step times s).1=false->(wellT f (ofS l it tr) step times s).2.Y=[]):=by
 rw [gq5a_eq]
 simp only [wps]
 generalize hV:wellT f (ofS l it tr) step times s=V
 refine wp_loop (λ st S' m=>∃ (j:Nat) (T':List Nat) (s':Ts) (ya' fa' sa':Option Addr),st=[vN j]/\m=times-j/\j<=times/\RS la ln lc it tr S0 M0 S' rb b T' s' ya' fa' sa'/\s'.Y=[]/\TB s'/\s'.m.W.length=w/\s'.win=s.win+j/\wellT f (ofS l it tr) step (times-j) s'=V) ?_ times _ _
  ⟨0,T,s,ya,fa,sa,rfl,rfl,Nat.zero_le _,h,hY,hB,hw,by simp,hV⟩
 rintro st S1 m ⟨j,T1,s1,ya1,fa1,sa1,rfl,rfl,hj,h1,hY1,hB1,hw1,hwj,hV1⟩
 simp only [wps]
 have hlen0:=hl.1
 refine ⟨λ h3=>?_,λ h3=>?_⟩
 rotate_left
 ·obtain rfl:j=times:=by omega
  rw [Nat.sub_self] at hV1
  have : V=(false,s1):=hV1.symm
  rw [this]
  exact ⟨rfl,T1,ya1,fa1,sa1,h1,hB1,hw1,by dsimp only;omega,λ _=>hY1⟩
 have hj':j < times:=by omega
 have hB1w:=hB1.w
 have hr1:=h1.r
 have hrl:=pre_lt hr1
 rw [wI_ (n:=(j:Int)+1) (by omega) (by omega)]
 simp only [wps,cell_blk hr1,hr1,rC_9,rC_len,rC_s9,Nat.reduceAdd,Nat.reduceLeDiff]
 rw [wI_ (n:=s1.win+1) (by omega) (by omega)]
 have h2:=h1.put (Y':=s1.Y) (win':=s1.win+1) (ya':=ya1) h1.y h1.ny
 generalize hS2:S1.set rb (AObj.cells (rC false ya1 s1.Y.length fa1 s1.fx.length sa1 s1.sl.length 0 b la ln lc it tr (s1.win+1)) 172 none)=S2 at h2 ⊢
 have hr2:=h2.r
 dsimp only at hr2
 simp only [wps,cell_blk hr2,rC_6,rC_7,rC_8,rC_9]
 have hl2:Ar S2 la ln 6 Ev.cells l:=h2.mo.kp.ar hl λ hne y e=>hlM hne y e
 refine (of_w (c:=lc) (it:=it) (tr:=tr) (wi:=s1.win+1) hl2 hln).mono ?_
 rintro _ S3 ⟨oa,rfl,ho⟩
 have hoa:=ho.ar (λ _=>rfl) (by decide)
 have h3':=h2.pre ho.pre
 have hr3:=h3'.r
 dsimp only at hr3
 have hol:=ofS_len l it tr (s1.win+1)
 have hok:∀ x∈ofS l it tr (s1.win+1),Go.Proofs.YtpecnaacgkgjmaaGreatDoor.u64r x.ma:=λ x hx=>hlk x (mem_ofS hx)
 have hot:∀ x∈ofS l it tr (s1.win+1),x.ti<=9223372036854775807:=λ x hx=>hlt x (mem_ofS hx)
 have hB1t:=hB1.t
 have hB1a:=hB1.ah
 simp only [wps,cell_blk hr3,rC_5]
 refine (nextm_w (c:=(ofS l it tr (s1.win+1)).length) h3'.ms hoa (by omega) hok ⟨hB1t.1,by dsimp only;omega⟩ ⟨hB1a.1,by dsimp only;omega⟩ hot).mono ?_
 rintro _ S4 ⟨rfl,k4,m4⟩
 have h4:=h3'.mem hY1 k4 m4
 simp only [wps]
 refine (hd S4 _ _ ya1 fa1 sa1 h4 hY1 ⟨by show (0:Int)<=0;omega,by show (0:Int) < 1000000;omega⟩ ((Mm.nxt_len _ _).trans hw1)).mono ?_
 rintro _ S5 ⟨xa,ya5,rfl,h5,o5,hl5⟩
 have hnx:f (s1.m.nxt (ofS l it tr (s1.win+1)))=s1.next f (ofS l it tr):=rfl
 dsimp only at h5 o5 ⊢
 rw [hnx] at h5 o5 ⊢
 have hne:∀ x∈(s1.next f (ofS l it tr)).1.2.1,x.bad≠x.good:=λ x hx=>hf.ne _ m4.ok x hx
 have hyb:(s1.next f (ofS l it tr)).1.1=false->(s1.next f (ofS l it tr)).1.2.2=[]:=λ e=>hf.y _ ((Mm.nxt_len _ _).trans hw1) e
 have hx3:(s1.next f (ofS l it tr)).1.2.1.length<=3:=hf.fx _ ((Mm.nxt_len _ _).trans hw1)
 have hBon:=λ sl hs=>hB1.on hf hw1 hc (ofS l it tr) (sl:=sl) hs
 have hVs:wellT f (ofS l it tr) step (times-j) s1=if (s1.next f (ofS l it tr)).1.1=true then (true,s1.on (s1.next f (ofS l it tr)) []) else wellT f (ofS l it tr) step (times-(j+1)) (s1.on (s1.next f (ofS l it tr)) [(s1.win+1,step)]):=by
  rw [show times-j=(times-(j+1))+1 by omega]; rfl
 rw [hV1] at hVs
 generalize hR:s1.next f (ofS l it tr)=R at h5 o5 hne hyb hx3 hBon hVs ⊢
 have hp6:=List.prefix_append S5 [AObj.cells [vB R.1.1,.slice xa R.1.2.1.length R.1.2.1.length] 52 none]
 have z6:=get_new (S:=S5) (o:=AObj.cells [vB R.1.1,.slice xa R.1.2.1.length R.1.2.1.length] 52 none)
 simp only [wps]
 generalize hS6:S5++[AObj.cells [vB R.1.1,.slice xa R.1.2.1.length R.1.2.1.length] 52 none]=S6 at hp6 z6 ⊢
 have h6:=h5.pre hp6
 have o6:=o5.pre hp6
 have ho6:∀ i∈blk xa,i∉fpR rb (T1++newT S3 S4) fa1 sa1:=λ i hi hm=>by
  obtain ⟨y,e,rfl⟩:=mem_blk.1 hi
  rcases o5 with ⟨e1,_⟩ | ⟨q,e1,e2,e3⟩
  ·rw [e1] at e;cases e
  ·rw [e1] at e;cases e
   have:=h4.lt hm
   dsimp only at this;omega
 have hsl6:S5.length∉fpR rb (T1++newT S3 S4) fa1 sa1:=λ hm=>by have:=h5.lt hm;omega
 refine wp_loop (λ st S' m=>∃ (i:Nat) (fa':Option Addr),st=[vN i]/\m=R.1.2.1.length-i/\i<=R.1.2.1.length/\RS la ln lc it tr S0 M0 S' rb b (T1++newT S3 S4) ⟨R.2,s1.win+1,R.1.2.2,s1.fx++(R.1.2.1.take i).map (λ x=>(s1.win+1,x)),s1.sl⟩ ya5 fa' sa1 /\
  OwnF S4.length S' xa R.1.2.1/\S'[S5.length]? = some (AObj.cells [vB R.1.1,.slice xa R.1.2.1.length R.1.2.1.length] 52 none)/\(∀ q∈blk xa,q∉fpR rb (T1++newT S3 S4) fa' sa1)/\S5.length∉fpR rb (T1++newT S3 S4) fa' sa1) ?_ R.1.2.1.length _ _
  ⟨0,fa1,rfl,rfl,Nat.zero_le _,by simp only [List.take_zero,List.map_nil,List.append_nil]; exact h6,o6,z6,ho6,hsl6⟩
 rintro st S7 _ ⟨i,fa7,rfl,rfl,hi,h7,o7,z7,q7,u7⟩
 have hr7:=h7.r
 dsimp only at hr7
 simp only [wps]
 refine ⟨λ g3=>?_,λ g3=>?_⟩
 ·have hi':i < R.1.2.1.length:=by omega
  obtain ⟨xb,rfl,c0,c1,c2⟩:=getFx o7.ar hi'
  rw [wI_ (n:=(i:Int)+1) (by omega) (by omega)]
  have hp8:=List.prefix_append S7 [AObj.cells [vI R.1.2.1[i].ad,vU R.1.2.1[i].bad,vU R.1.2.1[i].good] 78 none]
  have z8:=get_new (S:=S7) (o:=AObj.cells [vI R.1.2.1[i].ad,vU R.1.2.1[i].bad,vU R.1.2.1[i].good] 78 none)
  simp only [wps,c0,c1,c2,Int.toNat_natCast]
  refine ⟨g3,?_⟩
  generalize hS8:S7++[AObj.cells [vI R.1.2.1[i].ad,vU R.1.2.1[i].bad,vU R.1.2.1[i].good] 78 none]=S8 at hp8 z8 ⊢
  have h8:=h7.pre hp8
  have hr8:=h8.r
  dsimp only at hr8
  have o8:=o7.pre hp8
  have z8':=pre_get hp8 z7
  have h8l:S7.length<=S8.length:=hp8.length_le
  have hxl:∀ q∈blk (some xb),q < S8.length:=λ q hq=>by
   obtain ⟨y,e,rfl⟩:=mem_blk.1 hq
   rcases o8 with ⟨e1,_⟩ | ⟨q,e1,e2,e3⟩
   ·cases e1
   ·rw [e1] at e;cases e;exact pre_lt e3
  have hul:=pre_lt z8'
  have hfl:(s1.fx++(R.1.2.1.take i).map (λ x=>(s1.win+1,x))).length<=1000000:=by
   have:=hB1.fx
   rw [List.length_append,List.length_map,List.length_take]; omega
  simp only [wps,cell_blk hr8,rC_2,rC_7,rC_8,rC_9,cell_blk z8,gcz,gcs]
  refine wp_pushO h8.fx (flat_len (e:=eRec it tr) (w:=6) (λ _=>rfl) _) rfl (by decide) rfl (by decide) hfl (Nat.zero_le _) ?_
  intro nb S9 k1 k2 k3 k9 ho9
  have h9:=h8.pushF (x:=(s1.win+1,R.1.2.1[i])) (hne _ (List.getElem_mem _)) k1 k2 k3 k9 ho9
  have keep9:∀ q,q < S8.length->q∉fpR rb (T1++newT S3 S4) fa7 sa1->∀ o:AObj,(S9.set rb o)[q]? = S8[q]?:=λ q hq hn o=>by
   have hrq:rb≠q:=λ e=>hn (by rw [<- e]; exact List.mem_cons_self)
   rw [List.getElem?_set_ne hrq]
   exact k9 q hq λ e=>hn (List.mem_cons_of_mem _ (List.mem_append_right _ (List.mem_append_left _ (mem_blk.2 ⟨⟨q,0,none⟩,e,rfl⟩))))
  have fp9:∀ q,q < S8.length->q∉fpR rb (T1++newT S3 S4) fa7 sa1->q∉fpR rb (T1++newT S3 S4) (some ⟨nb,0,none⟩) sa1:=λ q hq hn hm=>by
   rcases List.mem_cons.1 hm with hm | hm
   ·exact hn (by rw [hm]; exact List.mem_cons_self)
   ·rcases List.mem_append.1 hm with hm | hm
    ·exact hn (List.mem_cons_of_mem _ (List.mem_append_left _ hm))
    ·rcases List.mem_append.1 hm with hm | hm
     ·rw [show blk (some (⟨nb,0,none⟩:Addr))=[nb] from rfl,List.mem_singleton] at hm;omega
     ·exact hn (List.mem_cons_of_mem _ (List.mem_append_right _ (List.mem_append_right _ hm)))
  have hr9:S9[rb]? = S8[rb]?:=k9 rb (pre_lt hr8) λ e=>(h8.nf rb (mem_blk.2 ⟨_,e,rfl⟩)).2 rfl
  rw [hr8] at hr9
  simp only [wps,hr9,rC_len,rC_s2,Nat.reduceAdd,Nat.reduceLeDiff]
  have hsn:s1.fx++(R.1.2.1.take (i+1)).map (λ x=>(s1.win+1,x))=(s1.fx++(R.1.2.1.take i).map (λ x=>(s1.win+1,x)))++[(s1.win+1,R.1.2.1[i])]:=by
   rw [take_snoc hi',List.map_append,<- List.append_assoc]; rfl
  refine ⟨R.1.2.1.length-(i+1),by omega,i+1,some ⟨nb,0,none⟩,rfl,rfl,by omega,?_,?_,?_,?_,?_⟩
  ·rw [hsn]; exact h9
  ·exact o8.keep λ q e=>keep9 q (hxl q (mem_blk.2 ⟨_,e,rfl⟩)) (q7 q (mem_blk.2 ⟨_,e,rfl⟩)) _
  ·rw [keep9 _ hul u7]; exact z8'
  ·exact λ q hq=>fp9 q (hxl q hq) (q7 q hq)
  ·exact fp9 _ hul u7
 ·obtain rfl:i=R.1.2.1.length:=by omega
  rw [List.take_length] at h7 hr7
  simp only [wps,cell_blk z7,List.getElem?_cons_zero]
  refine ⟨λ e=>?_,λ e=>?_⟩
  ·rw [if_pos e] at hVs
   rw [hVs]
   obtain ⟨b1,b2⟩:=hBon [] (by simp)
   refine ⟨rfl,T1++newT S3 S4,ya5,fa7,sa1,?_,b1,b2,by show s1.win+1<=_;omega,λ e=>by cases e⟩
   show RS la ln lc it tr S0 M0 S7 rb b _ ⟨R.2,s1.win+1,R.1.2.2,s1.fx++R.1.2.1.map (λ x=>(s1.win+1,x)),s1.sl++[]⟩ _ _ _
   rw [List.append_nil]
   exact h7
  ·have e':R.1.1=false:=e
   rw [e',if_neg (by decide)] at hVs
   have hYR:=hyb e'
   simp only [wps,cell_blk hr7,rC_3,rC_7,rC_8,rC_9]
   have hsl:s1.sl.length<=1000000:=by have:=hB1.sl;omega
   refine wp_pushO h7.sl (flat_len (e:=eSlp it tr) (w:=4) (λ _=>rfl) _) rfl (by decide) rfl (by decide) hsl (Nat.zero_le _) ?_
   intro nb S9 k1 k2 k3 k9 ho9
   have h9:=h7.pushS (x:=(s1.win+1,step)) k1 k2 k3 k9 ho9
   have hr9:S9[rb]? = S7[rb]?:=k9 rb (pre_lt hr7) λ e=>(h7.ns rb (mem_blk.2 ⟨_,e,rfl⟩)).2.1 rfl
   rw [hr7] at hr9
   simp only [wps,hr9,rC_len,rC_s3,Nat.reduceAdd,Nat.reduceLeDiff]
   obtain ⟨b1,b2⟩:=hBon [(s1.win+1,step)] (by simp)
   exact ⟨times-(j+1),by omega,j+1,_,_,_,_,_,rfl,rfl,by omega,h9,hYR,b1,b2,by show s1.win+1=_;omega,hVs.symm⟩
theorem RS.other {la:Option Addr} {ln lc:Nat} {it tr:Int} {S0:St} {M0:List Nat} {S:St} {rb b:Nat} {T:List Nat} {s:Ts} {ya fa sa:Option Addr} (h:RS la ln lc it tr S0 M0 S rb b T s ya fa sa) {i:Nat} (hi:i∉fpR rb T fa sa) (hl:S0.length<=i) (hy:s.Y≠[]->∀ y,ya=some y->y.block≠i) (o:AObj) :
 RS la ln lc it tr S0 M0 (S.set i o) rb b T s ya fa sa:=by
 have hk:∀ j,j≠i->(S.set i o)[j]? = S[j]?:=λ j hj=>List.getElem?_set_ne (λ e=>hj e.symm)
 have hm:∀ j∈fpR rb T fa sa,j≠i:=λ j hj e=>hi (e ▸ hj)
 refine ⟨⟨⟨by rw [List.length_set]; exact h.mo.kp.len,λ j hj hn=>by rw [hk j (by omega),h.mo.kp.keep j hj hn]⟩,h.mo.own⟩,?_,h.ms.kp (M:=[i]) ⟨by simp,λ j hj hn=>hk j (by simpa using hn)⟩ (λ j hj e=>?_),?_,h.ny,?_,?_,h.rT,h.nf,h.ns,h.ne⟩
 ·rw [hk rb (hm rb (by simp))]; exact h.r
 ·rw [List.mem_singleton] at e;exact hm j (by simp [hj]) e
 ·by_cases hY:s.Y=[]
  ·rw [hY]; exact ⟨rfl,λ i hi=>absurd hi (by simp)⟩
  ·exact h.y.keepL λ y e=>hk _ (hy hY y e)
 ·exact h.fx.keep λ j e=>hk j (hm j (List.mem_cons_of_mem _ (List.mem_append_right _ (List.mem_append_left _ (mem_blk.2 ⟨⟨j,0,none⟩,e,rfl⟩)))))
 ·exact h.sl.keep λ j e=>hk j (hm j (List.mem_cons_of_mem _ (List.mem_append_right _ (List.mem_append_right _ (mem_blk.2 ⟨⟨j,0,none⟩,e,rfl⟩)))))
section
variable {la:Option Addr} {ln lc:Nat} {it tr:Int} {S0:St} {M0:List Nat} {rb b:Nat} {q:Req} {a1 a4 a5:Option Addr} {c1 c4 c5 n0 n1 n2 n4 n5 n6:Nat} {src dst N TT W:Int} {sl:Value} {st:Stp} {w:Nat}
set_option maxHeartbeats 2000000 in
set_option maxRecDepth 20000 in
theorem do_dos (hr:S0[n0]? = some (.cells [.pointer (some ⟨rb,0,none⟩)] 167 none)) (hq:S0[n1]? = some (.cells (qc q a1 c1 a4 c4 a5 c5) 62 none)) (hs:S0[n6]? = some (.cells (spC st) 29 none))
 (h4:S0[n4]? = some (.cells [vI src] 3 none)) (h5:S0[n5]? = some (.cells [vI dst] 3 none)) (hp:S0[n2]? = some (.cells [vI (nV q.axes),vI TT,vI W,sl] 90 none))
 (hM:n0∉M0/\n1∉M0/\n6∉M0/\n4∉M0/\n5∉M0/\n2∉M0) (hax:Ar S0 a1 q.axes.length 2 eAx q.axes) (haM:∀ y,a1=some y->q.axes≠[]->y.block∉M0) (hb1:q.axes.length<=8796093022208)
 (hst:stepV q.P q.axes st=0) (hpl:PlT (nV q.axes) w src dst) (htb:2*(nV q.axes+6)+((tabV q.P q.axes q.inv st).length:Int)<=w) (hn:1<=nV q.axes/\nV q.axes<=4096) :
 DoS la ln lc it tr S0 M0 rb b (lookD [(170,gq4d),(28,gq3d)] (lookD [(173,gq59)] (lookD [(172,gq58)] noC)))
  (.func (.func 172) ⟨[]⟩ ⟨[.pointer (some ⟨n0,0,none⟩),.pointer (some ⟨n1,0,none⟩),.pointer (some ⟨n6,0,none⟩),.pointer (some ⟨n4,0,none⟩),.pointer (some ⟨n5,0,none⟩),.pointer (some ⟨n2,0,none⟩)]⟩) (doF (tpOf q) st src dst) w:=by
 intro S T s ya fa sa h hY ht hw
 have e:callV (lookD [(170,gq4d),(28,gq3d)] (lookD [(173,gq59)] (lookD [(172,gq58)] noC)))
  (.func (.func 172) ⟨[]⟩ ⟨[.pointer (some ⟨n0,0,none⟩),.pointer (some ⟨n1,0,none⟩),.pointer (some ⟨n6,0,none⟩),.pointer (some ⟨n4,0,none⟩),.pointer (some ⟨n5,0,none⟩),.pointer (some ⟨n2,0,none⟩)]⟩) [] =
  gq58 [.pointer (some ⟨n0,0,none⟩),.pointer (some ⟨n1,0,none⟩),.pointer (some ⟨n6,0,none⟩),.pointer (some ⟨n4,0,none⟩),.pointer (some ⟨n5,0,none⟩),.pointer (some ⟨n2,0,none⟩)]:=rfl
 rw [e,gq58_eq]
 obtain ⟨m0,m1,m6,m4,m5,m2⟩:=hM
 have hp0:=List.prefix_append S [AObj.cells [vB false,.slice none 0 0] 52 none]
 have y0:=get_new (S:=S) (o:=AObj.cells [vB false,.slice none 0 0] 52 none)
 have nS:S.length∉fpR rb T fa sa:=λ hm=>by have:=h.lt hm;omega
 have hS0:=h.mo.kp.len
 have h1:=h.pre hp0
 simp only [wps]
 generalize hS1:S++[AObj.cells [vB false,.slice none 0 0] 52 none]=S1 at hp0 y0 h1 ⊢
 have g:∀ {i:Nat} {o:AObj},S0[i]? = some o->i∉M0->S1[i]? = some o:=λ hi hm=>h1.mo.get hi hm
 have hr1:=h1.r
 simp only [wps,cell_blk (g hr m0),cell_blk (g hq m1),cell_blk (g hs m6),cell_blk (g h4 m4),cell_blk (g h5 m5),cell_blk (g hp m2),cell_blk hr1,rC_5,gcz,gcs]
 rw [wI_ (n:=nV q.axes+6) (by omega) (by omega),wI_ (n:=2*(nV q.axes+6)) (by omega) (by omega)]
 have har:Ar S1 a1 q.axes.length 2 eAx q.axes:=h1.mo.kp.ar hax λ hne y e=>haM y e hne
 have haT:∀ y,a1=some y->q.axes≠[]->y.block∉T:=λ y e hne hm=>by
  have hl:y.block < S0.length:=hax.low (λ x=>⟨_,rfl⟩) hne y e
  exact h1.mo.out (haM y e hne) hl (List.mem_cons_of_mem _ (List.mem_append_left _ hm))
 refine (turn_w (p:=q.P) (ac:=c1) (inv:=q.inv) (s:=st) (src:=src) (dst:=dst) (tab:=2*(nV q.axes+6)) h1.ms har hb1 haT ⟨ht.1,by omega⟩).mono ?_
 rintro _ S2 ⟨xa,rfl,k2,m2',o2⟩
 have h2:=h1.mem hY ⟨k2,λ i hi=>.inl hi⟩ m2'
 obtain ⟨p1,p2,p3,p4⟩:=hpl
 have tt:=turn_ticks (m:=s.m) (inv:=q.inv) (src:=src) (dst:=dst) (tab:=2*(nV q.axes+6)) hst (has_of hw ⟨p1,by omega,by omega⟩) (has_of hw ⟨p2,by omega,by omega⟩) (has_of hw ⟨by omega,by omega,by omega⟩)
 have y2:=k2.get y0 λ hm=>nS (List.mem_cons_of_mem _ (List.mem_append_left _ hm))
 have y2l:=pre_lt y2
 rw [tt.1]
 simp only [wps,y2,List.drop_succ_cons,List.drop_zero,List.drop_nil,cell_blk (List.getElem?_set_self y2l),gcz,gcs]
 have hl1:=hp0.length_le
 refine ⟨xa,ya,rfl,?_,?_,by rw [List.length_set]; have:=k2.len;omega⟩
 ·have h3:=h2.other nS (by omega) (λ e=>absurd hY e) (AObj.cells [vB (turnV s.m q.P q.axes q.inv st src dst (2*(nV q.axes+6))).1.1.1,.slice xa (turnV s.m q.P q.axes q.inv st src dst (2*(nV q.axes+6))).1.1.2.length (turnV s.m q.P q.axes q.inv st src dst (2*(nV q.axes+6))).1.1.2.length] 52 none)
  cases s
  dsimp only at hY
  subst hY
  exact h3
 have : OwnF S1.length (S2.set S.length (AObj.cells [vB (turnV s.m q.P q.axes q.inv st src dst (2*(nV q.axes+6))).1.1.1,.slice xa (turnV s.m q.P q.axes q.inv st src dst (2*(nV q.axes+6))).1.1.2.length (turnV s.m q.P q.axes q.inv st src dst (2*(nV q.axes+6))).1.1.2.length] 52 none)) xa _:=o2.keep λ i hi=>by
  have:=(o2.lt i hi).1
  have hl:S1.length=S.length+1:=by rw [<- hS1]; simp
  rw [List.getElem?_set_ne (by omega)]
 exact this.imp id λ ⟨b,e1,e2,e3⟩=>⟨b,e1,by omega,e3⟩
set_option maxHeartbeats 2000000 in
set_option maxRecDepth 20000 in
theorem out_dos (hr:S0[n0]? = some (.cells [.pointer (some ⟨rb,0,none⟩)] 167 none)) (hq:S0[n1]? = some (.cells (qc q a1 c1 a4 c4 a5 c5) 62 none))
 (h4:S0[n4]? = some (.cells [vI src] 3 none)) (hp:S0[n2]? = some (.cells [vI (nV q.axes),vI TT,vI W,sl] 90 none))
 (hM:n0∉M0/\n1∉M0/\n4∉M0/\n2∉M0) (hk:known q.P=true) (hn:1<=nV q.axes/\nV q.axes<=4096) (hpl:0<=src/\src+nV q.axes+6<=w) :
 DoS la ln lc it tr S0 M0 rb b (lookD [(170,gq4d),(28,gq3d)] (lookD [(173,gq59)] (lookD [(172,gq58)] noC)))
  (.func (.func 173) ⟨[]⟩ ⟨[.pointer (some ⟨n0,0,none⟩),.pointer (some ⟨n1,0,none⟩),.pointer (some ⟨n2,0,none⟩),.pointer (some ⟨n4,0,none⟩)]⟩) (outF (tpOf q) src) w:=by
 intro S T s ya fa sa h hY ht hw
 have e:callV (lookD [(170,gq4d),(28,gq3d)] (lookD [(173,gq59)] (lookD [(172,gq58)] noC)))
  (.func (.func 173) ⟨[]⟩ ⟨[.pointer (some ⟨n0,0,none⟩),.pointer (some ⟨n1,0,none⟩),.pointer (some ⟨n2,0,none⟩),.pointer (some ⟨n4,0,none⟩)]⟩) [] =
  gq59 [.pointer (some ⟨n0,0,none⟩),.pointer (some ⟨n1,0,none⟩),.pointer (some ⟨n2,0,none⟩),.pointer (some ⟨n4,0,none⟩)]:=rfl
 rw [e,gq59_eq]
 obtain ⟨m0,m1,m4,m2⟩:=hM
 have hp0:S <+: S++[AObj.cells [vB false,.slice none 0 0] 52 none,AObj.cells [vB false,.slice none 0 0] 52 none]:=List.prefix_append _ _
 have nS:S.length∉fpR rb T fa sa:=λ hm=>by have:=h.lt hm;omega
 have nS1:S.length+1∉fpR rb T fa sa:=λ hm=>by have:=h.lt hm;omega
 have hS0:=h.mo.kp.len
 have h1:=h.pre hp0
 obtain ⟨nn,hnn⟩:=Int.eq_ofNat_of_zero_le (show 0<=nV q.axes by omega)
 have hN:s.m.hasN src ((nn:Int)+6)=true:=has_of hw ⟨hpl.1,by omega,by omega⟩
 have g0:∀ {i:Nat} {o:AObj},S0[i]? = some o->i∉M0->S[i]? = some o:=λ hi hm=>h.mo.get hi hm
 have g:∀ {i:Nat} {o:AObj} (L:St),S0[i]? = some o->i∉M0->(S++L)[i]? = some o:=λ L hi hm=>get_add (g0 hi hm)
 have hr0:∀ L:St,(S++L)[rb]? = _:=λ L=>get_add h.r
 simp only [wps,List.append_assoc,List.cons_append,List.nil_append,List.length_append,List.length_cons,List.length_nil,Nat.zero_add,Nat.reduceAdd,cell_blk (g _ hr m0),cell_blk (g _ hq m1),cell_blk (g _ h4 m4),cell_blk (g _ hp m2),cell_blk (hr0 _),rC_5,gcz,gcs]
 have y0:(S++[AObj.cells [vB false,.slice none 0 0] 52 none,AObj.cells [vB false,.slice none 0 0] 52 none])[S.length]? = some (AObj.cells [vB false,.slice none 0 0] 52 none):=gA0
 have y1:(S++[AObj.cells [vB false,.slice none 0 0] 52 none,AObj.cells [vB false,.slice none 0 0] 52 none])[S.length+1]? = some (AObj.cells [vB false,.slice none 0 0] 52 none):=gA1
 have hl1:(S++[AObj.cells [vB false,.slice none 0 0] 52 none,AObj.cells [vB false,.slice none 0 0] 52 none]).length=S.length+2:=by simp
 generalize S++[AObj.cells [vB false,.slice none 0 0] 52 none,AObj.cells [vB false,.slice none 0 0] 52 none]=S1 at hp0 y0 y1 h1 hl1 ⊢
 have hO:outF (tpOf q) src s.m=(((outV s.m q.P nn src).1.1.2.1,(outV s.m q.P nn src).1.1.2.2,(outV s.m q.P nn src).1.1.1),(outV s.m q.P nn src).2):=by
  unfold outF tpOf;dsimp only;rw [hnn]
 rw [hO,hnn]
 refine (out_w h1.ms hk (by omega) hN ⟨ht.1,by omega⟩).mono ?_
 rintro _ S2 ⟨yb,xa,rfl,k2,m2',ay,o2,nl⟩
 have ot:=out_ticks (m:=s.m) (p:=q.P) (a:=src) (n:=nn) hk (by omega) hN
 have h2:=h1.mem hY ⟨k2,λ i hi=>.inl hi⟩ m2'
 generalize outV s.m q.P nn src=O at h2 ay o2 ot m2' ⊢
 have nT:S.length∉T:=λ hm=>nS (List.mem_cons_of_mem _ (List.mem_append_left _ hm))
 have nT1:S.length+1∉T:=λ hm=>nS1 (List.mem_cons_of_mem _ (List.mem_append_left _ hm))
 have z0:=k2.get y0 nT
 have z1:=k2.get y1 nT1
 have z1l:=pre_lt z1
 have hl2:=k2.len
 rw [ot.1]
 have h3:=h2.other nS1 (by omega) (λ e=>absurd hY e) (AObj.cells [vB O.1.1.2.1,.slice xa O.1.1.2.2.length O.1.1.2.2.length] 52 none)
 have w1:(S2.set (S.length+1) (AObj.cells [vB O.1.1.2.1,.slice xa O.1.1.2.2.length O.1.1.2.2.length] 52 none))[S.length+1]? = _:=List.getElem?_set_self z1l
 have w0:(S2.set (S.length+1) (AObj.cells [vB O.1.1.2.1,.slice xa O.1.1.2.2.length O.1.1.2.2.length] 52 none))[S.length]? = _:=(List.getElem?_set_ne (by omega)).trans z0
 have ay3:Ar (S2.set (S.length+1) (AObj.cells [vB O.1.1.2.1,.slice xa O.1.1.2.2.length O.1.1.2.2.length] 52 none)) yb O.1.1.1.length 1 eU O.1.1.1:=ay.keepL λ y e=>by
  have:=nl y e
  rw [List.getElem?_set_ne (by omega)]
 have o3:OwnF S1.length (S2.set (S.length+1) (AObj.cells [vB O.1.1.2.1,.slice xa O.1.1.2.2.length O.1.1.2.2.length] 52 none)) xa O.1.1.2.2:=o2.keep λ i e=>by
  have:=(o2.lt i e).1
  rw [List.getElem?_set_ne (by omega)]
 have hl3:(S2.set (S.length+1) (AObj.cells [vB O.1.1.2.1,.slice xa O.1.1.2.2.length O.1.1.2.2.length] 52 none)).length=S2.length:=by simp
 simp only [wps,z1,List.drop_succ_cons,List.drop_zero,List.drop_nil]
 generalize S2.set (S.length+1) (AObj.cells [vB O.1.1.2.1,.slice xa O.1.1.2.2.length O.1.1.2.2.length] 52 none)=S3 at h3 w0 w1 ay3 o3 hl3 ⊢
 have hr3:=h3.r
 dsimp only at hr3
 have hrb:rb < S.length:=pre_lt h.r
 have h4:=h3.put (Y':=O.1.1.1) (win':=s.win) (ya':=yb) ay3 λ hne y e hm=>by have:=nl y e;have:=h.lt hm;omega
 simp only [wps,cell_blk (h3.mo.get hr m0),hr3,rC_len,rC_s1,Nat.reduceAdd,Nat.reduceLeDiff]
 have v1:=λ o:AObj=>(List.getElem?_set_ne (l:=S3) (a:=o) (i:=rb) (j:=S.length+1) (by omega)).trans w1
 have v0:=λ o:AObj=>(List.getElem?_set_ne (l:=S3) (a:=o) (i:=rb) (j:=S.length) (by omega)).trans w0
 simp only [wps,cell_blk (v1 _),v0,gcz,gcs,List.drop_succ_cons,List.drop_zero,List.drop_nil]
 have hz:=h4.other nS (by omega) (λ _ y e=>by have:=nl y e;omega) (AObj.cells [vB O.1.1.2.1,.slice xa O.1.1.2.2.length O.1.1.2.2.length] 52 none)
 have l4:S.length < (S3.set rb (AObj.cells (rC false yb O.1.1.1.length fa s.fx.length sa s.sl.length 0 b la ln lc it tr s.win) 172 none)).length:=by rw [List.length_set]; omega
 simp only [wps,cell_blk (List.getElem?_set_self l4),gcz,gcs]
 refine ⟨xa,yb,rfl,hz,?_,by rw [List.length_set,List.length_set]; omega⟩
 have o5:OwnF S1.length ((S3.set rb (AObj.cells (rC false yb O.1.1.1.length fa s.fx.length sa s.sl.length 0 b la ln lc it tr s.win) 172 none)).set S.length (AObj.cells [vB O.1.1.2.1,.slice xa O.1.1.2.2.length O.1.1.2.2.length] 52 none)) xa O.1.1.2.2:=o3.keep λ i e=>by
  have:=(o3.lt i e).1
  rw [List.getElem?_set_ne (by omega),List.getElem?_set_ne (by omega)]
 exact o5.imp id λ ⟨b,e1,e2,e3⟩=>⟨b,e1,by omega,e3⟩
end
theorem mk_ge {p:Int} {l:List Ax} {inv:Bool}:∀ (r:List Stp) (t:Int),t<=mkGo p l inv t r/\∀ s∈r,((tabV p l inv s).length:Int)<=mkGo p l inv t r
 | [], t => ⟨Int.le_refl _, λ s hs => by cases hs⟩
 | x :: r, t => by
   unfold mkGo
   obtain ⟨h1,h2⟩:=mk_ge (p:=p) (l:=l) (inv:=inv) r (if ((tabV p l inv x).length:Int) > t then ((tabV p l inv x).length:Int) else t)
   have hx:t<=(if ((tabV p l inv x).length:Int) > t then ((tabV p l inv x).length:Int) else t)/\((tabV p l inv x).length:Int)<=(if ((tabV p l inv x).length:Int) > t then ((tabV p l inv x).length:Int) else t):=by split <;> omega
   refine ⟨Int.le_trans hx.1 h1,λ s hs=>?_⟩
   rcases List.mem_cons.1 hs with rfl | hs
   ·exact Int.le_trans hx.2 h1
   ·exact h2 s hs
structure RE (ok:Bool) (la:Option Addr) (ln lc:Nat) (it tr:Int) (S0:St) (M0:List Nat) (S:St) (rb b:Nat) (T:List Nat) (s:Ts) (ya fa sa:Option Addr):Prop where
 mo:Mo M0 S0 (fpR rb T fa sa) S
 r:S[rb]? = some (.cells (rC ok ya s.Y.length fa s.fx.length sa s.sl.length 0 b la ln lc it tr s.win) 172 none)
 ms:MS S b s.m T
 y:Ar S ya s.Y.length 1 eU s.Y
 ny:s.Y≠[]->∀ y,ya=some y->y.block∉fpR rb T fa sa
 fx:Own 0 S fa 80 6 (s.fx.flatMap (eRec it tr))
 sl:Own 0 S sa 76 4 (s.sl.flatMap (eSlp it tr))
 rT:rb∉T
 nf:∀ i∈blk fa,i∉T/\i≠rb
 ns:∀ i∈blk sa,i∉T/\i≠rb/\i∉blk fa
 ne:∀ x∈s.fx,x.2.bad≠x.2.good
section
variable {la:Option Addr} {ln lc:Nat} {it tr:Int} {S0:St} {M0:List Nat} {S S':St} {rb b:Nat} {T T':List Nat} {s:Ts} {ya fa sa:Option Addr}
theorem RS.re (h:RS la ln lc it tr S0 M0 S rb b T s ya fa sa):RE false la ln lc it tr S0 M0 S rb b T s ya fa sa:=⟨h.mo,h.r,h.ms,h.y,h.ny,h.fx,h.sl,h.rT,h.nf,h.ns,h.ne⟩
theorem RS.fin (h:RS la ln lc it tr S0 M0 S rb b T s ya fa sa) (ok:Bool):RE ok la ln lc it tr S0 M0 (S.set rb (.cells (rC ok ya s.Y.length fa s.fx.length sa s.sl.length 0 b la ln lc it tr s.win) 172 none)) rb b T s ya fa sa:=by
 have hlt:=pre_lt h.r
 refine ⟨⟨⟨by rw [List.length_set]; exact h.mo.kp.len,λ i hi hn=>?_⟩,h.mo.own⟩,List.getElem?_set_self hlt,h.ms.kp (M:=[rb]) ⟨by simp,λ i hi hn=>by rw [List.getElem?_set_ne]; rintro rfl;simp at hn⟩ (λ i hi hr=>h.rT (by rw [List.mem_singleton] at hr;exact hr ▸ hi)),?_,h.ny,?_,?_,h.rT,h.nf,h.ns,h.ne⟩
 ·by_cases e:i=rb
  ·subst e
   rcases h.mo.own i (by simp) with h' | h'
   ·exact absurd h' hn
   ·omega
  ·rw [List.getElem?_set_ne (Ne.symm e),h.mo.kp.keep i hi hn]
 ·by_cases hY:s.Y=[]
  ·rw [hY]; exact ⟨rfl,λ i hi=>absurd hi (by simp)⟩
  ·refine h.y.keepL λ y e=>?_
   rw [List.getElem?_set_ne]
   rintro e2
   exact h.ny hY y e (by rw [<- e2]; exact List.mem_cons_self)
 ·refine h.fx.keep λ i e=>?_
  rw [List.getElem?_set_ne]
  rintro e2
  exact (h.nf i (mem_blk.2 ⟨⟨i,0,none⟩,e,rfl⟩)).2 e2.symm
 ·refine h.sl.keep λ i e=>?_
  rw [List.getElem?_set_ne]
  rintro e2
  exact (h.ns i (mem_blk.2 ⟨⟨i,0,none⟩,e,rfl⟩)).2.1 e2.symm
theorem RS.here (h:RS la ln lc it tr S0 M0 S rb b T s ya fa sa):RS la ln lc it tr S (fpR rb T fa sa) S rb b T s ya fa sa:=⟨.refl,h.r,h.ms,h.y,h.ny,h.fx,h.sl,h.rT,h.nf,h.ns,h.ne⟩
theorem RS.base {ya' fa' sa':Option Addr} {s':Ts} (h:RS la ln lc it tr S0 M0 S rb b T s ya fa sa) (k:RS la ln lc it tr S (fpR rb T fa sa) S' rb b T' s' ya' fa' sa'):RS la ln lc it tr S0 M0 S' rb b T' s' ya' fa' sa':=⟨h.mo.trans k.mo,k.r,k.ms,k.y,k.ny,k.fx,k.sl,k.rT,k.nf,k.ns,k.ne⟩
end
theorem well_Y {f:TurnF} (hf:∀ m,(f m).1.2.2=[]) {of:Int->List Ev} {step:Int}:∀ (k:Nat) (s:Ts),s.Y=[]->(wellT f of step k s).2.Y=[]
 | 0, s, h => h
 | k + 1, s, h => by
   unfold wellT
   split
   ·exact hf _
   ·exact well_Y hf k _ (hf _)
set_option maxHeartbeats 4000000 in
set_option maxRecDepth 20000 in
theorem alls_w {q:Req} {a1 a4 a5 la ta:Option Addr} {c1 c4 c5 ln lc tc:Nat} {it tr TT W:Int} {S:St} {rb b:Nat} {T:List Nat} {s:Ts} {ya fa sa:Option Addr} {w:Nat} {l:List Ev} {G:List Stp}
 (h:RS la ln lc it tr S (fpR rb T fa sa) S rb b T s ya fa sa) (hl:Ar S la ln 6 Ev.cells l) (hlM:l≠[]->∀ y,la=some y->y.block∉fpR rb T fa sa) (hln:ln<=900) (hlk:∀ x∈l,Go.Proofs.YtpecnaacgkgjmaaGreatDoor.u64r x.ma) (hlt:∀ x∈l,x.ti<=9223372036854775807)
 (hax:Ar S a1 q.axes.length 2 eAx q.axes) (haM:∀ y,a1=some y->q.axes≠[]->y.block∉fpR rb T fa sa) (hb1:q.axes.length<=8796093022208)
 (hG:Ar S ta G.length 5 eStp G) (hGM:G≠[]->∀ y,ta=some y->y.block∉fpR rb T fa sa)
 (hst:∀ st∈G,stepV q.P q.axes st=0/\2*(nV q.axes+6)+((tabV q.P q.axes q.inv st).length:Int)<=w) (hk:known q.P=true) (hn:1<=nV q.axes/\nV q.axes<=4096) (hw2:2*(nV q.axes+6)<=w) (hrt:0<=q.retry/\q.retry<=8)
 (hY:s.Y=[]) (hB:TB s) (hw:s.m.W.length=w) (hwin:s.win+(G.length+1)*9<=190000) :
 WP (gq57 [.pointer (some ⟨rb,0,none⟩),qv q a1 c1 a4 c4 a5 c5,vA [vI (nV q.axes),vI TT,vI W,.slice ta G.length tc]]) S λ v S'=>v=vI 0 /\
  ∃ T' ya' fa' sa',RE (allT (tpOf q) (ofS l it tr) G 0 0 (nV q.axes+6) s).1 la ln lc it tr S (fpR rb T fa sa) S' rb b T' (allT (tpOf q) (ofS l it tr) G 0 0 (nV q.axes+6) s).2 ya' fa' sa'/\TB (allT (tpOf q) (ofS l it tr) G 0 0 (nV q.axes+6) s).2/\(allT (tpOf q) (ofS l it tr) G 0 0 (nV q.axes+6) s).2.m.W.length=w/\(allT (tpOf q) (ofS l it tr) G 0 0 (nV q.axes+6) s).2.win<=200000:=by
 rw [gq57_eq]
 generalize hV:allT (tpOf q) (ofS l it tr) G 0 0 (nV q.axes+6) s=V
 have e2:∀ i,S.length+i∉fpR rb T fa sa:=λ i hm=>by have:=h.lt hm;omega
 simp only [wps,List.append_assoc,List.cons_append,List.nil_append,List.length_append,List.length_cons,List.length_nil,Nat.zero_add,Nat.add_assoc,Nat.reduceAdd,gA,sA,List.set_cons_succ,List.set_cons_zero,List.getElem?_cons_succ,List.getElem?_cons_zero,cell_blk gA2]
 rw [wI_ (n:=nV q.axes+6) (by omega) (by omega)]
 obtain ⟨tm,htm⟩:=Int.eq_ofNat_of_zero_le (show 0<=q.retry+1 by omega)
 have htp:(tpOf q).times=tm:=by show (q.retry+1).toNat=tm;omega
 have hp5:S <+: S++[AObj.cells [.pointer (some ⟨rb,0,none⟩)] 167 none,AObj.cells (qc q a1 c1 a4 c4 a5 c5) 62 none,AObj.cells [vI (nV q.axes),vI TT,vI W,.slice ta G.length tc] 90 none,AObj.cells [vI 0] 3 none,AObj.cells [vI (nV q.axes+6)] 3 none]:=List.prefix_append _ _
 have b0:(S++[AObj.cells [.pointer (some ⟨rb,0,none⟩)] 167 none,AObj.cells (qc q a1 c1 a4 c4 a5 c5) 62 none,AObj.cells [vI (nV q.axes),vI TT,vI W,.slice ta G.length tc] 90 none,AObj.cells [vI 0] 3 none,AObj.cells [vI (nV q.axes+6)] 3 none])[S.length]? = some (AObj.cells [.pointer (some ⟨rb,0,none⟩)] 167 none):=gA0
 have b1:(S++[AObj.cells [.pointer (some ⟨rb,0,none⟩)] 167 none,AObj.cells (qc q a1 c1 a4 c4 a5 c5) 62 none,AObj.cells [vI (nV q.axes),vI TT,vI W,.slice ta G.length tc] 90 none,AObj.cells [vI 0] 3 none,AObj.cells [vI (nV q.axes+6)] 3 none])[S.length+1]? = some (AObj.cells (qc q a1 c1 a4 c4 a5 c5) 62 none):=gA1
 have b2:(S++[AObj.cells [.pointer (some ⟨rb,0,none⟩)] 167 none,AObj.cells (qc q a1 c1 a4 c4 a5 c5) 62 none,AObj.cells [vI (nV q.axes),vI TT,vI W,.slice ta G.length tc] 90 none,AObj.cells [vI 0] 3 none,AObj.cells [vI (nV q.axes+6)] 3 none])[S.length+2]? = some (AObj.cells [vI (nV q.axes),vI TT,vI W,.slice ta G.length tc] 90 none):=gA2
 have b3:(S++[AObj.cells [.pointer (some ⟨rb,0,none⟩)] 167 none,AObj.cells (qc q a1 c1 a4 c4 a5 c5) 62 none,AObj.cells [vI (nV q.axes),vI TT,vI W,.slice ta G.length tc] 90 none,AObj.cells [vI 0] 3 none,AObj.cells [vI (nV q.axes+6)] 3 none])[S.length+3]? = some (AObj.cells [vI 0] 3 none):=gA
 have b4:(S++[AObj.cells [.pointer (some ⟨rb,0,none⟩)] 167 none,AObj.cells (qc q a1 c1 a4 c4 a5 c5) 62 none,AObj.cells [vI (nV q.axes),vI TT,vI W,.slice ta G.length tc] 90 none,AObj.cells [vI 0] 3 none,AObj.cells [vI (nV q.axes+6)] 3 none])[S.length+4]? = some (AObj.cells [vI (nV q.axes+6)] 3 none):=gA
 have h5:=h.pre hp5
 generalize S++[AObj.cells [.pointer (some ⟨rb,0,none⟩)] 167 none,AObj.cells (qc q a1 c1 a4 c4 a5 c5) 62 none,AObj.cells [vI (nV q.axes),vI TT,vI W,.slice ta G.length tc] 90 none,AObj.cells [vI 0] 3 none,AObj.cells [vI (nV q.axes+6)] 3 none]=S5 at hp5 b0 b1 b2 b3 b4 h5 ⊢
 have hlow:∀ {y:Addr} {T':List Nat} {fa' sa':Option Addr} {S':St},Mo (fpR rb T fa sa) S (fpR rb T' fa' sa') S'->y.block < S.length->y.block∉fpR rb T fa sa->y.block∉fpR rb T' fa' sa':=λ k hy hn=>k.out hn hy
 have hlb:l≠[]->∀ y,la=some y->y.block < S.length:=λ hne y e=>hl.low (λ x=>⟨_,rfl⟩) hne y e
 have hab:∀ y,a1=some y->q.axes≠[]->y.block < S.length:=λ y e hne=>hax.low (λ x=>⟨_,rfl⟩) hne y e
 refine wp_loop (λ st S' m=>∃ (i:Nat) (src dst:Int) (s':Ts) (T':List Nat) (ya' fa' sa':Option Addr),st=[vN i]/\m=G.length-i/\i<=G.length/\RS la ln lc it tr S (fpR rb T fa sa) S' rb b T' s' ya' fa' sa'/\s'.Y=[]/\TB s'/\s'.m.W.length=w/\s'.win<=s.win+i*9/\PlT (nV q.axes) w src dst /\
  (S'[S.length]? = some (AObj.cells [.pointer (some ⟨rb,0,none⟩)] 167 none)/\S'[S.length+1]? = some (AObj.cells (qc q a1 c1 a4 c4 a5 c5) 62 none)/\S'[S.length+2]? = some (AObj.cells [vI (nV q.axes),vI TT,vI W,.slice ta G.length tc] 90 none)/\S'[S.length+3]? = some (AObj.cells [vI src] 3 none)/\S'[S.length+4]? = some (AObj.cells [vI dst] 3 none)) /\
  (∀ k,k < 5->S.length+k∉fpR rb T' fa' sa')/\allT (tpOf q) (ofS l it tr) (G.drop i) i src dst s'=V) ?_ G.length _ _
  ⟨0,0,nV q.axes+6,s,T,ya,fa,sa,rfl,rfl,Nat.zero_le _,h5,hY,hB,hw,by simp,⟨by omega,by omega,by omega,by omega⟩,⟨b0,b1,b2,b3,b4⟩,λ k _=>e2 k,hV⟩
 rintro st S6 _ ⟨i,src,dst,s1,T1,ya1,fa1,sa1,rfl,rfl,hi,h6,hY1,hB1,hw1,hwi,hpl,⟨d0,d1,d2,d3,d4⟩,hf,hV1⟩
 have f0:=hf 0 (by omega)
 have f1:=hf 1 (by omega)
 have f2:=hf 2 (by omega)
 have f3:=hf 3 (by omega)
 have f4:=hf 4 (by omega)
 have hBw:=hB.w
 rw [Nat.add_zero] at f0
 have hlM1:l≠[]->∀ y,la=some y->y.block∉fpR rb T1 fa1 sa1:=λ hne y e=>hlow h6.mo (hlb hne y e) (hlM hne y e)
 have haM1:∀ y,a1=some y->q.axes≠[]->y.block∉fpR rb T1 fa1 sa1:=λ y e hne=>hlow h6.mo (hab y e hne) (haM y e hne)
 simp only [wps]
 refine ⟨λ g3=>?_,λ g3=>?_⟩
 ·have hi':i < G.length:=by omega
  have hG6:Ar S6 ta G.length 5 eStp G:=h6.mo.kp.ar hG hGM
  obtain ⟨x,rfl,s1',s2',s3',s4',s5'⟩:=hG6.getStp hi'
  have hp7:=List.prefix_append S6 [AObj.cells (spC G[i]) 29 none]
  have z7:=get_new (S:=S6) (o:=AObj.cells (spC G[i]) 29 none)
  simp only [wps,s1',s2',s3',s4',s5',Int.toNat_natCast]
  refine ⟨g3,?_⟩
  have h7:=h6.pre hp7
  have n7:S6.length∉fpR rb T1 fa1 sa1:=λ hm=>by have:=h6.lt hm;omega
  have z7l:=pre_lt z7
  generalize S6++[AObj.cells (spC G[i]) 29 none]=S7 at hp7 z7 h7 z7l ⊢
  have d0:=pre_get hp7 d0
  have d1:=pre_get hp7 d1
  have d2:=pre_get hp7 d2
  have d3:=pre_get hp7 d3
  have d4:=pre_get hp7 d4
  simp only [wps,cell_blk d0,cell_blk d1,gcz,gcs]
  rw [wI_ (n:=q.retry+1) (by omega) (by omega),htm]
  obtain ⟨hst1,hst2⟩:=hst _ (List.getElem_mem hi')
  have htb:=tab_small (inv:=q.inv) hst1
  have hfk:=doF_ok (c:=tpOf q) hst1 hpl hst2
  have hdos:=do_dos (la:=la) (ln:=ln) (lc:=lc) (it:=it) (tr:=tr) (b:=b) (w:=w) (dst:=dst) d0 d1 z7 d3 d4 d2 ⟨f0,f1,n7,f3,f4,f2⟩ (h7.mo.kp.ar hax λ hne y e=>haM y e hne) haM1 hb1 hst1 hpl hst2 hn
  refine (well_w (step:=(i:Int)) (times:=tm) hdos hfk (by unfold costS;show 6*nV q.axes+12+2*((tabV q.P q.axes q.inv G[i]).length:Int)<=90000;omega) (h7.mo.kp.ar hl hlM) hlM1 hln hlk hlt h7.here hY1 hB1 hw1 (by omega) (by omega)).mono ?_
  rintro _ S8 ⟨rfl,T8,ya8,fa8,sa8,k8,hB8,hw8,hwin8,hY8⟩
  have hYd:=well_Y (f:=doF (tpOf q) G[i] src dst) (λ _=>rfl) (of:=ofS l it tr) (step:=(i:Int)) tm s1 hY1
  have hVs:allT (tpOf q) (ofS l it tr) (G.drop i) i src dst s1=if (wellT (doF (tpOf q) G[i] src dst) (ofS l it tr) i tm s1).1=true then allT (tpOf q) (ofS l it tr) (G.drop (i+1)) ((i:Int)+1) dst src (wellT (doF (tpOf q) G[i] src dst) (ofS l it tr) i tm s1).2 else wellT (doF (tpOf q) G[i] src dst) (ofS l it tr) i tm s1:=by
   rw [List.drop_eq_getElem_cons hi',<- htp]; rfl
  rw [hV1] at hVs
  have h8:=h7.base k8
  generalize wellT (doF (tpOf q) G[i] src dst) (ofS l it tr) i tm s1=R at k8 hB8 hw8 hwin8 hY8 hYd hVs h8 ⊢
  simp only [wps]
  refine ⟨λ e=>?_,λ e=>?_⟩
  ·rw [e,if_neg (by decide)] at hVs
   rw [hVs,e]
   exact ⟨T8,ya8,fa8,sa8,h8.re,hB8,hw8,by omega⟩
  ·rw [if_pos e] at hVs
   have q0:=k8.mo.get d0 f0
   have q1:=k8.mo.get d1 f1
   have q2:=k8.mo.get d2 f2
   have q3:=k8.mo.get d3 f3
   have q4:=k8.mo.get d4 f4
   have hf8:∀ k,k < 5->S.length+k∉fpR rb T8 fa8 sa8:=λ k hk5=>k8.mo.out (hf k hk5) (by have:=pre_lt d4;omega)
   have l3:=pre_lt q3
   have l4:=pre_lt q4
   have v3:(S8.set (S.length+3) (AObj.cells [vI dst] 3 none))[S.length+4]? = some (AObj.cells [vI dst] 3 none):=(List.getElem?_set_ne (by omega)).trans q4
   have h9:=(h8.other (hf8 3 (by omega)) (by omega) (λ hne=>absurd hYd hne) (AObj.cells [vI dst] 3 none)).other (hf8 4 (by omega)) (by omega) (λ hne=>absurd hYd hne) (AObj.cells [vI src] 3 none)
   simp only [wps,cell_blk q4,cell_blk q3,q3,v3,List.getElem?_cons_zero,List.drop_succ_cons,List.drop_zero]
   rw [wI_ (n:=(i:Int)+1) (by omega) (by omega)]
   have hne:∀ (o o':AObj) (j:Nat),j≠S.length+3->j≠S.length+4->((S8.set (S.length+3) o).set (S.length+4) o')[j]? = S8[j]?:=λ o o' j h1 h2=>by rw [List.getElem?_set_ne (Ne.symm h2),List.getElem?_set_ne (Ne.symm h1)]
   refine ⟨G.length-(i+1),by omega,i+1,dst,src,R.2,T8,ya8,fa8,sa8,rfl,rfl,by omega,h9,hYd,hB8,hw8,by omega,⟨hpl.2.1,hpl.1,hpl.2.2.2,hpl.2.2.1⟩,⟨?_,?_,?_,?_,?_⟩,hf8,hVs.symm⟩
   ·rw [hne _ _ _ (by omega) (by omega)]; exact q0
   ·rw [hne _ _ _ (by omega) (by omega)]; exact q1
   ·rw [hne _ _ _ (by omega) (by omega)]; exact q2
   ·rw [List.getElem?_set_ne (by omega),List.getElem?_set_self l3]
   ·rw [List.getElem?_set_self (by rw [List.length_set]; exact l4)]
 ·obtain rfl:i=G.length:=by omega
  rw [List.drop_length] at hV1
  simp only [wps,cell_blk d0,cell_blk d1,cell_blk d2,gcz,gcs]
  rw [wI_ (n:=q.retry+1) (by omega) (by omega),htm]
  have hfk:=outF_ok (c:=tpOf q) (src:=src) (w:=w) hk hn ⟨hpl.1,hpl.2.2.1⟩
  have hdos:=out_dos (la:=la) (ln:=ln) (lc:=lc) (it:=it) (tr:=tr) (b:=b) (w:=w) d0 d1 d3 d2 ⟨f0,f1,f3,f2⟩ hk hn ⟨hpl.1,hpl.2.2.1⟩
  refine (well_w (step:=(G.length:Int)) (times:=tm) hdos hfk (by show 2*nV q.axes+6<=90000;omega) (h6.mo.kp.ar hl hlM) hlM1 hln hlk hlt h6.here hY1 hB1 hw1 (by omega) (by omega)).mono ?_
  rintro _ S8 ⟨rfl,T8,ya8,fa8,sa8,k8,hB8,hw8,hwin8,hY8⟩
  have hVs:allT (tpOf q) (ofS l it tr) [] G.length src dst s1=wellT (outF (tpOf q) src) (ofS l it tr) G.length tm s1:=by rw [<- htp]; rfl
  rw [hV1] at hVs
  have h8:=h6.base k8
  rw [<- hVs] at k8 hB8 hw8 hwin8 hY8 h8 ⊢
  have q0:=k8.mo.get d0 f0
  have hr8:=h8.r
  simp only [wps,cell_blk q0,hr8,rC_len,List.getElem?_cons_zero]
  exact ⟨by decide,T8,ya8,fa8,sa8,h8.fin V.1,hB8,hw8,by omega⟩
def winsV (q:Req):Int×Int:=if checkV q=0 then (1+(q.retry+1)*(((stepsGo q.inv 0 q.axes).length:Int)+1),0) else (0,checkV q)
theorem wins_w {S:St} {q:Req} {a1 a4 a5:Option Addr} {c1 c4 c5:Nat} (h:QA S q a1 a4 a5) :
 Sp (gq55 [qv q a1 c1 a4 c4 a5 c5]) S λ v S'=>v=vT [vI (winsV q).1,vI (winsV q).2]:=by
 unfold Sp
 rw [gq55_eq]
 simp only [wps]
 have hp:S <+: S++[AObj.cells (qc q a1 c1 a4 c4 a5 c5) 62 none]:=List.prefix_append _ _
 refine (check_w (c1:=c1) (c4:=c4) (c5:=c5) (h.mono hp)).use ?_
 rintro _ S1 h1 rfl
 have hb1:=pre_get h1 get_new
 simp only [wps,cell_blk hb1]
 unfold winsV
 refine ⟨λ hc=>by rw [if_neg hc]; exact ⟨hp.trans h1,rfl⟩,λ hc=>?_⟩
 rw [if_pos hc]
 obtain ⟨q1,q2,_⟩:=check_ok hc
 obtain ⟨f1,f2,f3,f4⟩:=cost_facts q2
 refine (steps_w (h.ax.mono (hp.trans h1)) h.b1 q.inv).mono ?_
 rintro _ S2 ⟨a,rfl,hap⟩
 have hb2:=pre_get hap.pre hb1
 have hs:stepsV q.P q.axes q.inv=(stepsGo q.inv 0 q.axes,0):=by unfold stepsV;rw [if_pos q2]
 rw [hs]
 simp only [wps,cell_blk hb2]
 refine ⟨hp.trans (h1.trans hap.pre),?_⟩
 obtain ⟨m1,m2⟩:=mul_bnd (a:=q.retry+1) (A:=9) (b:=((stepsGo q.inv 0 q.axes).length:Int)+1) (B:=16393) (by omega) (by omega) (by omega) (by omega)
 rw [wI_ (n:=q.retry+1) (by omega) (by omega),wI_ (n:=((stepsGo q.inv 0 q.axes).length:Int)+1) (by omega) (by omega),wI_ (n:=(q.retry+1)*(((stepsGo q.inv 0 q.axes).length:Int)+1)) (by omega) (by omega),wI_ (by omega) (by omega)]
def itemE (q:Req) (i:Int):List Int×Int:=if checkV q≠0 then ([],checkV q) else if 0<=i/\i<=q.batch-1 then (itemV q i,0) else ([],1)
theorem itemV_len {q:Req} (h:checkV q=0) {i:Int} (hi:0<=i/\i < q.batch):((itemV q i).length:Int)=nV q.axes/\(i+1)*nV q.axes<=q.X.length:=by
 obtain ⟨q1,q2,q3,q4,q5⟩:=check_ok h
 have hn:=nV_range q2
 have h1:(i+1)*nV q.axes<=q.batch*nV q.axes:=Int.mul_le_mul_of_nonneg_right (by omega) (by omega)
 rw [Int.mul_comm q.batch,<- q3] at h1
 have h2:(i+1)*nV q.axes=i*nV q.axes+nV q.axes:=by rw [Int.add_mul,Int.one_mul]
 have h3:0<=i*nV q.axes:=Int.mul_nonneg hi.1 (by omega)
 refine ⟨?_,h1⟩
 unfold itemV
 rw [List.length_take,List.length_drop]
 rw [h2] at h1
 generalize i*nV q.axes=B at h1 h3 ⊢
 omega
set_option maxRecDepth 20000 in
theorem item_w {S:St} {q:Req} {a1 a4 a5:Option Addr} {c1 c4 c5:Nat} (h:QA S q a1 a4 a5) (hc:q.X.length<=c4) (i:Int) :
 Sp (gq3t [qv q a1 c1 a4 c4 a5 c5,vI i]) S λ v S'=>∃ a c,v=vT [.slice a (itemE q i).1.length c,vI (itemE q i).2]/\Ar S' a (itemE q i).1.length 1 eU (itemE q i).1:=by
 unfold Sp
 rw [gq3t_eq]
 have hp:=List.prefix_append S [AObj.cells (qc q a1 c1 a4 c4 a5 c5) 62 none]
 have z:=get_new (S:=S) (o:=AObj.cells (qc q a1 c1 a4 c4 a5 c5) 62 none)
 simp only [wps]
 generalize S++[AObj.cells (qc q a1 c1 a4 c4 a5 c5) 62 none]=Y at hp z ⊢
 refine (check_w (c1:=c1) (c4:=c4) (c5:=c5) (h.mono hp)).use ?_
 rintro _ S1 k1 rfl
 have z1:=pre_get k1 z
 have p1:=hp.trans k1
 unfold itemE
 simp only [wps,cell_blk z1,gcz,gcs,between_w]
 refine ⟨λ e=>?_,λ e=>?_⟩
 ·rw [if_pos e]; exact ⟨p1,none,0,rfl,.nil⟩
 rw [if_neg (λ n=>n e)]
 obtain ⟨q1,q2,q3,q4,q5⟩:=check_ok e
 have hn:=nV_range q2
 rw [wI_ (n:=q.batch-1) (by omega) (by omega)]
 refine ⟨λ e2=>?_,λ e2=>?_⟩
 ·rw [if_neg e2]; exact ⟨p1,none,0,rfl,.nil⟩
 rw [if_pos e2]
 obtain ⟨l1,l2⟩:=itemV_len e (i:=i) ⟨e2.1,by omega⟩
 have hb2:=h.b2
 have hdiv:((q.X.length:Int)).tdiv q.batch=nV q.axes:=by
  rw [q3,Int.mul_tdiv_cancel _ (by omega)]
 have hin:0<=i*nV q.axes:=Int.mul_nonneg e2.1 (by omega)
 have l3:i*nV q.axes+nV q.axes<=q.X.length:=by rw [Int.add_mul,Int.one_mul] at l2;exact l2
 rw [hdiv,wI_ (n:=nV q.axes) (by omega) (by omega),wI_ (n:=i*nV q.axes) (by omega) (by omega)]
 refine ⟨by omega,?_⟩
 refine cut_ar (h.x.mono p1) (λ _=>rfl) (by decide) hin (by omega) (Int.le_refl _) hc ?_
 intro a k hk ha
 dsimp only
 refine cut_ar ha (λ _=>rfl) (by decide) (Int.le_refl 0) (by omega) (by omega) hk ?_
 intro a2 k2 hk2 ha2
 have hit:itemV q i=((List.take ((q.X.length:Int).toNat-(i*nV q.axes).toNat) (q.X.drop (i*nV q.axes).toNat)).drop (0:Int).toNat).take ((nV q.axes).toNat-(0:Int).toNat):=by
  unfold itemV
  rw [show (0:Int).toNat=0 from rfl,List.drop_zero,Nat.sub_zero,List.take_take,Nat.min_eq_left (by omega)]
 rw [<- hit] at ha2
 have hnl:(nV q.axes).toNat-(0:Int).toNat=(itemV q i).length:=by rw [show (0:Int).toNat=0 from rfl]; omega
 rw [hnl] at ha2 hk2 ⊢
 dsimp only
 refine (clone_w (c:=k2) ha2 (by omega)).mono ?_
 rintro _ S2 ⟨a3,rfl,ho⟩
 simp only [wps]
 exact ⟨p1.trans ho.1,a3,_,rfl,ho.ar⟩
theorem tbegin_w {S:St} {la ca:Option Addr} {ln lc cc:Nat} {l:List Ev} {c:List Int} {it tr words:Int} (hl:Ar S la ln 6 Ev.cells l) (hln:ln<=900) (hlk:∀ x∈l,Go.Proofs.YtpecnaacgkgjmaaGreatDoor.u64r x.ma) (hlt:∀ x∈l,x.ti<=9223372036854775807)
 (hc:Ar S ca c.length 1 eU c) (hcu:∀ y∈c,Go.Proofs.YtpecnaacgkgjmaaGreatDoor.u64r y) (hw:1<=words/\words<=16384) (hcw:(c.length:Int)<=words) :
 WP (gq56 [vI words,.slice ca c.length cc,vI it,vI tr,.slice la ln lc]) S λ v S'=>∃ rb b T,v=vT [.pointer (some ⟨rb,0,none⟩),vI 0]/\S <+: S'/\S.length<=rb/\(∀ i∈T,S.length<=i) /\
  RS la ln lc it tr S' (fpR rb T none none) S' rb b T ⟨(layV ⟨List.replicate words.toNat 0,ofS l it tr 0,0,0⟩ c 0).2,0,[],[],[]⟩ none none none:=by
 have hln0:=hl.1
 rw [gq56_eq]
 simp only [wps]
 refine (of_w (c:=lc) (it:=it) (tr:=tr) (wi:=0) hl hln).mono ?_
 rintro _ S1 ⟨oa,rfl,ho⟩
 have hoa:=ho.ar (λ _=>rfl) (by decide)
 have hol:=ofS_len l it tr 0
 simp only [wps]
 refine (new_w (c:=(ofS l it tr 0).length) hoa (by omega) (λ x hx=>hlk x (mem_ofS hx)) (λ x hx=>hlt x (mem_ofS hx)) hw).mono ?_
 rintro _ S2 ⟨b,rfl,k2,m2⟩
 simp only [wps]
 have hT:∀ i∈newT S1 S2,S.length<=i:=λ i hi=>by have:=(newT_mem.1 hi).2;have:=ho.pre.length_le;omega
 have hp3:=List.prefix_append S2 [AObj.cells (rC false none 0 none 0 none 0 0 b la ln lc it tr 0) 172 none]
 have z3:=get_new (S:=S2) (o:=AObj.cells (rC false none 0 none 0 none 0 0 b la ln lc it tr 0) 172 none)
 have m3:=m2.pre hp3
 have hp:=(ho.pre.trans k2).trans hp3
 have hS2:=(ho.pre.trans k2).length_le
 refine WP.mono (m:=gq5e [vP (some ⟨b,0,none⟩),vS ca c.length cc,vI 0]) (S:=S2++[AObj.cells (rC false none 0 none 0 none 0 0 b la ln lc it tr 0) 172 none]) ?_ ?_ (Q:=λ v S'=>v=vI 0/\Kp (newT S1 S2) (S2++[AObj.cells (rC false none 0 none 0 none 0 0 b la ln lc it tr 0) 172 none]) S'/\MS S' b (layV ⟨List.replicate words.toNat 0,ofS l it tr 0,0,0⟩ c 0).2 (newT S1 S2))
 ·refine (lay_w (m:=⟨List.replicate words.toNat 0,ofS l it tr 0,0,0⟩) (a:=0) m3 (hc.mono hp) (λ y e hne hm=>?_) hcu ⟨Int.le_refl _,by show (0:Int) < _;omega⟩ (by omega)).mono ?_
  ·have h1:y.block < S.length:=hc.low (λ x=>⟨_,rfl⟩) hne y e
   have:=hT _ hm;omega
  ·rintro _ S4 ⟨rfl,k4,m4⟩
   refine ⟨?_,k4,m4⟩
   rw [(lay_t (m:=⟨List.replicate words.toNat 0,ofS l it tr 0,0,0⟩) (l:=c) (a:=0) (has_of (w:=words.toNat) (by simp) ⟨by omega,by omega,by omega⟩)).1]
 ·rintro _ S4 ⟨rfl,k4,m4⟩
  simp only [wps]
  have hn:S2.length∉newT S1 S2:=λ hm=>by have:=(newT_mem.1 hm).1;omega
  have z4:=k4.get z3 hn
  exact ⟨S2.length,b,newT S1 S2,rfl,k4.low hT hp (Nat.le_refl _),hS2,hT,⟨.refl,z4,m4,.nil,λ e=>absurd rfl e,.nil,.nil,hn,λ i hi=>(by cases hi),λ i hi=>(by cases hi),λ x hx=>(by cases hx)⟩⟩
end Go.AM
