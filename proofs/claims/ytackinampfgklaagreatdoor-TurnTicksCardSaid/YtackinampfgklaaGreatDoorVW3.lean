/-
  Part of the proof of a law: what the functions compute. Conditions: none.
-/
import Derived.Test.YtackinampfgklaaGreatDoorVW2
set_option linter.unusedVariables false
set_option linter.unusedSectionVars false
set_option linter.unusedSimpArgs false
set_option linter.deprecated false
set_option linter.unusedVariables false
set_option linter.unusedSimpArgs false
namespace Go.AM
open Go Go.Proofs.YtackinampfgklaaGreatDoor
set_option maxHeartbeats 1000000 in
theorem tablen_w {p:Int} {S:St} {axes:Option Addr} {n c:Nat} {l:List Ax} (h:Ar S axes n 2 eAx l) (hl:n≤8796093022208) (inv:Bool) (s:Stp) :
    Sp (g_step_Table [vU p,.slice axes n c,vB inv,vA [vI s.ax,vB s.tw,vI s.st.R,vI s.st.L,vI s.st.M]]) S fun v S'=>∃ b k,v=vT [.slice b (tableV p l inv s (tabV p l inv s)).length k,vI (stepV p l s)] ∧
      Ar S' b (tableV p l inv s (tabV p l inv s)).length 1 eU (tableV p l inv s (tabV p l inv s))∧∀ y,b=some y→S.length≤y.block:=by
  unfold Sp
  have hn:=h.1
  rw [g_step_Table_eq]
  simp only [wps]
  refine (stepc_w (h.mono (List.prefix_append _ _)) hl s).use ?_
  rintro _ S1 h1 rfl
  have h0:=pre_of_add h1
  have hb:=pre_get h1 get_new
  simp only [wps,cell_blk hb]
  unfold tableV
  refine ⟨fun h2=>by rw [if_neg h2]; exact ⟨h0,none,0,rfl,.nil,fun y e=>by cases e⟩,fun h2=>?_⟩
  rw [if_pos h2,h2]
  obtain ⟨hg,hs⟩:=stepV_inv h2
  obtain ⟨hb0,hb1⟩:=base_ok hg hs inv
  obtain ⟨hk,_,hall⟩:=grid_ok hg
  obtain ⟨k,hkl,e0,h3⟩:=hs
  obtain ⟨hr,ho⟩:=hall l[k] (List.getElem_mem hkl)
  obtain ⟨n1,n2,_⟩:=radV_facts hr
  have hax:axAt l s.ax=l[k]:=by rw [e0,axAt_nat l k hkl]
  obtain ⟨a,rfl,c1,c2⟩:=(h.mono h0).getAx hkl
  rw [e0]
  simp only [wps,c1,c2]
  refine ⟨by omega,?_⟩
  have hb2:∀ o,(S1++[o])[S.length]? = _:=fun o=>get_add hb
  simp only [wps,fun o=>cell_blk (hb2 o)]
  refine base_w.use ?_
  rintro _ S2 h4 rfl
  rw [hax] at hb0 hb1
  have h5:=(pre_add h0 _).trans h4
  have hb3:=pre_get h4 (hb2 _)
  have hb4:=pre_get h4 get_new
  simp only [wps,hb0,cell_blk hb3,cell_blk hb4]
  unfold tabV
  rw [hax]
  rcases h3 with ⟨h3,h6⟩ | ⟨h3,h6⟩
  · obtain ⟨N,hN⟩:=Int.eq_ofNat_of_zero_le (show 0≤l[k].N by omega)
    generalize (baseV p l[k] inv s).1=w at hb1 ⊢
    have hpw:powersV p w (N:Int)=(powsV p w N,0):=by unfold powersV;rw [if_pos hk,if_neg (by omega),Int.toNat_natCast]
    simp only [wps,h3]
    rw [if_pos (by simp),hN,Int.toNat_natCast]
    refine (powers_w (p:=p) (a:=w) hb1).use ?_
    rintro _ S3 h7 ⟨b,k',rfl,hpa,hpb⟩
    rw [hpw] at hpa hpb ⊢
    obtain ⟨rfl,hk',hpc⟩:=hpb rfl
    rw [Int.toNat_natCast] at hk'
    have hk':=hk'.symm
    subst hk'
    simp only [powsV_len,Int.toNat_natCast] at hpa hpc
    simp only [wps,powsV_len]
    refine ⟨fun h8=>?_,fun h8=>?_⟩
    · rw [h8]
      simp only [wps,Bool.false_eq_true,if_false]
      rw [powsV_len]
      exact ⟨h5.trans h7,_,_,rfl,hpa,fun y e=>by cases e;exact h5.length_le⟩
    · rw [h8]
      have hred:red p (N:Int)≠0:=by
        unfold red;rw [if_pos hk]
        have : (N:Int) < p:=by rcases known_cases hk with rfl | rfl | rfl <;> simp only [P0,P1,P2] <;> omega
        rw [Int.emod_eq_of_lt (by omega) this]; omega
      obtain ⟨i0,i1⟩:=inv_ok hk hred
      have e3:wU (N:Int)=N:=wU_ (by omega) (by omega)
      have hb6:=pre_get h7 hb4
      simp only [wps,cell_blk hb6,hN,e3,inv_w (p:=p) (a:=(N:Int)) ⟨by omega,by omega⟩,i0]
      generalize (invV p (N:Int)).1=iv at i1 ⊢
      simp only [if_true,List.length_map,powsV_len]
      refine wp_loop (fun st S' m=>∃ j:Nat,st=[vI j]∧j≤N∧m=N-j∧S3.set S2.length (.cells ((((powsV p w N).map fun x=>mulF p x iv).take j++(powsV p w N).drop j).map (.int .u64)) 24 none) <+: S') ?_ N _ _
        ⟨0,rfl,by omega,by omega,by
          simp only [List.take_zero,List.nil_append,List.drop_zero]
          rw [set_get hpc]; exact List.prefix_rfl⟩
      rintro st S' m ⟨j,rfl,hj,rfl,hp⟩
      have hS2:S2.length < S3.length:=pre_lt hpc
      have hlen:=powsV_len p w N
      have hbl:=pre_get hp (i:=S2.length) (by rw [List.getElem?_set_self hS2])
      simp only [wps]
      refine ⟨fun h9=>⟨h9,?_⟩,fun h9=>?_⟩
      · have hj':j < N:=by omega
        have hx:=powM_range p w j
        have hx2:(powsV p w N)[j]? = some (powM p w j):=by simp [powsV,hj']
        have hl1:(((powsV p w N).map fun x=>mulF p x iv).take j).length=j:=by simp;omega
        have hcell:S'.cell ⟨S2.length,j,none⟩=some (.int .u64 (powM p w j)):=by
          rw [cell_blk hbl,List.getElem?_map,List.getElem?_append_right (by omega),hl1,Nat.sub_self,List.getElem?_drop,Nat.add_zero,hx2]; rfl
        simp only [wps,hcell,mul_w (p:=p) hx i1,hbl]
        refine ⟨h9,by simp;omega,N-(j+1),by omega,j+1,by rw [wI_ (by omega) (by omega)]; simp,by omega,rfl,?_⟩
        have e4:splice ((((powsV p w N).map fun x=>mulF p x iv).take j++(powsV p w N).drop j).map (.int .u64)) j [.int .u64 (mulF p (powM p w j) iv)]=(((powsV p w N).map fun x=>mulF p x iv).take (j+1)++(powsV p w N).drop (j+1)).map (.int .u64):=by
          rw [splice_set (by simp;omega),← List.map_set,List.set_append_right _ _ (by omega),hl1,Nat.sub_self,List.drop_eq_getElem_cons (by omega),List.set_cons_zero,List.take_add_one,List.getElem?_map,hx2]
          simp
        rw [e4]
        have:=pre_set hp (b:=S2.length) (o:=.cells ((((powsV p w N).map fun x=>mulF p x iv).take (j+1)++(powsV p w N).drop (j+1)).map (.int .u64)) 24 none) (by simpa using hS2)
        rwa [List.set_set] at this
      · obtain rfl:j=N:=by omega
        rw [List.take_of_length_le (by simp;omega),List.drop_of_length_le (by omega),List.append_nil] at hbl
        have h10:S <+: S':=(h5.trans (pre_set' h7 (Nat.le_refl _))).trans hp
        refine ⟨h10,_,_,rfl,?_,fun y e=>by cases e;exact h5.length_le⟩
        have:=arU_blk hbl
        rwa [List.length_map,powsV_len] at this
  · obtain ⟨g1,g2,g3,g4,g5,g6⟩:=stages_ok (stages_facts hr).1 h6
    have hp1:1≤s.st.R*s.st.M:=by have:=Int.mul_le_mul (show 1≤s.st.R by omega) g4 (by omega) (by omega); omega
    have hp2:=prod_bound g3 hp1 g5 g6
    have hM:s.st.M≤4096:=prod_bound (show 1≤s.st.R by omega) g4 rfl hp2
    rw [Int.mul_comm] at hp1 hp2
    simp only [wps,h3]
    rw [wI_ (n:=s.st.M*s.st.R) (by omega) (by omega)]
    obtain ⟨R,hR⟩:=Int.eq_ofNat_of_zero_le (show 0≤s.st.R by omega)
    obtain ⟨M',hM'⟩:=Int.eq_ofNat_of_zero_le (show 0≤s.st.M by omega)
    generalize hw:(baseV p l[k] inv s).1=w at hb1 ⊢
    have e1:(s.st.M*s.st.R).toNat=M'*R:=by rw [hR,hM',← Int.natCast_mul,Int.toNat_natCast]
    have e2:s.st.M*s.st.R=((M'*R:Nat):Int):=by rw [hR,hM',Int.natCast_mul]
    rw [hR,hM'] at hp1 hp2
    rw [e1,zeroC_one,hR,hM',Int.toNat_natCast,Int.toNat_natCast,if_neg (by simp)]
    refine ⟨⟨by decide,by omega,by omega,by omega,rfl⟩,?_⟩
    refine wp_loop (fun st S' m=>∃ j:Nat,st=[.slice (some ⟨S2.length,0,none⟩) (j*R) (M'*R),vU (powM p w j)]∧j≤M'∧m=M'-j∧S2++[.cells ((rowsV p w R j).map (.int .u64)++List.replicate ((M'-j)*R) (.int .u64 0)) 24 none] <+: S') ?_ M' _ _
      ⟨0,by rw [powM_zero w hk]; simp,by omega,by omega,by simp [rowsV]⟩
    rintro st S' m ⟨j,rfl,hj,rfl,hp⟩
    have hp':=pre_of_add hp
    have hb5:=pre_get hp' hb3
    have hlen:=rowsV_len p w R j
    have hbl:=pre_get hp get_new
    have h7:=h5.trans hp'
    rcases Nat.lt_or_ge j M' with h8 | h8
    · have h9:j*R+R≤M'*R:=by rw [← Nat.succ_mul]; exact Nat.mul_le_mul_right _ h8
      have hm:=mul_w (p:=p) (powM_range p w j) hb1
      rw [mulF_powM1] at hm
      have hpw:powersV p (powM p w j) (R:Int)=(powsV p (powM p w j) R,0):=by unfold powersV;rw [if_pos hk,if_neg (by omega),Int.toNat_natCast]
      simp only [wps,cell_blk hb5,hR,hM',hm]
      rw [show (M':Int)*R=((M'*R:Nat):Int) by rw [Int.natCast_mul],wI_ (n:=((M'*R:Nat):Int)) (by omega) (by omega)]
      refine ⟨fun h10=>?_,fun h10=>by omega⟩
      refine (powers_w (p:=p) (a:=powM p w j) (powM_range p w j)).use ?_
      rintro _ S3 h11 ⟨b,k',rfl,hpa,hpb⟩
      rw [hpw] at hpa hpb ⊢
      obtain ⟨rfl,hk',hpc⟩:=hpb rfl
      simp only [wps,powsV_len]
      refine rdN_ar hpc (by rw [List.length_map,powsV_len]) ?_
      have hbl2:=pre_get h11 hbl
      refine wp_app_in hbl2 h9 ?_ (by simp [leafV]) ?_
      · simp only [List.length_map,powsV_len,List.length_append,List.length_replicate,hlen]
        have : (M'-j)*R=M'*R-j*R:=Nat.sub_mul ..
        omega
      · simp only [wps]
        refine ⟨M'-(j+1),by omega,j+1,by rw [Nat.succ_mul],by omega,rfl,?_⟩
        have e4:splice ((rowsV p w R j).map (.int .u64)++List.replicate ((M'-j)*R) (.int .u64 0)) (j*R) ((powsV p (powM p w j) R).map (.int .u64))=(rowsV p w R (j+1)).map (.int .u64)++List.replicate ((M'-(j+1))*R) (.int .u64 0):=by
          have e5:(M'-j)*R-R=(M'-(j+1))*R:=by rw [← Nat.sub_one_mul,Nat.sub_sub]
          unfold splice
          rw [rowsV,List.take_append_of_le_length (by simp [hlen]),List.take_of_length_le (by simp [hlen]),List.drop_append,List.drop_of_length_le (by simp [hlen])]
          simp [hlen,powsV_len,e5]
        rw [e4]
        exact pre_top (hp.trans h11)
    · obtain rfl:j=M':=by omega
      simp only [wps,cell_blk hb5,hR,hM']
      rw [show (j:Int)*R=((j*R:Nat):Int) by rw [Int.natCast_mul],wI_ (n:=((j*R:Nat):Int)) (by omega) (by omega)]
      refine ⟨fun h10=>by omega,fun h10=>?_⟩
      refine ⟨h7,_,_,by rw [hlen],?_,fun y e=>by cases e;exact h5.length_le⟩
      rw [Nat.sub_self,Nat.zero_mul,List.replicate_zero,List.append_nil] at hbl
      exact arU_blk hbl
end Go.AM
set_option linter.unusedVariables false
set_option linter.unusedSimpArgs false
namespace Go.AM
open Go Go.Proofs.YtackinampfgklaaGreatDoor
end Go.AM
set_option linter.unusedVariables false
set_option linter.unusedSimpArgs false
namespace Go.AM
open Go Go.Proofs.YtackinampfgklaaGreatDoor
theorem scat_in {P:Int→Prop}:∀ (l:List (Nat×Int)) (a:List Int),(∀ y∈a,P y)→(∀ e∈l,P e.2)→∀ y∈scat a l,P y
  | [], a, h, _ => h
  | e :: l, a, h1, h2 => by
    rw [scat,List.foldl_cons]
    refine scat_in l _ (fun y hy=>?_) fun e he=>h2 e (by simp [he])
    rcases List.mem_or_eq_of_mem_set hy with hy | rfl
    · exact h1 y hy
    · exact h2 e (by simp)
theorem doG_in {p:Int} (hk:known p=true) {inv tw:Bool} {n:Nat} {gs:List GrN} {tab x:List Int}:∀ y∈doG p inv tw n gs tab x,inP p y:=by
  unfold doG
  refine scat_in _ _ (fun y hy=>?_) fun e he=>?_
  · rw [(List.mem_replicate.1 hy).2]; exact inP_zero hk
  · obtain ⟨g,_,hg⟩:=List.mem_flatMap.1 he
    unfold gpairs at hg
    obtain ⟨i,hi,hx⟩:=List.mem_iff_getElem.1 (List.of_mem_zip hg).2
    rw [List.getElem_zipWith] at hx
    rw [← hx]; exact inP_mul hk _ _
theorem doG_length (p:Int) (inv tw:Bool) (n:Nat) (gs:List GrN) (tab x:List Int):(doG p inv tw n gs tab x).length=n:=by unfold doG;rw [scat_len,List.length_replicate]
theorem tab_small {p:Int} {l:List Ax} {inv:Bool} {s:Stp} (h:stepV p l s=0):1≤(tabV p l inv s).length∧(tabV p l inv s).length≤4096:=by
  obtain ⟨k,d,inner,n,m,hS⟩:=step_shape h
  rw [tab_length hS]
  have h1:=hS.d1
  rcases hS.st with ⟨ht,_⟩ | ⟨ht,R,L,M,hst,r1,r2,l1,m1,hd⟩
  · rw [if_pos ht]; omega
  · rw [if_neg (by rw [ht]; simp),hst]
    dsimp only
    rw [Int.toNat_natCast,Int.toNat_natCast]
    have h2:R*M≤L*(R*M):=Nat.le_mul_of_pos_left _ (by omega)
    have h3:1≤M*R:=Nat.mul_pos (by omega) (by omega)
    rw [Nat.mul_comm M R] at h3 ⊢
    omega
end Go.AM
set_option linter.unusedVariables false
set_option linter.unusedSimpArgs false
namespace Go.AM
open Go Go.Proofs.YtackinampfgklaaGreatDoor
theorem nd_get {l:List Ax} {s:Stp} {k d inner nn m:Nat} (hS:Shp l s k d inner nn m) {j:Nat} (hj:j < l.length):l[j].N=(((ndOf l)[j]'(by simp [ndOf]; exact hj):Nat):Int):=by
  have h1:=hS.all _ (List.getElem_mem (l:=ndOf l) (n:=j) (by simp [ndOf]; exact hj))
  simp only [ndOf,List.getElem_map] at h1 ⊢
  omega
theorem prod_take_le {l:List Nat} (h:∀ x∈l,1≤x) (j:Nat):prodN (l.take j)≤prodN l:=by
  conv=>rhs;rw [← List.take_append_drop j l,prodN_app]
  exact Nat.le_mul_of_pos_right _ (prodN_pos _ fun x hx=>h x (List.mem_of_mem_drop hx))
theorem prod_take_succ {l:List Nat} {j:Nat} (hj:j < l.length):prodN (l.take (j+1))=prodN (l.take j)*l[j]:=by
  rw [take_snoc hj,prodN_app]
  show _=_
  unfold prodN
  simp
theorem cells_le (t:List Int):(cellsV t).1.2.length≤2:=by
  unfold cellsV
  split
  · simp
  · split
    · simp
    · rcases thr_at (t.getD 0 0) (t.getD 1 0) (t.getD 2 0) with h | ⟨_,_,h⟩ <;> rcases thr_at (t.getD 3 0) (t.getD 4 0) (t.getD 5 0) with g | ⟨_,_,g⟩ <;> simp only [h,g] <;> simp [fxAt]
theorem fix_le (p:Int) (c:List Int):(fixV p c).1.2.length≤3:=by
  have:=cells_le (c.drop (c.length-6))
  unfold fixV
  dsimp only
  repeat' split
  all_goals simp <;> omega
theorem scrub_t {m:Mm} {p a:Int} {n:Nat} (hk:known p=true) (hn:1≤n∧n≤4096) (hN:m.hasN a ((n:Int)+6)=true) :
    (scrubV m p n a).2.W.length=m.W.length∧(scrubV m p n a).1.1.1.length≤3∧(((scrubV m p n a).1.2=0∧(scrubV m p n a).2.t=m.t+n+6+(scrubV m p n a).1.1.1.length)∨((scrubV m p n a).1.2=10∧(scrubV m p n a).2.t=m.t+n+6∧(scrubV m p n a).1.1.1=[])):=by
  unfold scrubV
  rw [if_neg (by rw [hk]; simp),if_neg (by rw [hN]; simp;omega)]
  dsimp only
  rw [Int.toNat_natCast]
  have hf:=fix_le p (m.rds (rowO a (n+6))).1
  obtain ⟨g1,g2,g3,g4⟩:=Mm.rds_len (rowO a (n+6)) m
  rw [rowO_len] at g3
  split
  · exact ⟨g1,by simp,.inr ⟨rfl,by dsimp only;omega,rfl⟩⟩
  · obtain ⟨w1,w2,w3⟩:=Mm.wrs_len (((fixV p (m.rds (rowO a (n+6))).1).1.2.map (Fx.up a)).map Fx.st) (m.rds (rowO a (n+6))).2
    refine ⟨w1.trans g1,by simpa using hf,.inl ⟨rfl,?_⟩⟩
    dsimp only
    rw [w2,g3,List.length_map]; omega
theorem lay_t {m:Mm} {l:List Int} {a:Int} (hN:m.hasN a l.length=true):(layV m l a).1=0∧(layV m l a).2.W.length=m.W.length∧(layV m l a).2.t=m.t+l.length:=by
  unfold layV
  rw [if_pos hN]
  obtain ⟨w1,w2,w3⟩:=Mm.wrs_len ((rowO a l.length).zip l) m
  exact ⟨rfl,w1,by dsimp only;rw [w2,List.length_zip,rowO_len]; omega⟩
theorem sound_t {m:Mm} {p a:Int} {n:Nat} {s:Int×Int} (hk:known p=true) (hn:1≤n∧n≤4096) (hN:m.hasN a (n:Int)=true):(soundV m p n a s).1.2=0∧(soundV m p n a s).2.W.length=m.W.length∧(soundV m p n a s).2.t=m.t+n:=by
  unfold soundV
  rw [if_neg (by rw [hk]; simp),if_neg (by rw [hN]; simp;omega)]
  dsimp only
  rw [Int.toNat_natCast]
  obtain ⟨g1,g2,g3,g4⟩:=Mm.rds_len (rowO a n) m
  rw [rowO_len] at g3
  exact ⟨rfl,g1,g3⟩
theorem holds_t {m:Mm} {l:List Int} {a:Int} (hN:m.hasN a l.length=true):(holdsV m l a).1.2=0∧(holdsV m l a).2.W.length=m.W.length∧(holdsV m l a).2.t=m.t+l.length:=by
  unfold holdsV
  rw [if_pos hN]
  obtain ⟨g1,g2,g3,g4⟩:=Mm.rds_len (rowO a l.length) m
  rw [rowO_len] at g3
  exact ⟨rfl,g1,g3⟩
theorem hasN_len {m m':Mm} (h:m'.W.length=m.W.length) (a n:Int):m'.hasN a n=m.hasN a n:=by unfold Mm.hasN;rw [h]
theorem hasN_less {m:Mm} {a n k:Int} (h:m.hasN a n=true) (hk:0≤k∧k≤n):m.hasN a k=true:=by
  have:=hasN_in h
  unfold Mm.hasN;apply decide_eq_true;omega
theorem pass_zero {m:Mm} {p:Int} {l:List Ax} {inv:Bool} {s:Stp} {src dst tab:Int} (hs:stepV p l s=0) (h1:m.hasN src (nV l+6)=true) (h2:m.hasN dst (nV l+6)=true) (h3:m.hasN tab (tabV p l inv s).length=true):(passV m p l inv s src dst tab).1.2=0:=by
  unfold passV;rw [if_pos hs,if_pos ⟨h1,h2,h3⟩]
theorem turnV_eq {m:Mm} {p:Int} {l:List Ax} {inv:Bool} {s:Stp} {src dst tab:Int} (hs:stepV p l s=0) (h1:m.hasN src (nV l+6)=true) (h2:m.hasN dst (nV l+6)=true) (h3:m.hasN tab (tabV p l inv s).length=true) :
    turnV m p l inv s src dst tab=if (scrubV m p (nV l) src).1.2≠0 then (((false,[]),0),(scrubV m p (nV l) src).2) else
      (((( soundV (passV (layV (scrubV m p (nV l) src).2 (tabV p l inv s) tab).2 p l inv s src dst tab).2 p (nV l) src (scrubV m p (nV l) src).1.1.2).1.1 &&
        (holdsV (soundV (passV (layV (scrubV m p (nV l) src).2 (tabV p l inv s) tab).2 p l inv s src dst tab).2 p (nV l) src (scrubV m p (nV l) src).1.1.2).2 (tabV p l inv s) tab).1.1 &&
        (soundV (holdsV (soundV (passV (layV (scrubV m p (nV l) src).2 (tabV p l inv s) tab).2 p l inv s src dst tab).2 p (nV l) src (scrubV m p (nV l) src).1.1.2).2 (tabV p l inv s) tab).2 p (nV l) dst (passV (layV (scrubV m p (nV l) src).2 (tabV p l inv s) tab).2 p l inv s src dst tab).1.1).1.1,
        (scrubV m p (nV l) src).1.1.1),0),(soundV (holdsV (soundV (passV (layV (scrubV m p (nV l) src).2 (tabV p l inv s) tab).2 p l inv s src dst tab).2 p (nV l) src (scrubV m p (nV l) src).1.1.2).2 (tabV p l inv s) tab).2 p (nV l) dst (passV (layV (scrubV m p (nV l) src).2 (tabV p l inv s) tab).2 p l inv s src dst tab).1.1).2):=by
  unfold turnV
  rw [if_neg (fun e=>e hs),if_pos ⟨h1,h2,h3⟩]
set_option maxHeartbeats 4000000 in
set_option maxRecDepth 20000 in
theorem turn_w {S:St} {b:Nat} {m:Mm} {T:List Nat} (h:MS S b m T) {p:Int} {axes:Option Addr} {an ac:Nat} {l:List Ax} {inv:Bool} {s:Stp} {src dst tab:Int} (har:Ar S axes an 2 eAx l) (hl:an≤8796093022208) (hax:∀ y,axes=some y→l≠[]→y.block∉T) (ht:0≤m.t∧m.t < 576460752303423488) :
    WP (g_turn_Do [.pointer (some ⟨b,0,none⟩),vU p,.slice axes an ac,vB inv,spV s,vI src,vI dst,vI tab]) S fun v S'=>∃ fa,v=vT [vA [vB (turnV m p l inv s src dst tab).1.1.1,.slice fa (turnV m p l inv s src dst tab).1.1.2.length (turnV m p l inv s src dst tab).1.1.2.length],vI (turnV m p l inv s src dst tab).1.2]∧Kp T S S'∧MS S' b (turnV m p l inv s src dst tab).2 T∧OwnF S.length S' fa (turnV m p l inv s src dst tab).1.1.2:=by
  rw [g_turn_Do_eq]
  have hw:=h.w
  have hTlt:=h.lt
  simp only [wps,List.append_assoc,List.cons_append,List.nil_append,List.length_append,List.length_cons,List.length_nil,Nat.zero_add,Nat.reduceAdd,Nat.add_assoc]
  generalize hY:S++[AObj.cells (spC s) 29 none,AObj.cells [vB false,.slice none 0 0] 69 none]=Y
  have p0:S <+: Y:=⟨_,hY⟩
  have z0:Y[S.length]? = some (AObj.cells (spC s) 29 none):=by rw [← hY]; exact gA0
  have y0:Y[S.length+1]? = some (AObj.cells [vB false,.slice none 0 0] 69 none):=by rw [← hY]; exact gA
  have hYl:Y.length=S.length+2:=by rw [← hY]; simp
  have n0:S.length∉T:=fun hx=>by have:=hTlt _ hx;omega
  have n1:S.length+1∉T:=fun hx=>by have:=hTlt _ hx;omega
  have ends:∀ {S':St} {m':Mm} (o:AObj),S'[S.length+1]? = some (AObj.cells [vB false,.slice none 0 0] 69 none)→Kp T S S'→MS S' b m' T→(S'.set (S.length+1) o)[S.length+1]? = some o∧Kp T S (S'.set (S.length+1) o)∧MS (S'.set (S.length+1) o) b m' T:=fun {S' m'} o z k hm=>by
    have hl:=pre_lt z
    refine ⟨List.getElem?_set_self hl,⟨by rw [List.length_set]; exact k.len,fun i hi hn=>by rw [List.getElem?_set_ne (by omega),k.keep i hi hn]⟩,hm.kp (M:=[S.length+1]) ⟨by simp,fun i hi hn=>by rw [List.getElem?_set_ne]; rintro rfl;simp at hn⟩ (fun i hi=>by have:=hTlt i hi;simp;omega)⟩
  simp only [wps,cell_blk z0,List.getElem?_cons_zero,List.getElem?_cons_succ]
  refine (tablen_w (c:=ac) (har.mono p0) hl inv s).use ?_
  rintro _ S1 k1 ⟨tb,tk,rfl,htab,htn⟩
  have p1:=p0.trans k1
  have z1:=pre_get k1 z0
  have y1:=pre_get k1 y0
  have h1:=h.pre p1
  have l1:=p1.length_le
  simp only [wps,y1,List.drop_succ_cons,List.drop_zero,List.drop_nil]
  by_cases hst:stepV p l s≠0
  · have hV:turnV m p l inv s src dst tab=(((false,[]),stepV p l s),m):=by unfold turnV;rw [if_pos hst]
    rw [hV]
    obtain ⟨q1,q2,q3⟩:=ends (AObj.cells [vB false,.slice none 0 0] 69 none) y1 (Kp.of p1) h1
    simp only [cell_blk q1,List.getElem?_cons_zero,List.getElem?_cons_succ,wps]
    exact ⟨fun _=>⟨none,rfl,q2,q3,.inl ⟨rfl,rfl⟩⟩,fun e=>absurd e hst⟩
  have hst:stepV p l s=0:=Classical.byContradiction hst
  refine ⟨fun e=>absurd hst e,fun _=>?_⟩
  rw [show tableV p l inv s (tabV p l inv s)=tabV p l inv s by unfold tableV;rw [if_pos hst]] at htab ⊢
  have hk:=step_known hst
  obtain ⟨kk,dd,inner,nn,mm,hS⟩:=step_shape hst
  have hnn:=hS.nn
  have hn1:=hS.n1
  have hTs:=tab_small (inv:=inv) hst
  have hanl:=har.1
  have hnd1:∀ x∈ndOf l,1≤x:=fun x hx=>(hS.all x hx).1
  have hpn:=hS.np
  refine wp_loop (fun st S' t=>∃ j:Nat,st=[vN (prodN ((ndOf l).take j)),vN j]∧t=an-j∧j≤an∧S1 <+: S') ?_ an _ _ ⟨0,rfl,rfl,by omega,List.prefix_refl _⟩
  rintro st S2 _ ⟨j,rfl,rfl,hj,k2⟩
  simp only [wps]
  refine ⟨fun h5=>?_,fun h5=>?_⟩
  · have hj':j < l.length:=by omega
    have hjn:j < (ndOf l).length:=by simp [ndOf]; exact hj'
    obtain ⟨x,rfl,c0,c1⟩:=(har.mono (p1.trans k2)).getAx hj'
    have pr1:=prod_take_le hnd1 (j+1)
    have pr2:=prod_take_succ hjn
    have hN:=nd_get hS hj'
    rw [hpn] at pr1
    have hmul:((prodN ((ndOf l).take j):Nat):Int)*l[j].N=((prodN ((ndOf l).take (j+1)):Nat):Int):=by rw [pr2,Int.natCast_mul,hN]
    have gw:(S2++[AObj.cells [vI 0,vB false] 75 none])[S2.length]? = some (AObj.cells [vI 0,vB false] 75 none):=get_new
    simp only [wps,c0,c1,Int.toNat_natCast,hmul]
    rw [wI_ (n:=((prodN ((ndOf l).take (j+1)):Nat):Int)) (by omega) (by omega),wI_ (n:=(j:Int)+1) (by omega) (by omega)]
    exact ⟨by omega,an-(j+1),by omega,j+1,rfl,rfl,by omega,k2.trans (List.prefix_append _ _)⟩
  have hjn:j=an:=by omega
  have hall:(ndOf l).take j=ndOf l:=List.take_of_length_le (by simp [ndOf]; omega)
  rw [hall,hpn]
  have p2:=p1.trans k2
  have h2:=h1.pre k2
  have z2:=pre_get k2 z1
  have y2:=pre_get k2 y1
  have w6:wI ((nn:Int)+6)=(nn:Int)+6:=wI_ (by omega) (by omega)
  have pb:=List.prefix_append S2 [AObj.cells [.pointer (some ⟨b,0,none⟩),vI src,vI ((nn:Int)+6),.pointer (some ⟨b,0,none⟩),vI dst,vI ((nn:Int)+6),.pointer (some ⟨b,0,none⟩),vI tab,vN (tabV p l inv s).length] 131 none]
  have zb:=get_new (S:=S2) (o:=AObj.cells [.pointer (some ⟨b,0,none⟩),vI src,vI ((nn:Int)+6),.pointer (some ⟨b,0,none⟩),vI dst,vI ((nn:Int)+6),.pointer (some ⟨b,0,none⟩),vI tab,vN (tabV p l inv s).length] 131 none)
  simp only [wps,w6]
  generalize S2++[AObj.cells [.pointer (some ⟨b,0,none⟩),vI src,vI ((nn:Int)+6),.pointer (some ⟨b,0,none⟩),vI dst,vI ((nn:Int)+6),.pointer (some ⟨b,0,none⟩),vI tab,vN (tabV p l inv s).length] 131 none]=S3 at pb zb ⊢
  have p3:=p2.trans pb
  have h3:=h2.pre pb
  have y3:=pre_get pb y2
  have hVe:(m.hasN src (nV l+6)=true∧m.hasN dst (nV l+6)=true∧m.hasN tab (tabV p l inv s).length=true)∨turnV m p l inv s src dst tab=(((false,[]),1),m):=by
    by_cases hc:m.hasN src (nV l+6)=true∧m.hasN dst (nV l+6)=true∧m.hasN tab (tabV p l inv s).length=true
    · exact .inl hc
    · right;unfold turnV;rw [if_neg (fun e=>e hst),if_neg hc]
  have cb:∀ (i:Nat) (v:Value),[.pointer (some ⟨b,0,none⟩),vI src,vI ((nn:Int)+6),.pointer (some ⟨b,0,none⟩),vI dst,vI ((nn:Int)+6),.pointer (some ⟨b,0,none⟩),vI tab,vN (tabV p l inv s).length][i]? = some v→∀ {S':St},S3 <+: S'→St.cell S' ⟨S2.length,i,none⟩=some v:=fun i v e S' k=>pre_cell k (by rw [cell_blk zb]; exact e)

  refine wp_round ?_
  have b10:=cb 0 _ rfl (List.prefix_refl S3)
  have b11:=cb 1 _ rfl (List.prefix_refl S3)
  have b12:=cb 2 _ rfl (List.prefix_refl S3)
  simp only [wps,Nat.reduceMul,Nat.reduceAdd,Nat.zero_add,Nat.zero_mul,Int.reduceToNat,Int.reduceLT,Int.reduceLE,b10,b11,b12]
  have q1:=List.prefix_append S3 [AObj.cells [.pointer (some ⟨b,0,none⟩),vI src,vI ((nn:Int)+6)] 131 none]
  refine (rowthere_w (h3.pre q1)).use ?_
  rintro _ S4 k4 rfl
  have p34:=q1.trans k4
  have y4:=pre_get p34 y3
  have h4:=h3.pre p34
  have p4:=p3.trans p34
  have r4:=ends (AObj.cells [vB false,.slice none 0 0] 69 none) y4 (Kp.of p4) h4
  simp only [wps,y4,List.drop_succ_cons,List.drop_zero,List.drop_nil,cell_blk r4.1,List.getElem?_cons_zero,List.getElem?_cons_succ]
  refine ⟨fun e=>?_,fun hc1=>?_⟩
  · rcases hVe with hc | hV
    · exact absurd (hnn ▸ hc.1) (by rw [e]; simp)
    · rw [hV]; exact ⟨none,rfl,r4.2.1,r4.2.2,.inl ⟨rfl,rfl⟩⟩
  refine wp_round ?_
  have b20:=cb 3 _ rfl p34
  have b21:=cb 4 _ rfl p34
  have b22:=cb 5 _ rfl p34
  have w01:wI (0+1)=1:=rfl
  simp only [wps,w01,Nat.reduceMul,Nat.reduceAdd,Nat.zero_add,Nat.zero_mul,Nat.one_mul,Int.reduceToNat,Int.toNat_one,Int.reduceLT,Int.reduceLE,b20,b21,b22]
  have q2:=List.prefix_append S4 [AObj.cells [.pointer (some ⟨b,0,none⟩),vI dst,vI ((nn:Int)+6)] 131 none]
  refine (rowthere_w (h4.pre q2)).use ?_
  rintro _ S5 k5 rfl
  have p45:=q2.trans k5
  have y5:=pre_get p45 y4
  have h5':=h4.pre p45
  have p5:=p4.trans p45
  have r5:=ends (AObj.cells [vB false,.slice none 0 0] 69 none) y5 (Kp.of p5) h5'
  simp only [wps,y5,List.drop_succ_cons,List.drop_zero,List.drop_nil,cell_blk r5.1,List.getElem?_cons_zero,List.getElem?_cons_succ]
  refine ⟨fun e=>?_,fun hc2=>?_⟩
  · rcases hVe with hc | hV
    · exact absurd (hnn ▸ hc.2.1) (by rw [e]; simp)
    · rw [hV]; exact ⟨none,rfl,r5.2.1,r5.2.2,.inl ⟨rfl,rfl⟩⟩
  refine wp_round ?_
  have p35:=p34.trans p45
  have b30:=cb 6 _ rfl p35
  have b31:=cb 7 _ rfl p35
  have b32:=cb 8 _ rfl p35
  have w11:wI (1+1)=2:=rfl
  simp only [wps,w11,Nat.reduceMul,Nat.reduceAdd,Nat.zero_add,Nat.zero_mul,Nat.one_mul,Int.reduceToNat,Int.reduceLT,Int.reduceLE,b30,b31,b32]
  have q3:=List.prefix_append S5 [AObj.cells [.pointer (some ⟨b,0,none⟩),vI tab,vN (tabV p l inv s).length] 131 none]
  refine (rowthere_w (h5'.pre q3)).use ?_
  rintro _ S6 k6 rfl
  have p56:=q3.trans k6
  have y6:=pre_get p56 y5
  have h6:=h5'.pre p56
  have p6:=p5.trans p56
  have r6:=ends (AObj.cells [vB false,.slice none 0 0] 69 none) y6 (Kp.of p6) h6
  simp only [wps,y6,List.drop_succ_cons,List.drop_zero,List.drop_nil,cell_blk r6.1,List.getElem?_cons_zero,List.getElem?_cons_succ]
  refine ⟨fun e=>?_,fun hc3=>?_⟩
  · rcases hVe with hc | hV
    · exact absurd (hc.2.2) (by rw [e]; simp)
    · rw [hV]; exact ⟨none,rfl,r6.2.1,r6.2.2,.inl ⟨rfl,rfl⟩⟩
  refine wp_round ?_
  have w21:wI (2+1)=3:=rfl
  simp only [wps,w21,Int.reduceLT]
  clear hVe
  have hc1':m.hasN src (nV l+6)=true:=by rw [hnn]; exact hc1
  have hc2':m.hasN dst (nV l+6)=true:=by rw [hnn]; exact hc2
  have hVt:=turnV_eq (inv:=inv) hst hc1' hc2' hc3
  generalize turnV m p l inv s src dst tab=V at hVt ⊢
  rw [hnn] at hVt
  obtain ⟨a1,a2,a3⟩:=scrub_t (n:=nn) hk (by omega) hc1
  refine (scrub_w (p:=p) (n:=(nn:Int)) (a:=src) h6 (by omega)).mono ?_
  rintro _ S7 ⟨fx,rfl,k7,h7,o7⟩
  generalize scrubV m p nn src=A at hVt a1 a2 a3 h7 o7 ⊢
  have kp7:=(Kp.of p6).trans k7
  have y7:=k7.get y6 n1
  have l6:=p6.length_le
  have ly6:=pre_lt y6
  simp only [wps]
  have q7:=List.prefix_append S7 [AObj.cells [vU A.1.1.2.1,vU A.1.1.2.2] 40 none]
  have z7:=get_new (S:=S7) (o:=AObj.cells [vU A.1.1.2.1,vU A.1.1.2.2] 40 none)
  have z7n:S7.length∉T:=fun hx=>by have:=hTlt _ hx;have:=k7.len;omega
  have hS7l:S6.length≤S7.length:=k7.len
  generalize hY8:S7++[AObj.cells [vU A.1.1.2.1,vU A.1.1.2.2] 40 none]=S8 at q7 z7 ⊢
  have y8:=pre_get q7 y7
  have h8:=h7.pre q7
  have kp8:=kp7.more q7
  have o8:=o7.pre q7
  have r8:=ends (AObj.cells [vB false,.slice none 0 0] 69 none) y8 kp8 h8
  simp only [wps,y8,List.drop_succ_cons,List.drop_zero,List.drop_nil,cell_blk r8.1,List.getElem?_cons_zero,List.getElem?_cons_succ]
  refine ⟨fun e=>?_,fun e=>?_⟩
  · rw [if_pos e] at hVt
    rw [hVt]
    exact ⟨none,rfl,r8.2.1,r8.2.2,.inl ⟨rfl,rfl⟩⟩
  rw [if_neg (fun h=>h e)] at hVt
  have a3:A.2.t=m.t+nn+6+A.1.1.1.length:=by
    rcases a3 with a3 | a3
    · exact a3.2
    · rw [e] at a3;exact absurd a3.1 (by decide)
  have htu:∀ y∈tabV p l inv s,Go.Proofs.YtackinampfgklaaGreatDoor.u64r y:=fun y hy=>u64_of hk (tab_in hk y hy)
  have hTT:∀ y,tb=some y→tabV p l inv s≠[]→y.block∉T:=fun y hy _ hm=>by have:=htn y hy;have:=hTlt _ hm;omega
  have kp18:Kp T S1 S8:=((Kp.of (k2.trans (pb.trans (p34.trans (p45.trans p56))))).trans k7).more q7
  have htab8:=kp18.ar htab (fun hne y hy=>hTT y hy hne)
  obtain ⟨b1,b2,b3⟩:=lay_t (m:=A.2) (l:=tabV p l inv s) (a:=tab) (by rw [hasN_len a1]; exact hc3)
  refine (lay_w (lc:=tk) h8 htab8 hTT htu (by omega) (by omega)).mono ?_
  rintro _ S9 ⟨rfl,k9,h9⟩
  rw [b1]
  generalize (layV A.2 (tabV p l inv s) tab).2=L at hVt b2 b3 h9
  have bL:L.W.length=m.W.length:=b2.trans a1
  have kp9:=kp8.trans k9
  have y9:=k9.get y8 n1
  have z9:=k9.get z7 z7n
  have zS6:=pre_get ((k2.trans (pb.trans (p34.trans (p45.trans p56))))) z1
  have zS9:=k9.get (pre_get q7 (k7.get zS6 n0)) n0
  have har9:=kp9.ar har (fun hne y hy=>hax y hy hne)
  simp only [wps,cell_blk zS9,List.getElem?_cons_zero,List.getElem?_cons_succ]
  refine (run_w (p:=p) (c:=ac) (inv:=inv) (s:=s) (src:=src) (dst:=dst) (tab:=tab) h9 har9 hl hax ⟨by omega,by omega⟩).mono ?_
  rintro _ S10 ⟨rfl,k10,h10⟩
  have v0:(passV L p l inv s src dst tab).1.2=0:=pass_zero hst (by rw [hasN_len bL]; exact hc1') (by rw [hasN_len bL]; exact hc2') (by rw [hasN_len bL]; exact hc3)
  have vt:(passV L p l inv s src dst tab).2.t=L.t+3*nn+6∧(passV L p l inv s src dst tab).2.W.length=L.W.length:=by
    rcases passV_facts (m:=L) (p:=p) (l:=l) (inv:=inv) (s:=s) (src:=src) (dst:=dst) (tab:=tab) with ⟨hf,_⟩ | hf
    · exact absurd v0 hf
    · exact ⟨by rw [hf.2.1,hnn],hf.2.2.1⟩
  rw [v0]
  generalize passV L p l inv s src dst tab=P at hVt v0 vt h10 ⊢
  obtain ⟨vt1,vt2⟩:=vt
  have bP:P.2.W.length=m.W.length:=vt2.trans bL
  have kp10:=kp9.trans k10
  have y10:=k10.get y9 n1
  have z10:=k10.get z9 z7n
  simp only [wps]
  have q11:=List.prefix_append S10 [AObj.cells [vU P.1.1.1,vU P.1.1.2] 40 none]
  have x11:=get_new (S:=S10) (o:=AObj.cells [vU P.1.1.1,vU P.1.1.2] 40 none)
  have x11n:S10.length∉T:=fun hx=>by have:=hTlt _ hx;have:=kp10.len;omega
  generalize S10++[AObj.cells [vU P.1.1.1,vU P.1.1.2] 40 none]=S11 at q11 x11 ⊢
  have y11:=pre_get q11 y10
  have z11:=pre_get q11 z10
  have h11:=h10.pre q11
  have kp11:=kp10.more q11
  have hsrcn:P.2.hasN src (nn:Int)=true:=by rw [hasN_len bP]; exact hasN_less hc1 ⟨by omega,by omega⟩
  obtain ⟨s1,s2,s3⟩:=sound_t (m:=P.2) (s:=A.1.1.2) hk (n:=nn) (by omega) hsrcn
  simp only [wps,cell_blk z11,List.getElem?_cons_zero,List.getElem?_cons_succ]
  refine (sound_w (p:=p) (n:=(nn:Int)) (a:=src) (s:=A.1.1.2) h11 ⟨by omega,by omega⟩).mono ?_
  rintro _ S12 ⟨rfl,k12,h12⟩
  rw [s1]
  generalize soundV P.2 p nn src A.1.1.2=B at hVt s2 s3 h12 ⊢
  have bB:B.2.W.length=m.W.length:=s2.trans bP
  have kp12:=kp11.trans k12
  have y12:=k12.get y11 n1
  have x12:=k12.get x11 x11n
  have kp1c:Kp T S1 S12:=((kp18.trans k9).trans k10 |>.more q11).trans k12
  have htab12:=kp1c.ar htab (fun hne y hy=>hTT y hy hne)
  obtain ⟨u1,u2,u3⟩:=holds_t (m:=B.2) (l:=tabV p l inv s) (a:=tab) (by rw [hasN_len bB]; exact hc3)
  simp only [wps]
  refine (holds_w (lc:=tk) (a:=tab) h12 htab12 hTT ⟨by omega,by omega⟩ (by omega)).mono ?_
  rintro _ S13 ⟨rfl,k13,h13⟩
  rw [u1]
  generalize holdsV B.2 (tabV p l inv s) tab=C at hVt u2 u3 h13 ⊢
  have bC:C.2.W.length=m.W.length:=u2.trans bB
  have kp13:=kp12.trans k13
  have y13:=k13.get y12 n1
  have x13:=k13.get x12 x11n
  have hdstn:C.2.hasN dst (nn:Int)=true:=by rw [hasN_len bC]; exact hasN_less hc2 ⟨by omega,by omega⟩
  obtain ⟨d1,d2,d3⟩:=sound_t (m:=C.2) (s:=P.1.1) hk (n:=nn) (by omega) hdstn
  simp only [wps,cell_blk x13,List.getElem?_cons_zero,List.getElem?_cons_succ]
  refine (sound_w (p:=p) (n:=(nn:Int)) (a:=dst) (s:=P.1.1) h13 ⟨by omega,by omega⟩).mono ?_
  rintro _ S14 ⟨rfl,k14,h14⟩
  rw [d1]
  generalize soundV C.2 p nn dst P.1.1=D at hVt d2 d3 h14 ⊢
  have kp14:=kp13.trans k14
  have y14:=k14.get y13 n1
  have k814:Kp T S8 S14:=((((k9.trans k10).more q11).trans k12).trans k13).trans k14
  have o14:OwnF S6.length S14 fx A.1.1.1:=o8.keep fun i hi=>k814.keep i (o8.lt i hi).2 (fun hm=>by have:=(o8.lt i hi).1;have:=hTlt _ hm;omega)
  have own:∀ o:AObj,OwnF S.length (S14.set (S.length+1) o) fx A.1.1.1:=fun o=>by
    have:=o14.keep (S':=S14.set (S.length+1) o) fun i hi=>by
      have:=(o14.lt i hi).1
      rw [List.getElem?_set_ne (by omega)]
    exact this.imp id fun ⟨b,e1,e2,e3⟩=>⟨b,e1,by omega,e3⟩
  have fin:∀ u:Bool,u=(B.1.1 && C.1.1 && D.1.1)→∃ fa,vT [vA [vB u,.slice fx A.1.1.1.length A.1.1.1.length],vI 0]=vT [vA [vB V.1.1.1,.slice fa V.1.1.2.length V.1.1.2.length],vI V.1.2]∧Kp T S (S14.set (S.length+1) (AObj.cells [vB u,.slice fx A.1.1.1.length A.1.1.1.length] 69 none))∧MS (S14.set (S.length+1) (AObj.cells [vB u,.slice fx A.1.1.1.length A.1.1.1.length] 69 none)) b V.2 T∧OwnF S.length (S14.set (S.length+1) (AObj.cells [vB u,.slice fx A.1.1.1.length A.1.1.1.length] 69 none)) fa V.1.1.2:=fun u hu=>by
    have r14:=ends (AObj.cells [vB u,.slice fx A.1.1.1.length A.1.1.1.length] 69 none) y14 kp14 h14
    rw [hVt,hu]
    rw [hu] at r14
    exact ⟨fx,rfl,r14.2.1,r14.2.2,own _⟩
  have rr:=fun u:Bool=>(ends (AObj.cells [vB u,.slice fx A.1.1.1.length A.1.1.1.length] 69 none) y14 kp14 h14).1
  simp only [wps,y14,List.drop_succ_cons,List.drop_zero,List.drop_nil,fun u=>cell_blk (rr u),List.getElem?_cons_zero,List.getElem?_cons_succ]
  refine ⟨fun e1=>⟨fun e2=>fin _ (by rw [e1,e2]; rfl),fun e2=>fin _ (by rw [e1,e2]; rfl)⟩,fun e1=>fin _ (by rw [e1]; rfl)⟩
end Go.AM
set_option linter.unusedVariables false
set_option linter.unusedSimpArgs false
namespace Go.AM
open Go Go.Proofs.YtackinampfgklaaGreatDoor
theorem turn_ticks {m:Mm} {p:Int} {l:List Ax} {inv:Bool} {s:Stp} {src dst tab:Int} (hs:stepV p l s=0) (h1:m.hasN src (nV l+6)=true) (h2:m.hasN dst (nV l+6)=true) (h3:m.hasN tab (tabV p l inv s).length=true) :
    (turnV m p l inv s src dst tab).1.2=0∧(turnV m p l inv s src dst tab).1.1.2.length≤3∧(turnV m p l inv s src dst tab).2.W.length=m.W.length ∧
    (((turnV m p l inv s src dst tab).1.1.1=false∧(turnV m p l inv s src dst tab).1.1.2=[]∧(turnV m p l inv s src dst tab).2.t=m.t+nV l+6) ∨
     (turnV m p l inv s src dst tab).2.t=m.t+6*nV l+12+2*(tabV p l inv s).length+(turnV m p l inv s src dst tab).1.1.2.length):=by
  have hk:=step_known hs
  obtain ⟨kk,dd,inner,nn,mm,hS⟩:=step_shape hs
  have hnn:=hS.nn
  have hn1:=hS.n1
  have hV:=turnV_eq (inv:=inv) hs h1 h2 h3
  generalize turnV m p l inv s src dst tab=V at hV ⊢
  have v0:∀ L:Mm,L.W.length=m.W.length→(passV L p l inv s src dst tab).1.2=0:=fun L hL=>pass_zero hs (by rw [hasN_len hL]; exact h1) (by rw [hasN_len hL]; exact h2) (by rw [hasN_len hL]; exact h3)
  rw [hnn] at hV h1 h2 ⊢
  obtain ⟨a1,a2,a3⟩:=scrub_t (n:=nn) hk (by omega) h1
  generalize scrubV m p nn src=A at hV a1 a2 a3
  by_cases e:A.1.2≠0
  · rw [if_pos e] at hV
    rw [hV]
    rcases a3 with a3 | a3
    · exact absurd a3.1 e
    · exact ⟨rfl,by simp,a1,.inl ⟨rfl,rfl,a3.2.1⟩⟩
  rw [if_neg e] at hV
  have a3:A.2.t=m.t+nn+6+A.1.1.1.length:=by
    rcases a3 with a3 | a3
    · exact a3.2
    · exact absurd (by rw [a3.1]; decide) e
  obtain ⟨b1,b2,b3⟩:=lay_t (m:=A.2) (l:=tabV p l inv s) (a:=tab) (by rw [hasN_len a1]; exact h3)
  generalize (layV A.2 (tabV p l inv s) tab).2=L at hV b2 b3
  have bL:L.W.length=m.W.length:=b2.trans a1
  have v0:=v0 L bL
  have vt:(passV L p l inv s src dst tab).2.t=L.t+3*nn+6∧(passV L p l inv s src dst tab).2.W.length=L.W.length:=by
    rcases passV_facts (m:=L) (p:=p) (l:=l) (inv:=inv) (s:=s) (src:=src) (dst:=dst) (tab:=tab) with ⟨hf,_⟩ | hf
    · exact absurd v0 hf
    · exact ⟨by rw [hf.2.1,hnn],hf.2.2.1⟩
  generalize passV L p l inv s src dst tab=P at hV v0 vt
  obtain ⟨vt1,vt2⟩:=vt
  have bP:P.2.W.length=m.W.length:=vt2.trans bL
  obtain ⟨s1,s2,s3⟩:=sound_t (m:=P.2) (s:=A.1.1.2) hk (n:=nn) (a:=src) (by omega) (by rw [hasN_len bP]; exact hasN_less h1 ⟨by omega,by omega⟩)
  generalize soundV P.2 p nn src A.1.1.2=B at hV s2 s3
  have bB:B.2.W.length=m.W.length:=s2.trans bP
  obtain ⟨u1,u2,u3⟩:=holds_t (m:=B.2) (l:=tabV p l inv s) (a:=tab) (by rw [hasN_len bB]; exact h3)
  generalize holdsV B.2 (tabV p l inv s) tab=C at hV u2 u3
  have bC:C.2.W.length=m.W.length:=u2.trans bB
  obtain ⟨d1,d2,d3⟩:=sound_t (m:=C.2) (s:=P.1.1) hk (n:=nn) (a:=dst) (by omega) (by rw [hasN_len bC]; exact hasN_less h2 ⟨by omega,by omega⟩)
  generalize soundV C.2 p nn dst P.1.1=D at hV d2 d3
  rw [hV]
  refine ⟨rfl,a2,d2.trans bC,.inr ?_⟩
  dsimp only
  omega
theorem row_nil {m:Mm} (h:m.L=[]) {d n:Nat} (hl:d+n≤m.W.length):m.rds (rowO (d:Int) n)=((m.W.drop d).take n,⟨m.W,[],m.t+n,m.ah⟩):=by
  have:=gI_row (I:=m.W) (d:=d) (n:=n) hl
  rw [rds_nil _ _ h,rowO_len]
  exact Prod.ext this rfl
theorem win_mend {k d:Nat}:∀ (fx:List Fx) (W:List Int),(∀ f∈fx,0≤f.ad∧f.ad < k)→((wset W ((fx.map (Fx.up (d:Int))).map Fx.st)).drop d).take k=mend ((W.drop d).take k) fx
  | [], W, _ => rfl
  | f :: fx, W, h => by
    have hf:=h f (by simp)
    have e1:wset W (((f :: fx).map (Fx.up (d:Int))).map Fx.st)=wset (W.set (f.ad+(d:Int)).toNat f.good) ((fx.map (Fx.up (d:Int))).map Fx.st):=rfl
    rw [e1,win_mend fx _ fun g hg=>h g (by simp [hg]),win_set,if_pos ⟨by omega,by omega⟩]
    show _=mend (((W.drop d).take k).set f.ad.toNat f.good) fx
    rw [show (f.ad+(d:Int)).toNat-d=f.ad.toNat by omega]
theorem win_row {d:Nat} {l W:List Int} (h:d+l.length≤W.length):((wset W ((rowO (d:Int) l.length).zip l)).drop d).take l.length=l:=by
  have hz:(rowO (d:Int) l.length).zip l=((List.range l.length).zip l).map (shf (d:Int)):=zip_shf _ _ _
  have hfst:((List.range l.length).zip l).map (·.1)=List.range l.length:=by rw [List.map_fst_zip]; simp
  rw [hz,wset_shf _ _ h (fun e he=>List.mem_range.1 (List.of_mem_zip he).1)]
  apply List.ext_getElem?
  intro i
  by_cases hi:i < l.length
  · have hm:(i,l[i])∈(List.range l.length).zip l:=by
      refine List.mem_iff_getElem.2 ⟨i,by simp;exact hi,by simp⟩
    have:=scat_at ((List.range l.length).zip l) ((W.drop d).take l.length) (by rw [hfst]; exact List.nodup_range) _ hm (by simp;omega)
    rw [this,List.getElem?_eq_getElem hi]
  · rw [List.getElem?_eq_none (by rw [scat_len]; simp;omega),List.getElem?_eq_none (by omega)]
theorem wset_out {d n:Nat} {l:List (Int×Int)} {W:List Int} (h:∀ e∈l,(d:Int)≤e.1∧e.1 < (d:Int)+n) {i:Nat} (hi:i < d∨d+n≤i):(wset W l)[i]? = W[i]?:=
  wset_other l W i fun e he=>by have:=h e he;omega
theorem win_same {W V:List Int} {d n:Nat} (h:∀ i,d≤i→i < d+n→W[i]? = V[i]?):(W.drop d).take n=(V.drop d).take n:=by
  apply List.ext_getElem?
  intro i
  rw [List.getElem?_take,List.getElem?_take]
  split
  · rename_i hi
    rw [List.getElem?_drop,List.getElem?_drop]
    exact h _ (by omega) (by omega)
  · rfl
theorem scrub_nil {m:Mm} (hL:m.L=[]) {p:Int} {n d:Nat} {good:List Int} {fx:List Fx} (hk:known p=true) (hn:1≤n∧n≤4096) (hl:d+n+6≤m.W.length) (hw:∀ y∈m.W,0≤y) (hf:fixV p ((m.W.drop d).take (n+6))=((good,fx),0)) :
    (scrubV m p n d).1=((fx.map (Fx.up d),(good.getD n 0,good.getD (n+3) 0)),0)∧(scrubV m p n d).2.L=[]∧(scrubV m p n d).2.W.length=m.W.length∧((scrubV m p n d).2.W.drop d).take (n+6)=good∧∀ i,(i < d∨d+n+6≤i)→(scrubV m p n d).2.W[i]? = m.W[i]?:=by
  have hN:m.hasN (d:Int) ((n:Int)+6)=true:=by unfold Mm.hasN;apply decide_eq_true;omega
  obtain ⟨x,_,g1,g2,g3,g4,g5,g6,g7,g8⟩:=fix_sound (fun y hy=>hw y (List.mem_of_mem_drop (List.mem_of_mem_take hy))) hf
  have hcl:((m.W.drop d).take (n+6)).length=n+6:=by simp;omega
  unfold scrubV
  rw [if_neg (by rw [hk]; simp),if_neg (by rw [hN]; simp;omega)]
  dsimp only
  rw [Int.toNat_natCast,row_nil hL (by omega)]
  dsimp only
  rw [hf,if_neg (by simp)]
  dsimp only
  rw [wrs_nil _ _ rfl]
  refine ⟨rfl,rfl,wset_len _ _,?_,fun i hi=>?_⟩
  · dsimp only
    rw [win_mend fx m.W fun f hf=>by have:=g7 f hf;omega]
    exact g8
  · dsimp only
    refine wset_out (n:=n+6) (fun e he=>?_) (by omega)
    obtain ⟨f,hf1,rfl⟩:=List.mem_map.1 he
    obtain ⟨f',hf2,rfl⟩:=List.mem_map.1 hf1
    have:=g7 f' hf2
    show (d:Int)≤f'.ad+d∧f'.ad+d < _
    omega
theorem lay_nil {m:Mm} (hL:m.L=[]) {l:List Int} {d:Nat} (hl:d+l.length≤m.W.length):(layV m l d).2.L=[]∧(layV m l d).2.W.length=m.W.length∧((layV m l d).2.W.drop d).take l.length=l∧∀ i,(i < d∨d+l.length≤i)→(layV m l d).2.W[i]? = m.W[i]?:=by
  have hN:m.hasN (d:Int) (l.length:Int)=true:=by unfold Mm.hasN;apply decide_eq_true;omega
  unfold layV
  rw [if_pos hN]
  dsimp only
  rw [wrs_nil _ _ hL]
  refine ⟨rfl,wset_len _ _,win_row hl,fun i hi=>?_⟩
  dsimp only
  refine wset_out (n:=l.length) (fun e he=>?_) hi
  obtain ⟨j,hj,hx⟩:=List.mem_map.1 (List.of_mem_zip he).1
  have:=List.mem_range.1 hj
  rw [← hx]; omega
theorem pass_L {m:Mm} (hL:m.L=[]) {p:Int} {l:List Ax} {inv:Bool} {s:Stp} {src dst tab:Int}:(passV m p l inv s src dst tab).2.L=[]:=by
  unfold passV
  split
  · rename_i hs
    split
    · dsimp only
      obtain ⟨k,dd,inner,nn,mm,hS⟩:=step_shape hs
      obtain ⟨gf1,_⟩:=grps_facts hS
      obtain ⟨L,a1,a2,a3,a4⟩:=steps_nil (inv:=inv) (src:=src) (dst:=dst) (tab:=tab) (step_known hs) (grpsV l s) (m,List.replicate (nV l).toNat 0) gf1 hL
      have a4:(passG p inv s.tw src dst tab m (nV l).toNat (grpsV l s)).1.L=[]:=a4
      rw [wrs_nil _ _ a4]
    · exact hL
  · exact hL
theorem agrees_ok {p:Int} (hk:known p=true) {x:List Int} (hx:∀ y∈x,inP p y) (hl:x.length≤4096):agreesV p (sumsV p x) x=true:=by
  unfold agreesV
  rw [hk,decide_eq_true hl,decide_eq_true (show ∀ y∈x,y < p from fun y hy=>(hx y hy).2)]
  simp
theorem turn_quiet {m:Mm} (hL:m.L=[]) {p:Int} {l:List Ax} {inv:Bool} {s:Stp} {sr d tb n:Nat} {good:List Int} {fx:List Fx} {x:List Int} (hst:stepV p l s=0) (hn:nV l=(n:Int)) (hw:∀ y∈m.W,0≤y)
    (h1:sr+n+6≤m.W.length) (h2:d+n+6≤m.W.length) (h3:tb+(tabV p l inv s).length≤m.W.length)
    (hd:d+n+6≤sr∨sr+n+6≤d) (ht:d+n+6≤tb∨tb+(tabV p l inv s).length≤d) (hs:sr+n+6≤tb∨tb+(tabV p l inv s).length≤sr)
    (hf:fixV p ((m.W.drop sr).take (n+6))=((good,fx),0)) (hx:good=x++sx (sumsV p x)) (hxi:∀ y∈x,inP p y) (hxl:x.length=n) :
    (turnV m p l inv s sr d tb).1=((true,fx.map (Fx.up sr)),0)∧(turnV m p l inv s sr d tb).2.L=[]∧(turnV m p l inv s sr d tb).2.W.length=m.W.length ∧
    ((turnV m p l inv s sr d tb).2.W.drop d).take (n+6)=doG p inv s.tw n (grpsV l s) (tabV p l inv s) x++sixL (sumsV p (doG p inv s.tw n (grpsV l s) (tabV p l inv s) x)):=by
  have hk:=step_known hst
  obtain ⟨kk,dd,inner,nn,mm,hS⟩:=step_shape hst
  have hnn:=hS.nn
  have hn1:=hS.n1
  obtain rfl:nn=n:=by omega
  have hN:∀ (m':Mm) (a k:Nat),m'.W.length=m.W.length→a+k≤m.W.length→m'.hasN (a:Int) (k:Int)=true:=fun m' a k e h=>by unfold Mm.hasN;apply decide_eq_true;omega
  have c1:m.hasN sr (nV l+6)=true:=by rw [hn]; exact hN m sr (nn+6) rfl (by omega)
  have c2:m.hasN d (nV l+6)=true:=by rw [hn]; exact hN m d (nn+6) rfl (by omega)
  have c3:m.hasN tb (tabV p l inv s).length=true:=hN m tb _ rfl (by omega)
  have hV:=turnV_eq (inv:=inv) hst c1 c2 c3
  generalize turnV m p l inv s sr d tb=V at hV ⊢
  rw [hn] at hV
  obtain ⟨a1,a2,a3,a4,a5⟩:=scrub_nil hL hk (by omega) h1 hw hf
  generalize scrubV m p nn sr=A at hV a1 a2 a3 a4 a5
  rw [a1] at hV
  dsimp only at hV
  rw [if_neg (by simp)] at hV
  obtain ⟨q1,q2⟩:=sx_get (sumsV p x) x
  rw [hxl] at q1 q2
  rw [hx,q1,q2] at hV
  obtain ⟨b1,b2,b3,b4⟩:=lay_nil a2 (l:=tabV p l inv s) (d:=tb) (by omega)
  generalize (layV A.2 (tabV p l inv s) tb).2=L at hV b1 b2 b3 b4
  have bL:L.W.length=m.W.length:=b2.trans a3
  have wx:(L.W.drop sr).take (nn+6)=x++sx (sumsV p x):=by
    rw [← hx,← a4]
    exact win_same fun i hi1 hi2=>b4 i (by omega)
  have wx1:(L.W.drop sr).take nn=x:=by
    have : (L.W.drop sr).take nn=((L.W.drop sr).take (nn+6)).take nn:=by rw [List.take_take]; congr 1;omega
    rw [this,wx,← hxl,List.take_left]
  obtain ⟨p1,p2⟩:=passQ b1 hst hn (by omega) (by omega) (by omega) wx1 hxi b3 hd ht
  obtain ⟨w,d',e1,e2,_,_,w1,_,_,_,w2,_⟩:=passW b1 (p:=p) (l:=l) (inv:=inv) (s:=s) (src:=(sr:Int)) (dst:=(d:Int)) (tab:=(tb:Int)) (by rw [p1])
  obtain rfl:w=nn:=by omega
  obtain rfl:d'=d:=by omega
  have pL:=pass_L b1 (p:=p) (l:=l) (inv:=inv) (s:=s) (src:=(sr:Int)) (dst:=(d':Int)) (tab:=(tb:Int))
  generalize hyd:doG p inv s.tw w (grpsV l s) (tabV p l inv s) x=y at p1 p2 ⊢
  have hyi:∀ v∈y,inP p v:=by rw [← hyd]; exact doG_in hk
  have hyl:y.length=w:=by rw [← hyd]; exact doG_length ..
  generalize passV L p l inv s sr d' tb=P at hV p1 p2 w1 w2 pL
  rw [p1] at hV
  dsimp only at hV
  have bP:P.2.W.length=m.W.length:=w1.trans bL
  have s1:soundV P.2 p w sr (sumsV p x)=((true,0),⟨P.2.W,[],P.2.t+w,P.2.ah⟩):=by
    unfold soundV
    rw [if_neg (by rw [hk]; simp),if_neg (by rw [hN P.2 sr w bP (by omega)]; simp;omega),Int.toNat_natCast,row_nil pL (by omega)]
    have : (P.2.W.drop sr).take w=x:=by rw [← wx1]; exact win_same fun i hi1 hi2=>w2 i (by omega)
    rw [this,agrees_ok hk hxi (by omega)]
  have hs1:soundV P.2 p w sr ((sumsV p x).1,(sumsV p x).2)=((true,0),⟨P.2.W,[],P.2.t+w,P.2.ah⟩):=s1
  rw [hs1] at hV
  dsimp only at hV
  have u1:holdsV ⟨P.2.W,[],P.2.t+w,P.2.ah⟩ (tabV p l inv s) tb=((true,0),⟨P.2.W,[],P.2.t+w+(tabV p l inv s).length,P.2.ah⟩):=by
    unfold holdsV
    rw [if_pos (hN ⟨P.2.W,[],P.2.t+w,P.2.ah⟩ tb (tabV p l inv s).length bP (by omega)),row_nil rfl (by dsimp only;omega)]
    have : (P.2.W.drop tb).take (tabV p l inv s).length=tabV p l inv s:=(win_same fun i hi1 hi2=>w2 i (by omega)).trans b3
    dsimp only
    rw [this]
    simp
  rw [u1] at hV
  dsimp only at hV
  have d1:soundV ⟨P.2.W,[],P.2.t+w+(tabV p l inv s).length,P.2.ah⟩ p w d' (sumsV p y)=((true,0),⟨P.2.W,[],P.2.t+w+(tabV p l inv s).length+w,P.2.ah⟩):=by
    unfold soundV
    rw [if_neg (by rw [hk]; simp),if_neg (by rw [hN ⟨P.2.W,[],P.2.t+w+(tabV p l inv s).length,P.2.ah⟩ d' w bP (by omega)]; simp;omega),Int.toNat_natCast,row_nil rfl (by dsimp only;omega)]
    have : (P.2.W.drop d').take w=y:=by
      have : (P.2.W.drop d').take w=((P.2.W.drop d').take (w+6)).take w:=by rw [List.take_take]; congr 1;omega
      rw [this,p2,← hyl,List.take_left]
    dsimp only
    rw [this,agrees_ok hk hyi (by omega)]
  rw [d1] at hV
  rw [hV]
  exact ⟨rfl,rfl,bP,p2⟩
end Go.AM
set_option linter.unusedVariables false
set_option linter.unusedSimpArgs false
namespace Go.AM
open Go Go.Proofs.YtackinampfgklaaGreatDoor
set_option maxHeartbeats 1000000 in
theorem laidT_w {S:St} {pw pe:Option Addr} {nw cw ne ce:Nat} {ws:List Int} {l:List Ev} (h:Ar S pw nw 1 eU ws) (k:Ar S pe ne 6 Ev.cells l) (hn:1≤nw∧nw≤16384) (hne:ne≤1024) (hw:wsOk ws) (hl:∀ x∈l,Go.Proofs.YtackinampfgklaaGreatDoor.u64r x.ma) (ht:∀ x∈l,x.ti≤9223372036854775807) :
    WP (g_l19_laid [.slice pw nw cw,.slice pe ne ce]) S fun v S'=>∃ b T,v = .pointer (some ⟨b,0,none⟩)∧S <+: S'∧MS S' b ⟨ws,l,0,ws.length⟩ T∧∀ i∈T,S.length≤i:=by
  have hlw:=h.1
  rw [g_l19_laid_eq]
  simp only [wps]
  refine (new_w (p:=none) (n:=0) (c:=0) (l:=[]) (w:=(nw:Int)) .nil (by omega) (by simp) (by simp) (by omega)).mono ?_
  rintro _ S1 ⟨b,rfl,k1,h1⟩
  have hT1:∀ i∈newT S S1,S.length≤i:=fun i hi=>(newT_mem.1 hi).2
  generalize newT S S1=T at h1 hT1
  simp only [wps,Option.isNone_some]
  refine wp_loop (fun st S' q=>∃ j:Nat,st=[vN j]∧q=nw-j∧j≤nw∧Kp T S1 S'∧MS S' b ⟨ws.take j++List.replicate (nw-j) 0,[],j,0⟩ T) ?_ nw _ _ ⟨0,rfl,rfl,by omega,.refl,by simpa using h1⟩
  rintro st S2 q ⟨j,rfl,rfl,hj,k2,h2⟩
  have hS2:S <+: S2:=k2.low hT1 k1 (Nat.le_refl _)
  have hlen:(ws.take j++List.replicate (nw-j) (0:Int)).length=nw:=by simp;omega
  simp only [wps]
  refine ⟨fun h3=>⟨h3,?_⟩,fun h3=>?_⟩
  · have hj':j < ws.length:=by omega
    obtain ⟨x,rfl,c1⟩:=(h.mono hS2).getU hj'
    simp only [wps,c1]
    have hwj:=hw _ (List.getElem_mem hj')
    refine (store_w h2 (a:=(j:Int)) (by dsimp only;rw [hlen]; omega) (by dsimp only;omega) hwj).mono ?_
    rintro _ S3 ⟨rfl,k3,h4⟩
    rw [wr_nil rfl] at h4
    simp only [wps]
    rw [wI_ (n:=(j:Int)+1) (by omega) (by omega)]
    refine ⟨nw-(j+1),by omega,j+1,rfl,rfl,by omega,k2.trans k3,?_⟩
    have e:(ws.take j++List.replicate (nw-j) (0:Int)).set ((j:Int)).toNat ws[j]=ws.take (j+1)++List.replicate (nw-(j+1)) 0:=by
      have hl1:(ws.take j).length=j:=by simp;omega
      rw [Int.toNat_natCast,List.set_append_right _ _ (by omega),hl1,Nat.sub_self,show nw-j=(nw-(j+1))+1 by omega,List.replicate_succ,List.set_cons_zero,take_snoc hj',List.append_assoc]; rfl
    dsimp only at h4
    rw [e] at h4
    exact h4
  · obtain rfl:j=nw:=by omega
    have e:ws.take j++List.replicate (j-j) (0:Int)=ws:=by rw [List.take_of_length_le (by omega),Nat.sub_self]; simp
    rw [e] at h2
    refine (nextm_w (c:=ce) h2 (k.mono hS2) hne hl (by dsimp only;omega) (by dsimp only;omega) ht).mono ?_
    rintro _ S3 ⟨rfl,hmo,h3'⟩
    have e2:(Mm.nxt ⟨ws,[],(j:Int),0⟩ l)=⟨ws,l,0,ws.length⟩:=by
      unfold Mm.nxt;rw [← hlw]; simp [Go.Proofs.YtackinampfgklaaGreatDoor.strike]
    rw [e2] at h3'
    simp only [wps]
    exact ⟨b,_,rfl,hmo.low hS2 hT1,h3',hmo.own_low hS2 hT1⟩
theorem few19_w {S:St} {j:Job} {a0 a1 a3:Option Addr} {c0 c1 c3:Nat} (h:JA S j a0 a1 a3):Sp (g_l19_few [jV j a0 c0 a1 c1 a3 c3]) S fun v _=>v=vB (fewJ j 24):=by
  unfold Sp
  rw [g_l19_few_eq]
  have hp:=List.prefix_append S [AObj.cells (jC j a0 c0 a1 c1 a3 c3) 65 none]
  have z:=get_new (S:=S) (o:=AObj.cells (jC j a0 c0 a1 c1 a3 c3) 65 none)
  simp only [wps]
  generalize hY:S++[AObj.cells (jC j a0 c0 a1 c1 a3 c3) 65 none]=Y at hp z ⊢
  refine (r07few_w (c:=c3) (h.a.mono hp) h.b).use ?_
  rintro _ S1 k1 rfl
  have z1:=pre_get k1 z
  have hS:=hp.trans k1
  simp only [wps,cell_blk z1,List.getElem?_cons_zero,List.getElem?_cons_succ]
  unfold fewJ
  refine ⟨fun h1=>⟨fun h2=>⟨fun h3=>⟨hS,?_⟩,fun h3=>⟨hS,?_⟩⟩,fun h2=>⟨hS,?_⟩⟩,fun h1=>⟨hS,?_⟩⟩
  · rw [h1,decide_eq_true (show 1≤j.ws.length by omega),decide_eq_true (show j.ws.length≤130 by omega)]
    simp only [Bool.true_and,Bool.and_self]
    congr 1
    rw [decide_eq_decide]; omega
  · rw [decide_eq_false (show ¬ j.ws.length≤130 by omega)]; simp
  · rw [decide_eq_false (show ¬ 1≤j.ws.length by omega)]; simp
  · rw [h1]; simp
abbrev liveT:Mm:=⟨[3,5,8,8,8,13,13,13,0,0,0,0,0,0,0,0,0,0],[],0,18⟩
theorem liveT_ok:wsOk liveT.W:=by
  intro x hx
  simp only [liveT,List.mem_cons,List.not_mem_nil,or_false] at hx
  rcases hx with rfl | rfl | rfl | rfl | rfl | rfl | rfl | rfl | rfl | rfl | rfl | rfl | rfl | rfl | rfl | rfl | rfl | rfl <;> exact ⟨by decide,by decide⟩
theorem liveT_sums:sumsV P1 [3,5]=(8,13):=by decide +kernel
theorem liveT_nV:nV [⟨2,false⟩]=((2:Nat):Int):=by decide +kernel
theorem liveT_do:doG P1 false false 2 (grpsV [⟨2,false⟩] ⟨0,false,⟨2,1,1⟩⟩) (tabV P1 [⟨2,false⟩] false ⟨0,false,⟨2,1,1⟩⟩) [3,5]=[8,998244351]:=by
  rw [live_tab,live_grp]
  unfold doG
  simp only [List.flatMap_cons,List.flatMap_nil,List.append_nil]
  unfold gpairs
  simp only [List.map_cons,List.map_nil,List.getD_cons_zero,List.getD_cons_succ]
  rw [live_fly]
  decide +kernel
theorem liveT_s2:sumsV P1 [8,998244351]=(6,4):=by decide +kernel
theorem liveT_turn:(turnV liveT P1 [⟨2,false⟩] false ⟨0,false,⟨2,1,1⟩⟩ 0 8 16).1=((true,[]),0)∧(turnV liveT P1 [⟨2,false⟩] false ⟨0,false,⟨2,1,1⟩⟩ 0 8 16).2.t=28∧(turnV liveT P1 [⟨2,false⟩] false ⟨0,false,⟨2,1,1⟩⟩ 0 8 16).2.W.length=18 ∧
    ((turnV liveT P1 [⟨2,false⟩] false ⟨0,false,⟨2,1,1⟩⟩ 0 8 16).2.W.drop 8).take 8=[8,998244351,6,6,6,4,4,4]:=by
  have hk:known P1=true:=rfl
  have hx:∀ y∈([3,5]:List Int),inP P1 y:=by
    intro y hy
    simp only [List.mem_cons,List.not_mem_nil,or_false] at hy
    rcases hy with rfl | rfl <;> exact ⟨by decide,by decide⟩
  have hf:fixV P1 ((liveT.W.drop 0).take (2+6))=(([3,5]++sx (sumsV P1 [3,5]),[]),0):=by
    have:=fix_ok hk hx (by decide)
    rw [← this,liveT_sums]; rfl
  have hq:=turn_quiet (m:=liveT) rfl (p:=P1) (l:=[⟨2,false⟩]) (inv:=false) (s:=⟨0,false,⟨2,1,1⟩⟩) (sr:=0) (d:=8) (tb:=16) (n:=2) (good:=[3,5]++sx (sumsV P1 [3,5])) (fx:=[]) (x:=[3,5]) live_step liveT_nV (fun y hy=>(liveT_ok y hy).1) (by decide) (by decide) (by rw [live_tab]; decide) (by decide) (by decide) (by decide) hf rfl hx rfl
  have ht:=turn_ticks (m:=liveT) (inv:=false) (src:=0) (dst:=8) (tab:=16) live_step (by rw [liveT_nV]; decide) (by rw [liveT_nV]; decide) (by rw [live_tab]; decide)
  rw [liveT_do,liveT_s2] at hq
  obtain ⟨q1,q2,q3,q4⟩:=hq
  have q1:(turnV liveT P1 [⟨2,false⟩] false ⟨0,false,⟨2,1,1⟩⟩ 0 8 16).1=((true,[]),0):=q1
  refine ⟨q1,?_,q3,q4⟩
  obtain ⟨t1,t2,t3,t4⟩:=ht
  rw [q1,liveT_nV,live_tab] at t4
  rcases t4 with t4 | t4
  · simp at t4
  · rw [t4]; rfl
set_option maxHeartbeats 1000000 in
theorem live19_w {S:St}:Sp (g_l19_live []) S fun v _=>v=vB true:=by
  unfold Sp
  rw [g_l19_live_eq]
  simp only [wps]
  have hp:=List.prefix_append S [AObj.cells [vU 3,vU 5,vU 8,vU 8,vU 8,vU 13,vU 13,vU 13,vU 0,vU 0,vU 0,vU 0,vU 0,vU 0,vU 0,vU 0,vU 0,vU 0] 24 none]
  have z:=get_new (S:=S) (o:=AObj.cells [vU 3,vU 5,vU 8,vU 8,vU 8,vU 13,vU 13,vU 13,vU 0,vU 0,vU 0,vU 0,vU 0,vU 0,vU 0,vU 0,vU 0,vU 0] 24 none)
  generalize hY:S++[AObj.cells [vU 3,vU 5,vU 8,vU 8,vU 8,vU 13,vU 13,vU 13,vU 0,vU 0,vU 0,vU 0,vU 0,vU 0,vU 0,vU 0,vU 0,vU 0] 24 none]=Y at hp z ⊢
  have har:Ar Y (some (ad S.length 0)) 18 1 eU liveT.W:=Ar.blk (l:=liveT.W) z (fun _ _=>rfl) rfl
  refine (laidT_w (cw:=18) (pe:=none) (ne:=0) (ce:=0) (l:=[]) har .nil (by omega) (by omega) liveT_ok (by simp) (by simp)).mono ?_
  rintro _ S1 ⟨b,T,rfl,k1,h1,hT⟩
  simp only [wps,Option.isNone_some]
  have hp2:=List.prefix_append S1 [AObj.cells [vI 2,vB false] 75 none]
  have z2:=get_new (S:=S1) (o:=AObj.cells [vI 2,vB false] 75 none)
  generalize hY2:S1++[AObj.cells [vI 2,vB false] 75 none]=Y2 at hp2 z2 ⊢
  have har2:Ar Y2 (some (ad S1.length 0)) 1 2 eAx [⟨2,false⟩]:=Ar.blk (l:=[(⟨2,false⟩:Ax)]) z2 (fun _ _=>rfl) rfl
  have hTl:=h1.lt
  have hr:=turn_w (p:=P1) (ac:=1) (inv:=false) (s:=⟨0,false,⟨2,1,1⟩⟩) (src:=0) (dst:=8) (tab:=16) (h1.pre hp2) har2 (by omega) (by intro y hy _;injection hy with hy;subst hy;intro hm;have:=hTl _ hm;simp at this) ⟨by decide,by decide⟩
  rw [show (⟨liveT.W,[],0,(liveT.W.length:Int)⟩:Mm)=liveT from rfl] at hr
  obtain ⟨q1,q2,q3,q4⟩:=liveT_turn
  generalize turnV liveT P1 [⟨2,false⟩] false ⟨0,false,⟨2,1,1⟩⟩ 0 8 16=V at hr q1 q2 q3 q4
  have v1:V.1.1.1=true:=by rw [q1]
  have v2:V.1.1.2=[]:=by rw [q1]
  have v3:V.1.2=0:=by rw [q1]
  rw [v1,v2,v3] at hr
  refine hr.mono ?_
  rintro _ S2 ⟨fa,rfl,k2,h2,_⟩
  simp only [wps]
  have hp3:=List.prefix_append S2 [AObj.cells [vB true,.slice fa 0 0] 69 none]
  have z3:=get_new (S:=S2) (o:=AObj.cells [vB true,.slice fa 0 0] 69 none)
  simp only [List.length_nil]
  generalize hY3:S2++[AObj.cells [vB true,.slice fa 0 0] 69 none]=Y3 at hp3 z3 ⊢
  have h3:=h2.pre hp3
  refine (words_w h3).mono ?_
  rintro _ S4 ⟨a,rfl,ho⟩
  have h4:=h3.pre ho.1
  have z4:=pre_get ho.1 z3
  have har4:=ho.ar
  have g8:V.2.W[8]? = some 8:=by
    have:=congrArg (fun l:List Int=>l[0]?) q4
    simpa [List.getElem?_take,List.getElem?_drop] using this
  have g10:V.2.W[10]? = some 6:=by
    have:=congrArg (fun l:List Int=>l[2]?) q4
    simpa [List.getElem?_take,List.getElem?_drop] using this
  obtain ⟨x,rfl,_⟩:=har4.getU (i:=8) (by omega)
  have c8:=cellU har4 8 g8
  have c10:=cellU har4 10 g10
  have hfin:S <+: S4:=hp.trans ((k2.low hT (k1.trans hp2) (Nat.le_refl _)).trans (hp3.trans ho.1))
  simp only [wps,cell_blk z4,List.getElem?_cons_zero,List.getElem?_cons_succ,(ticks_w h4).wp,c8,c10,q2,q3]
  exact ⟨fun _=>⟨fun _=>⟨⟨by decide,by decide⟩,⟨by decide,by decide⟩,hfin,rfl⟩,fun e=>absurd rfl e⟩,fun e=>absurd rfl e⟩
end Go.AM
set_option linter.unusedVariables false
set_option linter.unusedSimpArgs false
namespace Go.AM
open Go Go.Proofs.YtackinampfgklaaGreatDoor
theorem turn_cases {m:Mm} {p:Int} {l:List Ax} {inv:Bool} {s:Stp} {src dst tab:Int} :
    ((turnV m p l inv s src dst tab).1.2≠0∧turnV m p l inv s src dst tab=(((false,[]),(turnV m p l inv s src dst tab).1.2),m)) ∨
    ((turnV m p l inv s src dst tab).1.2=0∧stepV p l s=0∧m.hasN src (nV l+6)=true∧m.hasN dst (nV l+6)=true∧m.hasN tab (tabV p l inv s).length=true):=by
  by_cases hs:stepV p l s=0
  · by_cases hc:m.hasN src (nV l+6)=true∧m.hasN dst (nV l+6)=true∧m.hasN tab (tabV p l inv s).length=true
    · right;exact ⟨(turn_ticks hs hc.1 hc.2.1 hc.2.2).1,hs,hc⟩
    · left
      have : turnV m p l inv s src dst tab=(((false,[]),1),m):=by unfold turnV;rw [if_neg (fun e=>e hs),if_neg hc]
      rw [this]; exact ⟨show (1:Int)≠0 by decide,rfl⟩
  · left
    have : turnV m p l inv s src dst tab=(((false,[]),stepV p l s),m):=by unfold turnV;rw [if_pos hs]
    rw [this]; exact ⟨hs,rfl⟩
set_option maxHeartbeats 2000000 in
set_option maxRecDepth 20000 in
theorem ticks19_law {S:St} {j:Job} {a0 a1 a3:Option Addr} {c0 c1 c3:Nat} (h:JA S j a0 a1 a3):Sp (g_l19_TurnTicks [jV j a0 c0 a1 c1 a3 c3]) S fun v _=>v=vB true:=by
  unfold Sp
  rw [g_l19_TurnTicks_eq]
  have hp:=List.prefix_append S [AObj.cells (jC j a0 c0 a1 c1 a3 c3) 65 none]
  have z:=get_new (S:=S) (o:=AObj.cells (jC j a0 c0 a1 c1 a3 c3) 65 none)
  simp only [wps]
  generalize hY:S++[AObj.cells (jC j a0 c0 a1 c1 a3 c3) 65 none]=Y at hp z ⊢
  refine live19_w.use ?_
  rintro _ S1 k1 rfl
  have z1:=pre_get k1 z
  have p1:=hp.trans k1
  simp only [wps,cell_blk z1,List.getElem?_cons_zero,List.getElem?_cons_succ]
  refine (few19_w (c0:=c0) (c1:=c1) (c3:=c3) (h.mono p1)).use ?_
  rintro _ S2 k2 rfl
  have z2:=pre_get k2 z1
  have p2:=p1.trans k2
  simp only [wps]
  refine ⟨fun _=>p2,fun hf=>?_⟩
  obtain ⟨f1,f2,f3,f4⟩:=fewJ_facts hf
  have h2:=h.mono p2
  simp only [wps,cell_blk z2,List.getElem?_cons_zero,List.getElem?_cons_succ]
  refine (laidT_w (cw:=c0) (ce:=c1) h2.w h2.l (by omega) (by omega) h.wk h.lk h.lt).mono ?_
  rintro _ S3 ⟨b,T,rfl,k3,m3,hT⟩
  have z3:=pre_get k3 z2
  have p3:=p2.trans k3
  have hjT:=h2.low hT
  have hTS:S.length∉T:=fun hx=>by have:=hT _ hx;have:=pre_lt z2;omega
  simp only [wps,cell_blk z3,List.getElem?_cons_zero,List.getElem?_cons_succ,Option.isNone_some]
  have h3:=h2.mono k3
  refine (turn_w (p:=j.P) (ac:=c3) (inv:=j.inv) (s:=j.s) (src:=j.src) (dst:=j.dst) (tab:=j.tab) m3 h3.a h3.b hjT.2.2 ⟨by dsimp only;omega,by dsimp only;omega⟩).mono ?_
  rintro _ S4 ⟨fa,rfl,k4,m4,_⟩
  have z4:=k4.get z3 hTS
  have p4:S <+: S4:=k4.low (L:=S2.length) hT p3 p2.length_le
  have h4:JA S4 j a0 a1 a3:=(h2.mono k3).kp k4 hjT.1 hjT.2.1 hjT.2.2
  have hcs:=turn_cases (m:=⟨j.ws,j.L,0,j.ws.length⟩) (p:=j.P) (l:=j.axes) (inv:=j.inv) (s:=j.s) (src:=j.src) (dst:=j.dst) (tab:=j.tab)
  have htk:=fun a b c d=>turn_ticks (m:=⟨j.ws,j.L,0,j.ws.length⟩) (p:=j.P) (l:=j.axes) (inv:=j.inv) (s:=j.s) (src:=j.src) (dst:=j.dst) (tab:=j.tab) a b c d
  generalize turnV ⟨j.ws,j.L,0,j.ws.length⟩ j.P j.axes j.inv j.s j.src j.dst j.tab=V at m4 hcs htk ⊢
  have hp5:=List.prefix_append S4 [AObj.cells [vB V.1.1.1,.slice fa V.1.1.2.length V.1.1.2.length] 69 none]
  have z5:=get_new (S:=S4) (o:=AObj.cells [vB V.1.1.1,.slice fa V.1.1.2.length V.1.1.2.length] 69 none)
  simp only [wps]
  generalize hY5:S4++[AObj.cells [vB V.1.1.1,.slice fa V.1.1.2.length V.1.1.2.length] 69 none]=Y5 at hp5 z5 ⊢
  have m5:=m4.pre hp5
  have z45:=pre_get hp5 z4
  have p5:=p4.trans hp5
  have h5:=h4.mono hp5
  simp only [wps,(ticks_w m5).wp,cell_blk z45,cell_blk z5,List.getElem?_cons_zero,List.getElem?_cons_succ]
  rcases hcs with ⟨e1,e2⟩ | ⟨e1,hst,hc1,hc2,hc3⟩
  · refine ⟨fun _=>?_,fun e=>absurd e e1⟩
    have a1:V.1.1.1=false:=by rw [e2]
    have a2:V.1.1.2=[]:=by rw [e2]
    have a3:V.2.t=0:=by rw [e2]
    rw [a1,a2,a3]
    exact ⟨fun _=>⟨fun _=>⟨p5,rfl⟩,fun e=>absurd e (by decide)⟩,fun e=>absurd rfl e⟩
  · refine ⟨fun e=>absurd e1 e,fun _=>?_⟩
    obtain ⟨t1,t2,t3,t4⟩:=htk hst hc1 hc2 hc3
    refine (table_w (c:=c3) h5.a h5.b j.inv j.s).use ?_
    rintro _ S6 k6 ⟨tb,tk,rfl,_⟩
    have z6:=pre_get k6 z45
    have z65:=pre_get k6 z5
    have m6:=m5.pre k6
    have p6:=p5.trans k6
    have h6:=h5.mono k6
    rw [show tableV j.P j.axes j.inv j.s (tabV j.P j.axes j.inv j.s)=tabV j.P j.axes j.inv j.s by unfold tableV;rw [if_pos hst]]
    have hTs:=tab_small (inv:=j.inv) hst
    obtain ⟨kk,dd,inner,nn,mm,hS⟩:=step_shape hst
    have hnn:=hS.nn
    have hn1:=hS.n1
    have hnd1:∀ x∈ndOf j.axes,1≤x:=fun x hx=>(hS.all x hx).1
    have hpn:=hS.np
    have hab:=h.b
    simp only [wps,cell_blk z6,List.getElem?_cons_zero,List.getElem?_cons_succ]
    refine wp_loop (fun st S' t=>∃ i:Nat,st=[vN (prodN ((ndOf j.axes).take i)),vN i]∧t=j.axes.length-i∧i≤j.axes.length∧S6 <+: S') ?_ j.axes.length _ _ ⟨0,rfl,rfl,by omega,List.prefix_refl _⟩
    rintro st S7 _ ⟨i,rfl,rfl,hi,k7⟩
    simp only [wps]
    refine ⟨fun g5=>?_,fun g5=>?_⟩
    · have hi':i < j.axes.length:=by omega
      have hin:i < (ndOf j.axes).length:=by simp [ndOf]; exact hi'
      obtain ⟨x,rfl,c0,c1⟩:=(h6.a.mono k7).getAx hi'
      have pr1:=prod_take_le hnd1 (i+1)
      have pr2:=prod_take_succ hin
      have hN:=nd_get hS hi'
      rw [hpn] at pr1
      have hmul:((prodN ((ndOf j.axes).take i):Nat):Int)*j.axes[i].N=((prodN ((ndOf j.axes).take (i+1)):Nat):Int):=by rw [pr2,Int.natCast_mul,hN]
      have gw:(S7++[AObj.cells [vI 0,vB false] 75 none])[S7.length]? = some (AObj.cells [vI 0,vB false] 75 none):=get_new
      simp only [wps,c0,c1,Int.toNat_natCast,hmul]
      rw [wI_ (n:=((prodN ((ndOf j.axes).take (i+1)):Nat):Int)) (by omega) (by omega),wI_ (n:=(i:Int)+1) (by omega) (by omega)]
      exact ⟨by omega,j.axes.length-(i+1),by omega,i+1,rfl,rfl,by omega,k7.trans (List.prefix_append _ _)⟩
    have hin:i=j.axes.length:=by omega
    have hall:(ndOf j.axes).take i=ndOf j.axes:=List.take_of_length_le (by simp [ndOf]; omega)
    rw [hall,hpn]
    have z7:=pre_get k7 z6
    have z75:=pre_get k7 z65
    have m7:=m6.pre k7
    have p7:=p6.trans k7
    rw [hnn] at t4
    dsimp only at t4
    have x1:wI (wI (wI (wI (6*(nn:Int))+12)+wI (2*((tabV j.P j.axes j.inv j.s).length:Int)))+(V.1.1.2.length:Int))=6*(nn:Int)+12+2*((tabV j.P j.axes j.inv j.s).length:Int)+(V.1.1.2.length:Int):=by
      rw [wI_ (n:=6*(nn:Int)) (by omega) (by omega),wI_ (n:=6*(nn:Int)+12) (by omega) (by omega),wI_ (n:=2*((tabV j.P j.axes j.inv j.s).length:Int)) (by omega) (by omega),wI_ (n:=6*(nn:Int)+12+2*((tabV j.P j.axes j.inv j.s).length:Int)) (by omega) (by omega),wI_ (by omega) (by omega)]
    have x2:wI ((nn:Int)+6)=(nn:Int)+6:=wI_ (by omega) (by omega)
    simp only [wps,cell_blk z75,List.getElem?_cons_zero,List.getElem?_cons_succ,hst,(ticks_w m7).wp,x1,x2]
    refine ⟨fun _=>⟨fun _=>p7,fun e2=>?_⟩,fun e=>absurd (by omega) e⟩
    rcases t4 with ⟨u1,u2,u3⟩ | u
    · exact ⟨fun _=>⟨fun _=>⟨p7,by rw [u2]; rfl⟩,fun e=>absurd (u1.symm.trans e) (by decide)⟩,fun e=>absurd (by rw [u3]; omega) e⟩
    · exact absurd (by rw [u]; omega) e2
end Go.AM
