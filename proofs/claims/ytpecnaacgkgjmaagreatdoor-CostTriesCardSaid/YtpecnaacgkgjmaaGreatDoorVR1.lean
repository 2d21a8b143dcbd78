/-
  Part of the proof of a law: arguments of a law. Conditions: none.
-/
import Derived.Test.YtpecnaacgkgjmaaGreatDoorVA2
import Derived.Test.YtpecnaacgkgjmaaGreatDoorVP1
import Derived.OpenShut
import Derived.Deep.Slices
import Derived.Deep.Fields
import Derived.SizedLaws
import Derived.WideLaws
import Derived.WideShapes
import Derived.ChangeArms
import Derived.ChangeShapes
set_option linter.unusedVariables false
set_option linter.unusedSectionVars false
set_option linter.unusedSimpArgs false
set_option linter.deprecated false
namespace Go.AM
open Go Go.RowKit Go.ChangeShapes Go.WideShapes Go.Deep
abbrev Fl:=Option IntKind
inductive Lf where
 | fl (x : Fl)
 | sl (es : List Fl) (B : Nat)
def jcy:List Lf->Option (List Fl)
 | [] => some []
 | .fl x :: l => (jcy l).map (x :: ·)
 | _ :: _ => none
def jc0 (P:Program) (g:TypeId->Option (List Lf)):List Field->Nat->Option (List Lf)
 | [], _ => some []
 | f :: fs, off => if f.offset = off then
    match g f.type with
    | some ls=>if P.cellsOf f.type=ls.length then (jc0 P g fs (off+ls.length)).map (ls ++ ·) else none
    | none=>none
   else none
def zd3 {α:Type}:Nat->List α->List α
 | 0, _ => []
 | n + 1, l => l ++ zd3 n l
def juv (P:Program):Nat->TypeId->Option (List Lf)
 | 0, _ => none
 | n + 1, t => match P.underlying t with
   | some (.int k)=>some [.fl (some k)]
   | some .bool=>some [.fl none]
   | some (.slice e)=>match (juv P n e).bind jcy with
     | some es=>if P.cellsOf e=es.length/\0 < es.length/\(es.all λ x=>x != some .u8)=true then some [.sl es (P.bytesOf e)] else none
     | none=>none
   | some (.struct fs)=>jc0 P (juv P n) fs.toList 0
   | some (.array m e)=>match juv P n e with
     | some l=>if P.cellsOf e=l.length then some (zd3 m l) else none
     | none=>none
   | _=>none
def j0h:Fl->Value->Prop
 | some k, v => ∃ x, v = .int k x /\ (Lit.int k x).wf = true
 | none, v => ∃ b, v = .bool b
theorem j22 (b o j:Nat):(⟨b,o,none⟩:Addr).add j=⟨b,o+j,none⟩:=by unfold Addr.add;split <;> simp_all
section
variable {H:Type} {enc:TypeId×Value->H} {P:Program} {w:World} {base:Nat} {spare:Nat->Bool} {held:Bool}
def CAt (w:World):Lf->Value->Prop
 | .fl x, v => j0h x v
 | .sl es B, v => ∃ A n c, v = .slice A n c /\ n <= c /\ n * B <= reachBytes /\ (0 < n -> ∃ b o, A = some ⟨b, o, none⟩ /\ b < w.heap.size) /\
    ∀ i,i < n->∃ b o,A=some ⟨b,o,none⟩/\∀ (j:Nat) l,es[j]? = some l->∃ u,w.cell? ⟨b,o+(i*es.length+j),none⟩=some u/\j0h l u
theorem jcz:∀ {ls:List Lf} {es:List Fl},jcy ls=some es->es.length=ls.length/\∀ (j:Nat) l,es[j]? = some l->ls[j]? = some (.fl l)
 | [], es, h => by cases h; exact ⟨rfl, λ j l h => by simp at h⟩
 | .fl x :: ls, es, h => by
   obtain ⟨es',h1,rfl⟩:=Option.map_eq_some_iff.1 h
   obtain ⟨h2,h3⟩:=jcz h1
   refine ⟨by simp [h2],λ j l hj=>?_⟩
   cases j with
   | zero=>simp at hj;subst hj;rfl
   | succ j=>exact h3 j l (by simpa using hj)
 | .sl _ _ :: ls, es, h => by cases h
def j0f (P:Program) (t:TypeId) (d:DataW H):Prop:=∀ n∈d.weights P t,n<=reachBytes
theorem jc1 {g:TypeId->Option (List Lf)} {cs:List Value} {n:Nat} {Fit:TypeId->DataW H->Prop}
 (hg:∀ t ls cs' d p,g t=some ls->P.cellsOf t=ls.length->DataW.trod enc P w base spare held n t cs'=some (d,p)->Fit t d->cs'.length=ls.length/\∀ (j:Nat) l,ls[j]? = some l->∃ v,cs'[j]? = some v/\CAt w l v) :
 ∀ (fs:List Field) (off:Nat) (ls:List Lf),jc0 P g fs off=some ls ->
  (∀ (i:Nat) (f:Field),fs[i]? = some f->∃ d p,DataW.trod enc P w base spare held n f.type ((cs.drop f.offset).take (P.cellsOf f.type))=some (d,p)/\Fit f.type d) ->
  ∀ (j:Nat) l,ls[j]? = some l->∃ v,cs[off+j]? = some v/\CAt w l v
 | [], off, ls, h, _, j, l, hl => by
   simp only [jc0,Option.some.injEq] at h
   subst h
   simp at hl
 | f :: fs, off, ls, h, hf, j, l, hl => by
   unfold jc0 at h
   split at h
   ·rename_i ho
    split at h
    ·rename_i l0 hg0
     split at h
     ·rename_i hc
      obtain ⟨l1,h1,rfl⟩:=Option.map_eq_some_iff.1 h
      obtain ⟨d,p,hy,hfit⟩:=hf 0 f rfl
      obtain ⟨hlen,hat⟩:=hg _ _ _ _ _ hg0 hc hy hfit
      by_cases hj:j < l0.length
      ·rw [List.getElem?_append_left hj] at hl
       obtain ⟨v,hv,hva⟩:=hat j l hl
       refine ⟨v,?_,hva⟩
       rw [List.getElem?_take] at hv
       split at hv
       ·rw [List.getElem?_drop,ho] at hv;exact hv
       ·cases hv
      ·rw [List.getElem?_append_right (by omega)] at hl
       obtain ⟨v,hv,hva⟩:=jc1 hg fs (off+l0.length) l1 h1 (λ i f' hi=>hf (i+1) f' (by simpa using hi)) (j-l0.length) l hl
       refine ⟨v,?_,hva⟩
       rw [<- hv]; congr 1;omega
     ·cases h
    ·cases h
   ·cases h
theorem zd4 {α:Type} {l:List α}:∀ {m j:Nat} {x:α},(zd3 m l)[j]? = some x->j / l.length < m/\l[j % l.length]? = some x
 | 0, j, x, h => by simp [zd3] at h
 | m + 1, j, x, h => by
   have hl:0 < l.length:=by
    cases l with
    | nil=>
      have : ∀ m,zd3 m ([]:List α)=[]:=λ m=>by induction m with
       | zero=>rfl
       | succ m ih=>simp [zd3,ih]
      rw [this] at h;simp at h
    | cons a l=>simp
   rw [zd3] at h
   by_cases hj:j < l.length
   ·rw [List.getElem?_append_left hj] at h
    rw [Nat.div_eq_of_lt hj,Nat.mod_eq_of_lt hj]
    exact ⟨by omega,h⟩
   ·rw [List.getElem?_append_right (by omega)] at h
    obtain ⟨h1,h2⟩:=zd4 h
    have e:j=(j-l.length)+l.length:=by omega
    rw [e,Nat.add_div_right _ hl,Nat.add_mod_right]
    exact ⟨by omega,h2⟩
theorem zf3 {e:TypeId}:∀ {ds:List (DataW H)} {i:Nat} {d:DataW H},ds[i]? = some d->∀ n∈d.weights P e,n∈DataW.weightsAll P e ds
 | [], i, d, h, _, _ => by simp at h
 | a :: ds, 0, d, h, n, hn => by
   simp at h;subst h
   simp only [DataW.weightsAll,List.mem_append]; exact .inl hn
 | a :: ds, i + 1, d, h, n, hn => by
   simp only [DataW.weightsAll,List.mem_append]; exact .inr (zf3 (by simpa using h) n hn)
theorem jux:∀ (k:Nat) (t:TypeId) (ls:List Lf) (n:Nat) (cs:List Value) (d:DataW H) (p:List MemPlace),juv P k t=some ls->P.cellsOf t=ls.length->DataW.trod enc P w base spare held n t cs=some (d,p)->j0f P t d ->
 cs.length=ls.length/\∀ (j:Nat) l,ls[j]? = some l->∃ v,cs[j]? = some v/\CAt w l v:=by
 intro k
 induction k with
 | zero => intro t ls n cs d p h; simp [juv] at h
 | succ k ih =>
   intro t ls n cs d p h hc ht hfit
   unfold juv at h
   split at h
   ·rename_i kk hu
    simp only [Option.some.injEq] at h;subst h
    obtain ⟨x,rfl,_,hw⟩:=DataW.trod_int hu ht
    exact ⟨rfl,λ j l hl=>by
     match j with
     | 0=>simp at hl;subst hl;exact ⟨_,rfl,x,rfl,hw⟩
     | j+1=>simp at hl⟩
   ·rename_i hu
    simp only [Option.some.injEq] at h;subst h
    obtain ⟨x,rfl,_⟩:=DataW.trod_bool hu ht
    exact ⟨rfl,λ j l hl=>by
     match j with
     | 0=>simp at hl;subst hl;exact ⟨_,rfl,x,rfl⟩
     | j+1=>simp at hl⟩
   ·rename_i e hu
    split at h
    ·rename_i es hes
     split at h
     ·rename_i hce
      simp only [Option.some.injEq] at h;subst h
      obtain ⟨l0,hl0,hfl⟩:=Option.bind_eq_some_iff.1 hes
      obtain ⟨hle,hfg⟩:=jcz hfl
      rcases open_slice hu ht with ⟨rfl,_⟩ | ⟨a,len,cap,m,n',D,Pl,rfl,hb,hlc,hm,hmm,hx,hi⟩
      ·exact ⟨rfl,λ j l hl=>by
        match j with
        | 0=>simp at hl;subst hl;exact ⟨_,rfl,none,0,0,rfl,Nat.le_refl _,by simp,λ h=>absurd h (by omega),λ i h=>absurd h (by omega)⟩
        | j+1=>simp at hl⟩
      ·refine ⟨rfl,λ j l hl=>?_⟩
       match j with
       | j+1=>simp at hl
       | 0=>
         simp at hl;subst hl
         have hnm:len<=m:=by rw [hmm]; split <;> omega
         obtain ⟨hd,_⟩:=Prod.mk.inj hx
         subst hd
         have hel:∀ i,i < len->∃ cs',w.cells? base (a.add (i*P.cellsOf e)) (P.cellsOf e)=some cs'/\cs'.length=es.length/\∀ (j:Nat) l,es[j]? = some l->∃ v,cs'[j]? = some v/\j0h l v:=by
          intro i hin
          obtain ⟨cs',hcells,ht'⟩:=hi i (by omega)
          have hDi:j0f P e (D i):=λ x hx'=>by
           refine hfit x ?_
           simp only [DataW.weights,hu,List.mem_cons,List.mem_append]
           exact .inr (.inl (zf3 (ds:=(List.range len).map D) (i:=i) (by simp [hin]) x hx'))
          obtain ⟨hlen,hat⟩:=ih e l0 n' cs' _ _ hl0 (by rw [hce.1,hle]) ht' hDi
          refine ⟨cs',hcells,by rw [hlen,hle],λ j l hj=>?_⟩
          obtain ⟨v,hv,hca⟩:=hat j _ (hfg j l hj)
          exact ⟨v,hv,hca⟩
         have hsp:0 < len->a.spot=none/\a.block < w.heap.size:=by
          intro h0
          obtain ⟨cs',hcells,hlen,hat⟩:=hel 0 h0
          obtain ⟨_,hcl,hcat⟩:=World.cells?_some hcells
          rw [hce.1] at hcat
          obtain ⟨u,hu',_⟩:=hat 0 (es[0]'hce.2.1) (List.getElem?_eq_getElem hce.2.1)
          have h0:=(hcat 0 hce.2.1).trans hu'
          have ea:(a.add (0*es.length)).add 0=a:=by simp [Addr.add]
          rw [ea] at h0
          refine ⟨?_,World.block_lt_of_cell? w a h0⟩
          unfold World.cell? at h0
          split at h0
          ·split at h0
           ·cases h0
           ·rename_i hs;simpa using hs
          ·cases h0
         refine ⟨_,rfl,some a,len,cap,rfl,hlc,?_,λ h0=>?_,λ i hin=>?_⟩
         ·refine hfit _ ?_ |> Nat.le_trans (Nat.mul_le_mul_right _ (show len<=((List.range len).map D).length+((List.range (m-len)).map λ j=>D (len+j)).length by simp))
          simp only [DataW.weights,hu,List.mem_cons]; exact .inl trivial
         ·obtain ⟨hs,hb⟩:=hsp h0
          obtain ⟨b,o,s⟩:=a
          simp only at hs
          subst hs
          exact ⟨b,o,rfl,hb⟩
         ·obtain ⟨cs',hcells,hlen,hat⟩:=hel i hin
          obtain ⟨_,hcl,hcat⟩:=World.cells?_some hcells
          rw [hce.1] at hcat
          have hs:=(hsp (by omega)).1
          obtain ⟨b,o,s⟩:=a
          simp only at hs
          subst hs
          refine ⟨b,o,rfl,λ j l hj=>?_⟩
          obtain ⟨u,hu',hlf⟩:=hat j l hj
          have hjl:j < es.length:=(List.getElem?_eq_some_iff.1 hj).1
          refine ⟨u,?_,hlf⟩
          have h0:=(hcat j hjl).trans hu'
          rw [j22,j22] at h0
          rw [<- Nat.add_assoc]; exact h0
     ·cases h
    ·cases h
   ·rename_i fs hu
    obtain ⟨xs,n',rfl,hx,hlen,hxl,hf⟩:=DataW.trod_struct hu ht
    obtain ⟨hd,_⟩:=Prod.mk.inj hx
    refine ⟨hlen.trans hc,λ j l hl=>?_⟩
    have:=jc1 (enc:=enc) (P:=P) (w:=w) (base:=base) (spare:=spare) (held:=held) (g:=juv P k) (cs:=cs) (n:=n') (Fit:=j0f P) ?_ fs.toList 0 ls h (λ i f hi=>?_) j l hl
    ·simpa using this
    ·exact λ t' ls' cs' d' p' h1 hcc h2 hf'=>ih t' ls' n' cs' d' p' h1 hcc h2 hf'
    ·have hi':fs[i]? = some f:=by simpa using hi
     have hx':i < xs.length:=by rw [hxl]; exact (Array.getElem?_eq_some_iff.1 hi').1
     refine ⟨xs[i].1,xs[i].2,(hf i f hi').trans (List.getElem?_eq_getElem hx'),λ q hq=>hfit q ?_⟩
     rw [hd]
     simp only [DataW.weights,hu]
     exact DataW.weights_mem_each (j:=i) (t:=f.type) (d:=xs[i].1) (by simp [hi']) (by simp [hx']) q hq
   ·rename_i m e hu
    split at h
    ·rename_i l0 hl0
     split at h
     ·rename_i hce
      simp only [Option.some.injEq] at h;subst h
      obtain ⟨xs,n',rfl,hx,hlen,hxl,hf⟩:=DataW.trod_array hu ht
      obtain ⟨hd,_⟩:=Prod.mk.inj hx
      refine ⟨hlen.trans hc,λ j l hl=>?_⟩
      obtain ⟨hi,hm⟩:=zd4 hl
      have hx':j / l0.length < xs.length:=by omega
      have hfi:=(hf _ hi).trans (List.getElem?_eq_getElem hx')
      obtain ⟨h1,h2⟩:=ih e l0 n' _ xs[j / l0.length].1 xs[j / l0.length].2 hl0 hce hfi (λ q hq=>hfit q (by
       rw [hd]
       simp only [DataW.weights,hu]
       exact zf3 (i:=j / l0.length) (by simp [hx']) q hq))
      obtain ⟨v,hv,hva⟩:=h2 _ _ hm
      refine ⟨v,?_,hva⟩
      rw [List.getElem?_take] at hv
      split at hv
      ·rw [List.getElem?_drop,hce] at hv
       rw [<- hv]; congr 1
       rw [Nat.mul_comm]; exact (Nat.div_add_mod j l0.length).symm
      ·cases hv
     ·cases h
    ·cases h
   ·cases h
end
def U8 (G:List (Nat×Obj)):Prop:=∀ p∈G,∃ c e z,p.2 = .cells c e z/\∀ v∈c,∃ n,v=Value.int .u8 n
def j1n:Value->Value
 | .slice A n c => .slice (shA A n) n c
 | v => v
def LV (S:St):Lf->Value->Prop
 | .fl x, v => j0h x v
 | .sl es B, v => ∃ a n c, v = .slice a n c /\ n <= c /\ n * B <= reachBytes /\ ∀ i, i < n -> ∃ x, a = some x /\ ∀ (j : Nat) l, es[j]? = some l -> ∃ u, S.cell ((x.add (i * es.length)).add j) = some u /\ j0h l u
theorem jco {l:Fl} {v:Value} (h:j0h l v):jcs v=true:=by
 cases l with
 | none => obtain ⟨b, rfl⟩ := h; rfl
 | some k => obtain ⟨x, rfl, _⟩ := h; rfl
theorem j1o {G:List (Nat×Obj)} (hU:U8 G) {w:World} (hG:∀ p∈G,w.heap[p.1]? = some p.2) {l:Lf} {v:Value} (hok:∀ es B,l = .sl es B->0 < es.length/\(es.all λ x=>x != some .u8)=true) (h:CAt w l v) :
 VR (T0 G w) (j1n v) v/\LV (S0 G w) l (j1n v):=by
 cases l with
 | fl x =>
   have hf:=jco h
   have e:j1n v=v:=by
    cases x with
    | none=>obtain ⟨b,rfl⟩:=h;rfl
    | some k=>obtain ⟨x,rfl,_⟩:=h;rfl
   rw [e]; exact ⟨.flat hf,h⟩
 | sl es B =>
   obtain ⟨h0,h8⟩:=hok es B rfl
   obtain ⟨A,n,c,rfl,hnc,hB,hA,hi⟩:=h
   refine ⟨z99 hA,shA A n,n,c,rfl,hnc,hB,λ i hin=>?_⟩
   obtain ⟨b,o,rfl,hat⟩:=hi i hin
   obtain ⟨n',rfl⟩:∃ n',n=n'+1:=⟨n-1,by omega⟩
   refine ⟨⟨b+1,o,none⟩,rfl,λ j l hj=>?_⟩
   obtain ⟨u,hu,hfl⟩:=hat j l hj
   refine ⟨u,?_,hfl⟩
   rw [j22,j22,Nat.add_assoc]
   refine j6q hu (jco hfl) ?_
   rintro p hp rfl
   obtain ⟨cc,e,z,hp2,hall⟩:=hU p hp
   have hw:=hG p hp
   rw [hp2] at hw
   unfold World.cell? at hu
   rw [hw] at hu
   simp at hu
   obtain ⟨m,rfl⟩:=hall u (Array.mem_of_getElem? hu)
   have hl:l≠some .u8:=by
    have:=List.all_eq_true.1 h8 l (List.mem_of_getElem? hj)
    simpa using this
   cases l with
   | none=>obtain ⟨b,hb⟩:=hfl;cases hb
   | some k=>
     obtain ⟨x,hx,_⟩:=hfl
     cases hx;exact hl rfl
theorem juw {P:Program}:∀ (k:Nat) (t:TypeId) (ls:List Lf),juv P k t=some ls->∀ l∈ls,∀ es B,l = .sl es B->0 < es.length/\(es.all λ x=>x != some .u8)=true:=by
 intro k
 induction k with
 | zero => intro t ls h; simp [juv] at h
 | succ k ih =>
   intro t ls h
   unfold juv at h
   split at h
   ·cases h;intro l hl es B e;simp at hl;subst hl;cases e
   ·cases h;intro l hl es B e;simp at hl;subst hl;cases e
   ·split at h
    ·split at h
     ·rename_i hc
      cases h;intro l hl es B e;simp at hl;subst hl;cases e;exact hc.2
     ·cases h
    ·cases h
   ·rename_i fs _
    have key:∀ (fs:List Field) (off:Nat) (ls:List Lf),jc0 P (juv P k) fs off=some ls->∀ l∈ls,∀ es B,l = .sl es B->0 < es.length/\(es.all λ x=>x != some .u8)=true:=by
     intro fs
     induction fs with
     | nil=>intro off ls h;cases h;intro l hl;simp at hl
     | cons f fs ihf=>
       intro off ls h
       unfold jc0 at h
       split at h
       ·split at h
        ·rename_i l0 hg0
         split at h
         ·obtain ⟨l1,h1,rfl⟩:=Option.map_eq_some_iff.1 h
          intro l hl
          rcases List.mem_append.1 hl with hl | hl
          ·exact ih _ _ hg0 l hl
          ·exact ihf _ _ h1 l hl
         ·cases h
        ·cases h
       ·cases h
    exact key _ _ _ h
   ·split at h
    ·rename_i l0 hl0
     split at h
     ·cases h
      intro l hl
      obtain ⟨j,hj⟩:=List.getElem?_of_mem hl
      exact ih _ _ hl0 l (List.mem_of_getElem? (zd4 hj).2)
     ·cases h
    ·cases h
   ·cases h
theorem jzd {H:Type} {enc:TypeId×Value->H} {P:Program} {w:World} {base:Nat} {spare:Nat->Bool} {held:Bool} {G:List (Nat×Obj)} (hU:U8 G) (hG:∀ p∈G,w.heap[p.1]? = some p.2)
 {k:Nat} {t:TypeId} {ls:List Lf} {v:Value} {d:DataW H} {p:List MemPlace} (hl:juv P k t=some ls) (hc:P.cellsOf t=ls.length) (h:DataW.Trod enc P w base spare held t v d p) (hfit:j0f P t d) :
 ∃ us,VRs (T0 G w) us v.cells.toList/\us.length=ls.length/\∀ (j:Nat) l,ls[j]? = some l->∃ u,us[j]? = some u/\LV (S0 G w) l u:=by
 obtain ⟨fuel,hf⟩:=h
 obtain ⟨h1,h2⟩:=jux k t ls fuel v.cells.toList d p hl hc hf hfit
 have hok:=juw k t ls hl
 refine ⟨v.cells.toList.map j1n,?_,by rw [List.length_map,h1],λ j l hj=>?_⟩
 ·refine VRs.map_left λ u hu=>?_
  obtain ⟨j,hj⟩:=List.getElem?_of_mem hu
  have hjl:j < ls.length:=by rw [<- h1]; exact (List.getElem?_eq_some_iff.1 hj).1
  obtain ⟨v',hv',hca⟩:=h2 j ls[j] (List.getElem?_eq_getElem hjl)
  rw [hj] at hv'; cases hv'
  exact (j1o hU hG (hok _ (List.getElem_mem hjl)) hca).1
 ·obtain ⟨v',hv',hca⟩:=h2 j l hj
  exact ⟨j1n v',by rw [List.getElem?_map,hv']; rfl,(j1o hU hG (hok _ (List.mem_of_getElem? hj)) hca).2⟩
theorem LV.listC {α:Type} {S:St} {es:List Fl} {B:Nat} {u:Value} (h:LV S (.sl es B) u) (e:α->List Value) (Pα:α->Prop) (hw:∀ x,(e x).length=es.length)
 (dec:∀ c:List Value,c.length=es.length->(∀ (j:Nat) l v,es[j]? = some l->c[j]? = some v->j0h l v)->∃ x,Pα x/\e x=c) :
 ∃ a c l,u = .slice a l.length c/\l.length<=c/\l.length*B<=reachBytes/\Ar S a l.length es.length e l/\∀ x∈l,Pα x:=by
 obtain ⟨a,n,c,rfl,hnc,hB,hi⟩:=h
 have h':∀ i:Fin n,∃ x:α,Pα x/\∀ y,a=some y->∀ (j:Nat) v,(e x)[j]? = some v->S.cell ((y.add (i*es.length)).add j)=some v:=λ i=>by
  obtain ⟨y,hy,hat⟩:=hi i i.2
  have hc:∃ c:List Value,c.length=es.length/\∀ (j:Nat) l,es[j]? = some l->∃ v,c[j]? = some v/\S.cell ((y.add (i*es.length)).add j)=some v/\j0h l v:=by
   let f:Fin es.length->Value:=λ j=>Classical.choose (hat j (es[j]) (List.getElem?_eq_getElem j.2))
   have hf:=λ j:Fin es.length=>Classical.choose_spec (hat j (es[j]) (List.getElem?_eq_getElem j.2))
   refine ⟨List.ofFn f,by simp,λ j l hj=>?_⟩
   have hjl:j < es.length:=(List.getElem?_eq_some_iff.1 hj).1
   have hl:es[j]=l:=(List.getElem?_eq_some_iff.1 hj).2
   refine ⟨f ⟨j,hjl⟩,by simp [hjl],(hf ⟨j,hjl⟩).1,?_⟩
   have:=(hf ⟨j,hjl⟩).2
   rw [<- hl]; exact this
  obtain ⟨c,hcl,hcc⟩:=hc
  obtain ⟨x,hPx,hx⟩:=dec c hcl (λ j l v hj hv=>by
   obtain ⟨v',h1,_,h3⟩:=hcc j l hj
   rw [hv] at h1;cases h1;exact h3)
  refine ⟨x,hPx,λ y' hy' j v hv=>?_⟩
  rw [hy] at hy'; cases hy'
  rw [hx] at hv
  have hjl:j < es.length:=by rw [<- hcl]; exact (List.getElem?_eq_some_iff.1 hv).1
  obtain ⟨v',h1,h2,_⟩:=hcc j es[j] (List.getElem?_eq_getElem hjl)
  rw [hv] at h1;cases h1;exact h2
 let g:Fin n->α:=λ i=>Classical.choose (h' i)
 have hg:=λ i=>Classical.choose_spec (h' i)
 have hl:(List.ofFn g).length=n:=by simp
 refine ⟨a,c,List.ofFn g,by rw [hl],by rw [hl]; exact hnc,by rw [hl]; exact hB,⟨rfl,λ i hin=>?_⟩,λ x hx=>?_⟩
 ·rw [hl] at hin
  obtain ⟨y,hy,_⟩:=hi i hin
  refine ⟨y,hy,λ j v hv=>?_⟩
  have:=(hg ⟨i,hin⟩).2 y hy j v
  exact this (by simpa using hv)
 ·obtain ⟨i,rfl⟩:=List.mem_ofFn.1 hx
  exact (hg i).1
theorem LV.list {α:Type} {S:St} {es:List Fl} {B:Nat} {u:Value} (h:LV S (.sl es B) u) (e:α->List Value) (Pα:α->Prop) (hw:∀ x,(e x).length=es.length)
 (dec:∀ c:List Value,c.length=es.length->(∀ (j:Nat) l v,es[j]? = some l->c[j]? = some v->j0h l v)->∃ x,Pα x/\e x=c) :
 ∃ a c l,u = .slice a l.length c/\l.length*B<=reachBytes/\Ar S a l.length es.length e l/\∀ x∈l,Pα x:=by
 obtain ⟨a,c,l,h1,_,h2⟩:=h.listC e Pα hw dec
 exact ⟨a,c,l,h1,h2⟩
end Go.AM
namespace Go.AM
open Go
variable {S:St} {B:Nat} {u:Value}
theorem zfc {n:Int} (h:(Lit.int .u64 n).wf=true):0<=n/\n < 18446744073709551616:=by
 simp [Lit.wf,IntKind.min,IntKind.max,IntKind.signed,IntKind.bits] at h
 omega
theorem zfb {n:Int} (h:(Lit.int .i64 n).wf=true):-9223372036854775808<=n/\n < 9223372036854775808:=by
 simp [Lit.wf,IntKind.min,IntKind.max,IntKind.signed,IntKind.bits] at h
 omega
def zek (x:Int):Prop:=0<=x/\x < 18446744073709551616
def jrm (x:Int):Prop:=-9223372036854775808<=x/\x < 9223372036854775808
def axR (a:Ax):Prop:=jrm a.N
theorem LV.axes (h:LV S (.sl [some .i64,none] B) u):∃ a c l,u = .slice a l.length c/\l.length*B<=reachBytes/\Ar S a l.length 2 eAx l/\∀ x∈l,axR x:=
 h.list eAx axR (λ _=>rfl) λ c hc hat=>by
  match c,hc with
  | [v,v'],_=>
    obtain ⟨x,rfl,hw⟩:=hat 0 _ v rfl rfl
    obtain ⟨b,rfl⟩:=hat 1 _ v' rfl rfl
    exact ⟨⟨x,b⟩,zfb hw,rfl⟩
theorem LV.u64 (h:LV S (.fl (some .u64)) u):∃ x,u = .int .u64 x/\zek x:=by
 obtain ⟨x,rfl,hw⟩:=h;exact ⟨x,rfl,zfc hw⟩
theorem LV.i64 (h:LV S (.fl (some .i64)) u):∃ x,u = .int .i64 x/\jrm x:=by
 obtain ⟨x,rfl,hw⟩:=h;exact ⟨x,rfl,zfb hw⟩
theorem LV.bool (h:LV S (.fl none) u):∃ b,u = .bool b:=h
structure j14 (q:Req):Prop where
 P:zek q.P
 axes:∀ a∈q.axes,axR a
 batch:jrm q.batch
 X:∀ x∈q.X,zek x
 seeds:∀ x∈q.seeds,zek x
 retry:jrm q.retry
 again:jrm q.again
def z5o:List Lf:=[.fl (some .u64),.sl [some .i64,none] 16,.fl none,.fl (some .i64),.sl [some .u64] 8,.sl [some .u64] 8,.fl (some .i64),.fl (some .i64)]
end Go.AM
