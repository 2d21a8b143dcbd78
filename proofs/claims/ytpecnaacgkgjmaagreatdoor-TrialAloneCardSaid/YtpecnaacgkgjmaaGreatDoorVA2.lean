/-
  Part of the proof of a law: the translation of code into programs over an abstract store, and its soundness. Conditions: none.
-/
import Derived.Test.YtpecnaacgkgjmaaGreatDoorVA1
import Derived.LoopN
import Derived.Laws.Externs
import Derived.Shelf.Spec.BitsCarry
import Derived.Below
import Derived.Laws.AppendOwn
set_option linter.unusedVariables false
set_option linter.unusedSectionVars false
set_option linter.unusedSimpArgs false
set_option linter.deprecated false
namespace Go.AM
open Go
variable {P:Program} {G:List (Nat×Obj)} {ρ:Type}
structure Rl (G:List (Nat×Obj)) (N:Nat) (τ:Nat->Tag) (fr:List Value) (S:St) (a:Act) (w:World):Prop where
 fr:FR τ fr a
 defers:a.defers=[]
 hr:HR G τ S w
 no:∀ i,S.length<=i->i < N->τ i = .no
structure Ag (W:List Nat) (fr fr':List Value):Prop where
 len:fr'.length=fr.length
 get:∀ t,t∉W->fr'[t]? = fr[t]?
theorem Ag.refl (W:List Nat) (fr:List Value):Ag W fr fr:=⟨rfl,λ _ _=>rfl⟩
theorem Ag.trans {W:List Nat} {a b c:List Value} (h:Ag W a b) (k:Ag W b c):Ag W a c:=⟨k.len.trans h.len,λ t ht=>(k.get t ht).trans (h.get t ht)⟩
theorem Ag.mono {W W':List Nat} {a b:List Value} (h:Ag W a b) (hs:∀ t,t∈W->t∈W'):Ag W' a b:=⟨h.len,λ t ht=>h.get t λ e=>ht (hs t e)⟩
theorem Ag.put {W:List Nat} {fr:List Value} {d:Option Tmp} {v:Value} (h:∀ t,d=some t->t∈W):Ag W fr (putA fr d v):=by
 cases d with
 | none => exact .refl _ _
 | some d => exact ⟨by simp [putA], λ t ht => by simp only [putA]; exact List.getElem?_set_ne (λ e : d = t => ht (e ▸ h d rfl))⟩
def wrOps (ops:Array Oper):List Nat:=ops.toList.filterMap (·.dst)
theorem wrOps_mem {ops:Array Oper} {i:Nat} {o:Oper} (h:ops[i]? = some o):∀ t,o.dst=some t->t∈wrOps ops:=λ t ht=>
 List.mem_filterMap.2 ⟨o,List.mem_of_getElem? (i:=i) (by simpa using h),ht⟩
def dSeq (tb:Tb) (ops:Array Oper):List Nat->List Value->(List Value->M ρ)->M ρ
 | [], fr, K => K fr
 | i :: l, fr, K => onOpt ops[i]? λ o => onIf (o.op.operands.toList.all constB = true)
   (dGuard ops o fr (λ fr=>evs fr o.op.operands.toList [] λ ps=>dOper tb o (aevP ps) λ v=>putK fr o.dst v λ fr=>dSeq tb ops l fr K) (λ fr=>putK fr o.dst undef λ fr=>dSeq tb ops l fr K))
theorem seq_some {tb:Tb} (hT:TbOK P G tb) {ops:Array Oper}:∀ {l:List Nat} {fr:List Value} {K:List Value->M ρ} {S:St} {r:ρ×St},dSeq tb ops l fr K S=some r ->
 ∃ fr' S',K fr' S'=some r/\Ag (wrOps ops) fr fr'/\S.length<=S'.length /\
  ∀ N τ a w (Q:Exit->Act->World->Prop),S'.length<=N->Rl G N τ fr S a w->(∀ τ' a' w',Rl G N τ' fr' S' a' w'->Ext τ S w τ' S' w'->Q .normal a' w')->wpOps P ops Q l a w
 | [], fr, K, S, r, h => ⟨fr, S, h, .refl _ _, Nat.le_refl _, λ N τ a w Q _ hr hq => hq τ a w hr (.refl _ _ _)⟩
 | i :: l, fr, K, S, r, h => by
   obtain ⟨o,ho,h⟩:=onOpt_some h
   obtain ⟨hc,h⟩:=onIf_some h
   have hc':∀ x∈o.op.operands,constB x=true:=λ x hx=>List.all_eq_true.1 hc x (by simpa using hx)
   rcases guard_some h with ⟨h,hw⟩ | ⟨h,hw⟩
   ·obtain ⟨ps,h,hps⟩:=evs_some h
    obtain ⟨v,S1,hk,hsim⟩:=oper_some hT h
    replace hsim:=hsim.congr (f':=aev fr) λ x hx=>hps x (by simpa using hx)
    rw [putK_eq] at hk
    obtain ⟨fr',S',hk',hag,hlen,hall⟩:=seq_some hT hk
    refine ⟨fr',S',hk',(Ag.put (wrOps_mem ho)).trans hag,Nat.le_trans hsim.len hlen,λ N τ a w Q hN hr hq=>?_⟩
    have hw':=hw τ a hr.fr.guard
    simp only [wpOps,ho,hw',if_true]
    refine .inl (hsim.sim N τ a w (by omega) hr.no (λ x hx=>hr.fr.eval (hc' x hx)) hr.hr _ _ ?_)
    rintro v' w' ⟨τ',h1,h2,h3⟩
    have hr':Rl G N τ' (putA fr o.dst v) S1 (a.put o.dst v') w':=by
     refine ⟨(hr.fr.mono h3.le).put h1,?_,h2,λ j hj hj'=>?_⟩
     ·cases hd:o.dst <;> simp [Act.put,hr.defers]
     ·have:=hsim.len
      exact h3.keep j (.inr hj) (hr.no j (by omega) hj')
    refine hall N τ' _ w' Q hN hr' λ τ2 a2 w2 h4 h5=>hq τ2 a2 w2 h4 (h3.trans h5 λ j hj hj'=>hr.no j (by have:=hsim.len;omega) (by omega))
   ·rw [putK_eq] at h
    obtain ⟨fr',S',hk',hag,hlen,hall⟩:=seq_some hT h
    refine ⟨fr',S',hk',(Ag.put (wrOps_mem ho)).trans hag,hlen,λ N τ a w Q hN hr hq=>?_⟩
    have hw':=hw τ a hr.fr.guard
    simp only [wpOps,ho,hw',Bool.false_eq_true,if_false]
    have hr':Rl G N τ (putA fr o.dst undef) S (a.put o.dst undef) w:=by
     refine ⟨hr.fr.put (.tuple .nil),?_,hr.hr,hr.no⟩
     cases hd:o.dst <;> simp [Act.put,hr.defers]
    exact hall N τ _ w Q hN hr' hq
inductive X where
 | norm
 | ex (id : Nat)
 | ret
 deriving DecidableEq
def X.out:X->Exit
 | .norm => .normal
 | .ex id => .exit id
 | .ret => .ret
structure Sim (P:Program) (G:List (Nat×Obj)) (W:List Nat) (c:Code) (fr:List Value) (S:St) (e:X) (fr':List Value) (S':St):Prop where
 ag:Ag W fr fr'
 len:S.length<=S'.length
 sim:∀ N τ a w,S'.length<=N->Rl G N τ fr S a w->c.wp P (λ e' a' w'=>e'=e.out/\∃ τ',Rl G N τ' fr' S' a' w'/\Ext τ S w τ' S' w') a w
theorem Sim.skip {W:List Nat} {fr:List Value} {S:St}:Sim P G W .skip fr S .norm fr S:=
 ⟨.refl _ _,Nat.le_refl _,λ _ τ _ _ _ hr=>wp_skip ⟨rfl,τ,hr,.refl _ _ _⟩⟩
theorem Sim.label {W:List Nat} {l:Nat} {fr:List Value} {S:St}:Sim P G W (.label l) fr S .norm fr S:=
 ⟨.refl _ _,Nat.le_refl _,λ _ τ _ _ _ hr=>wp_label ⟨rfl,τ,hr,.refl _ _ _⟩⟩
theorem Sim.exit {W:List Nat} {id:Nat} {fr:List Value} {S:St}:Sim P G W (.exit id) fr S (.ex id) fr S:=
 ⟨.refl _ _,Nat.le_refl _,λ _ τ _ _ _ hr=>wp_exit ⟨rfl,τ,hr,.refl _ _ _⟩⟩
theorem Sim.ret {W:List Nat} {fr:List Value} {S:St}:Sim P G W .ret fr S .ret fr S:=
 ⟨.refl _ _,Nat.le_refl _,λ _ τ _ _ _ hr=>wp_ret ⟨rfl,τ,hr,.refl _ _ _⟩⟩
theorem Sim.mono {W W':List Nat} {c:Code} {fr fr':List Value} {S S':St} {e:X} (h:Sim P G W c fr S e fr' S') (hs:∀ t,t∈W->t∈W'):Sim P G W' c fr S e fr' S':=
 ⟨h.ag.mono hs,h.len,h.sim⟩
theorem Sim.seq {W:List Nat} {x y:Code} {fr fr1 fr2:List Value} {S S1 S2:St} {e:X} (h:Sim P G W x fr S .norm fr1 S1) (k:Sim P G W y fr1 S1 e fr2 S2) :
 Sim P G W (.seq x y) fr S e fr2 S2 where
 ag:=h.ag.trans k.ag
 len:=Nat.le_trans h.len k.len
 sim:=λ N τ a w hN hr=>by
  refine wp_seq (wp_mono (h.sim N τ a w (Nat.le_trans k.len hN) hr) ?_)
  rintro e' a' w' ⟨rfl,τ',h1,h2⟩
  refine wp_mono (k.sim N τ' a' w' hN h1) ?_
  rintro e2 a2 w2 ⟨h3,τ2,h4,h5⟩
  exact ⟨h3,τ2,h4,h2.trans h5 λ j hj hj'=>hr.no j (by have:=h.len;omega) (by omega)⟩
theorem Sim.seq_out {W:List Nat} {x y:Code} {fr fr1:List Value} {S S1:St} {e:X} (h:Sim P G W x fr S e fr1 S1) (he:e≠.norm):Sim P G W (.seq x y) fr S e fr1 S1 where
 ag:=h.ag
 len:=h.len
 sim:=λ N τ a w hN hr=>by
  refine wp_seq (wp_mono (h.sim N τ a w hN hr) ?_)
  rintro e' a' w' ⟨rfl,h1⟩
  cases e with
  | norm=>exact absurd rfl he
  | ex id=>exact ⟨rfl,h1⟩
  | ret=>exact ⟨rfl,h1⟩
theorem Sim.cond {W:List Nat} {c:Operand} {x y:Code} {fr fr1:List Value} {S S1:St} {e:X} {b:Bool} (hc:aev fr c = .bool b) (hcb:constB c=true)
 (h:Sim P G W (if b then x else y) fr S e fr1 S1):Sim P G W (.cond c x y) fr S e fr1 S1 where
 ag:=h.ag
 len:=h.len
 sim:=λ N τ a w hN hr=>by
  have:=hr.fr.eval hcb
  rw [hc] at this
  exact wp_cond this.bool (h.sim N τ a w hN hr)
theorem Sim.block {W:List Nat} {id:Nat} {c:Code} {fr fr1:List Value} {S S1:St} {e:X} (h:Sim P G W c fr S e fr1 S1) :
 Sim P G W (.block id c) fr S (if e = .ex id then .norm else e) fr1 S1 where
 ag:=h.ag
 len:=h.len
 sim:=λ N τ a w hN hr=>by
  refine wp_block (wp_mono (h.sim N τ a w hN hr) ?_)
  rintro e' a' w' ⟨rfl,h1⟩
  cases e with
  | norm=>exact ⟨rfl,h1⟩
  | ret=>exact ⟨rfl,h1⟩
  | ex id'=>
    by_cases hid:id'=id
    ·subst hid
     simp only [Exit.inBlock,X.out,if_true]
     exact ⟨trivial,h1⟩
    ·have : X.ex id'≠X.ex id:=λ q=>hid (by injection q)
     simp only [Exit.inBlock,X.out,if_neg hid,if_neg this]
     exact ⟨trivial,h1⟩
theorem Sim.region {tb:Tb} (hT:TbOK P G tb) {ops:Array Oper} {id:Nat} {fr:List Value} {K:List Value->M ρ} {S:St} {r:ρ×St} (h:dSeq tb ops (List.range ops.size) fr K S=some r) :
 ∃ fr' S',K fr' S'=some r/\Sim P G (wrOps ops) (.region id ops false) fr S .norm fr' S':=by
 obtain ⟨fr',S',hk,hag,hlen,hall⟩:=seq_some hT h
 refine ⟨fr',S',hk,hag,hlen,λ N τ a w hN hr=>wp_region (hall N τ a w _ hN hr ?_)⟩
 intro τ' a' w' h1 h2
 exact ⟨rfl,τ',h1,h2⟩
end Go.AM
namespace Go.AM
open Go
variable {P:Program} {G:List (Nat×Obj)} {ρ:Type}
section
variable {σ ρ:Type}
def iter (b:σ->M (Nat×σ)):Nat->σ->M (Nat×σ)
 | 0, _ => M.fail
 | n + 1, st => M.bind (b st) λ q => if q.1 = 0 then iter b n q.2 else M.ret q
theorem iter_mono {b:σ->M (Nat×σ)}:∀ {n m:Nat} {st:σ} {S:St} {r:(Nat×σ)×St},n<=m->iter b n st S=some r->iter b m st S=some r
 | 0, _, _, _, _, _, h => by cases h
 | n + 1, 0, _, _, _, hl, _ => by omega
 | n + 1, m + 1, st, S, r, hl, h => by
   obtain ⟨q,S',h1,h2⟩:=M.bind_some h
   show M.bind (b st) _ S=_
   simp only [M.bind,h1]
   split at h2
   ·rename_i h0
    rw [if_pos h0]
    exact iter_mono (by omega) h2
   ·rename_i h0
    rw [if_neg h0]
    exact h2
open Classical in
/-- A loop: its rounds, as many as there are. -/
noncomputable def loopM (b:σ->M (Nat×σ)) (st:σ):M (Nat×σ):=λ S=>
 if h:∃ n r,iter b n st S=some r then some h.choose_spec.choose else none
theorem loopM_iter {b:σ->M (Nat×σ)} {st:σ} {S:St} {r:(Nat×σ)×St} (n:Nat) (h:iter b n st S=some r):loopM b st S=some r:=by
 have hex:∃ n r,iter b n st S=some r:=⟨n,r,h⟩
 unfold loopM
 rw [dif_pos hex]
 have h1:=hex.choose_spec.choose_spec
 have h2:=iter_mono (Nat.le_max_left n hex.choose) h
 have h3:=iter_mono (Nat.le_max_right n hex.choose) h1
 rw [h2] at h3
 cases h3
 rfl
theorem loopM_some {b:σ->M (Nat×σ)} {st:σ} {S:St} {r:(Nat×σ)×St} (h:loopM b st S=some r):∃ n,iter b n st S=some r:=by
 unfold loopM at h
 split at h
 ·rename_i hex
  injection h with h
  exact ⟨hex.choose,by rw [<- h]; exact hex.choose_spec.choose_spec⟩
 ·cases h
theorem loopM_eq (b:σ->M (Nat×σ)) (st:σ):loopM b st=M.bind (b st) λ q=>if q.1=0 then loopM b q.2 else M.ret q:=by
 funext S
 cases hb:b st S with
 | none =>
   have : M.bind (b st) (λ q=>if q.1=0 then loopM b q.2 else M.ret q) S=none:=by simp [M.bind,hb]
   rw [this]
   cases hl:loopM b st S with
   | none=>rfl
   | some r=>
     obtain ⟨n,hn⟩:=loopM_some hl
     cases n with
     | zero=>cases hn
     | succ n=>obtain ⟨q,S',h1,_⟩:=M.bind_some hn;rw [hb] at h1;cases h1
 | some q =>
   obtain ⟨⟨ix,st'⟩,S'⟩:=q
   simp only [M.bind,hb]
   by_cases h0:ix=0
   ·subst h0
    simp only [if_true]
    cases hl:loopM b st' S' with
    | some r=>
      obtain ⟨n,hn⟩:=loopM_some hl
      exact loopM_iter (n+1) (by show M.bind (b st) _ S=_;simp [M.bind,hb,hn])
    | none=>
      cases hl2:loopM b st S with
      | none=>rfl
      | some r=>
        obtain ⟨n,hn⟩:=loopM_some hl2
        cases n with
        | zero=>cases hn
        | succ n=>
          obtain ⟨q,S2,h1,h2⟩:=M.bind_some hn
          rw [hb] at h1
          cases h1
          simp at h2
          rw [loopM_iter n h2] at hl
          cases hl
   ·simp only [if_neg h0]
    exact loopM_iter 1 (by show M.bind (b st) _ S=_;simp [M.bind,hb,h0,M.ret])
end
structure Way where
 e:X
 cs:List Nat
 zs:List Value
structure Ann where
 cs:List Nat
 zs:List Value
 xs:List Way
def memN (t:Nat):List Nat->Bool
 | [] => false
 | x :: l => match Nat.beq x t with
   | true=>true
   | false=>memN t l
theorem memN_iff {t:Nat} {l:List Nat}:memN t l=true↔t∈l:=by
 induction l with
 | nil => simp [memN]
 | cons x l ih =>
   simp only [memN]
   cases h:Nat.beq x t with
   | true=>have:=Nat.eq_of_beq_eq_true h;simp [this]
   | false=>
     have h1:t≠x:=λ e=>by subst e;rw [Nat.beq_refl] at h;cases h
     simp [ih,h1]
theorem memN_eq (t:Nat) (l:List Nat):memN t l=l.contains t:=by
 rw [Bool.eq_iff_iff,memN_iff]; simp
def blank (W:List Nat):Nat->List Value->List Value
 | _, [] => []
 | i, v :: l => (match memN i W with | true => topV | false => v) :: blank W (i + 1) l
def lay:List Value->List Nat->List Value->List Value
 | fr, c :: cs, v :: vs => lay (fr.set c v) cs vs
 | fr, _, _ => fr
def slots (fr:List Value) (cs:List Nat):List Value:=cs.map λ c=>fr.getD c topV
def X.eqb:X->X->Bool
 | .norm, .norm => true
 | .ret, .ret => true
 | .ex i, .ex j => Nat.beq i j
 | _, _ => false
theorem X.eqb_iff {a b:X}:a.eqb b=true↔a=b:=by
 cases a <;> cases b <;> simp [X.eqb]
def ixOf:List Way->X->Nat
 | [], _ => 0
 | x :: l, e => match x.e.eqb e with
   | true=>0
   | false=>ixOf l e+1
def wayOf:List Way->X->Option Way
 | [], _ => none
 | x :: l, e => match x.e.eqb e with
   | true=>some x
   | false=>wayOf l e
def pickM:List (M ρ)->Nat->M ρ
 | [], _ => M.fail
 | m :: l, ix => match l with
   | []=>m
   | _ :: _=>match ix with
     | 0=>m
     | ix+1=>pickM l ix
theorem wayOf_e:∀ {xs:List Way} {e:X} {x:Way},wayOf xs e=some x->x.e=e
 | [], _, _, h => by cases h
 | y :: l, e, x, h => by
   unfold wayOf at h
   cases hb:y.e.eqb e with
   | true=>rw [hb] at h;cases h;exact X.eqb_iff.1 hb
   | false=>rw [hb] at h;exact wayOf_e h
theorem pick_some:∀ {xs:List Way} {e:X} {x:Way} {K:Way->M ρ} {S:St} {r:ρ×St},wayOf xs e=some x->pickM (xs.map K) (ixOf xs e) S=some r->K x S=some r
 | [], _, _, _, _, _, h, _ => by cases h
 | [y], e, x, K, S, r, h, hp => by
   unfold wayOf at h
   cases hb:y.e.eqb e with
   | true=>rw [hb] at h;cases h;exact hp
   | false=>rw [hb] at h;cases h
 | y :: z :: l, e, x, K, S, r, h, hp => by
   unfold wayOf at h
   unfold ixOf at hp
   cases hb:y.e.eqb e with
   | true=>
     rw [hb] at h hp
     cases h
     exact hp
   | false=>
     rw [hb] at h hp
     exact pick_some h hp
theorem blank_length (W:List Nat):∀ (i:Nat) (l:List Value),(blank W i l).length=l.length
 | _, [] => rfl
 | i, v :: l => by simp [blank, blank_length W (i + 1) l]
theorem blank_get (W:List Nat):∀ (i:Nat) (l:List Value) (t:Nat),(blank W i l)[t]? = (l[t]?).map λ v=>bif W.contains (i+t) then topV else v
 | _, [], t => by simp [blank]
 | i, v :: l, 0 => by
   simp only [blank,List.getElem?_cons_zero,Option.map_some,memN_eq,Nat.add_zero]
   cases W.contains i <;> rfl
 | i, v :: l, t + 1 => by
   simp only [blank,List.getElem?_cons_succ]
   rw [blank_get W (i+1) l t]
   congr 2
   have : i+1+t=i+(t+1):=by omega
   rw [this]
theorem lay_length:∀ (fr:List Value) (cs:List Nat) (vs:List Value),(lay fr cs vs).length=fr.length
 | _, [], _ => by simp [lay]
 | _, _ :: _, [] => by simp [lay]
 | fr, c :: cs, v :: vs => by simp [lay, lay_length]
theorem lay_get {fr fr':List Value} (hl:fr'.length=fr.length) {t:Nat} {u:Value}:∀ {cs:List Nat} {g:List Value},g.length=fr.length ->
 (∀ u,g[t]? = some u->u=topV\/fr'[t]? = some u)->(lay g cs (slots fr' cs))[t]? = some u->u=topV\/fr'[t]? = some u
 | [], g, _, hg, h => by simp only [slots, List.map_nil, lay] at h; exact hg u h
 | c :: cs, g, hgl, hg, h => by
   simp only [slots,List.map_cons,lay] at h
   refine lay_get hl (cs:=cs) (g:=g.set c (fr'.getD c topV)) (by simpa using hgl) (λ u hu=>?_) h
   by_cases e:c=t
   ·subst e
    rw [List.getElem?_set] at hu
    simp at hu
    obtain ⟨hlt,rfl⟩:=hu
    have : c < fr'.length:=by omega
    simp [List.getElem?_eq_getElem this]
   ·rw [List.getElem?_set_ne e] at hu
    exact hg u hu
def joinF (W:List Nat) (fr:List Value) (cs:List Nat) (st:List Value):List Value:=lay (blank W 0 fr) cs st
theorem joinF_sub {W:List Nat} {fr fr':List Value} (h:Ag W fr fr') (cs:List Nat) {t:Nat} {u:Value} (hu:(joinF W fr cs (slots fr' cs))[t]? = some u):u=topV\/fr'[t]? = some u:=by
 refine lay_get h.len (by rw [blank_length]) (λ u hu=>?_) hu
 rw [blank_get] at hu
 simp at hu
 obtain ⟨v,hv,he⟩:=hu
 by_cases hW:t∈W
 ·simp [hW] at he;exact .inl he.symm
 ·simp [hW] at he
  subst he
  exact .inr (by rw [h.get t hW,hv])
theorem joinF_len {W:List Nat} {fr:List Value} {cs:List Nat} {st:List Value}:(joinF W fr cs st).length=fr.length:=by
 simp [joinF,lay_length,blank_length]
theorem joinF_ag {W:List Nat} {fr fr':List Value} (h:Ag W fr fr') (cs:List Nat):Ag W fr (joinF W fr cs (slots fr' cs)) where
 len:=joinF_len
 get:=λ t ht=>by
  have : ∀ (cs:List Nat) (g:List Value),g.length=fr.length->g[t]? = fr[t]?->(lay g cs (slots fr' cs))[t]? = fr[t]?:=by
   intro cs
   induction cs with
   | nil=>intro g _ hg;simpa [lay,slots] using hg
   | cons c cs ih=>
     intro g hgl hg
     simp only [slots,List.map_cons,lay]
     refine ih _ (by simpa using hgl) ?_
     by_cases e:c=t
     ·subst e
      have hgt:=h.get c ht
      rw [List.getElem?_set]
      simp
      cases hf:fr[c]? with
      | none=>
        have hge:=List.getElem?_eq_none_iff.1 hf
        have : ¬ c < g.length:=by omega
        simp [this]
      | some v=>
        have hlt:c < fr.length:=by
         rcases Nat.lt_or_ge c fr.length with q | q
         ·exact q
         ·rw [List.getElem?_eq_none q] at hf;cases hf
        rw [hf] at hgt
        simp [hgl,hlt,hgt]
     ·rw [List.getElem?_set_ne e]; exact hg
  exact this cs _ (by rw [blank_length]) (by rw [blank_get]; simp [ht])
theorem FR.sub {τ:Nat->Tag} {fr fr':List Value} {a:Act} (h:FR τ fr a) (hl:fr'.length=fr.length) (hs:∀ (t:Nat) (u:Value),fr'[t]? = some u->u=topV\/fr[t]? = some u):FR τ fr' a where
 size:=by rw [hl]; exact h.size
 val:=λ t u hu=>by
  rcases hs t u hu with rfl | e
  ·exact .top _
  ·exact h.val t u e
theorem Rl.sub {N:Nat} {τ:Nat->Tag} {fr fr':List Value} {S:St} {a:Act} {w:World} (h:Rl G N τ fr S a w) (hl:fr'.length=fr.length)
 (hs:∀ (t:Nat) (u:Value),fr'[t]? = some u->u=topV\/fr[t]? = some u):Rl G N τ fr' S a w:=⟨h.fr.sub hl hs,h.defers,h.hr,h.no⟩
theorem Sim.join {W:List Nat} {c:Code} {fr fr':List Value} {S S':St} {e:X} (h:Sim P G W c fr S e fr' S') (cs:List Nat) :
 Sim P G W c fr S e (joinF W fr cs (slots fr' cs)) S' where
 ag:=joinF_ag h.ag cs
 len:=h.len
 sim:=λ N τ a w hN hr=>wp_mono (h.sim N τ a w hN hr) λ e' a' w' ⟨he,τ',h1,h2⟩=>
  ⟨he,τ',h1.sub (by rw [joinF_len,h.ag.len]) λ t u hu=>joinF_sub h.ag cs hu,h2⟩
def blankK (W:List Nat):Nat->List Value->(List Value->M ρ)->M ρ
 | _, [], K => K []
 | i, v :: l, K => match memN i W with
   | true=>blankK W (i+1) l λ l'=>K (topV :: l')
   | false=>blankK W (i+1) l λ l'=>K (v :: l')
theorem blankK_eq (W:List Nat):∀ (i:Nat) (l:List Value) (K:List Value->M ρ),blankK W i l K=K (blank W i l)
 | i, [], K => rfl
 | i, v :: l, K => by
   simp only [blankK,blank,blankK_eq W (i+1) l]
   cases memN i W <;> rfl
def layK:List Value->List Nat->List Value->(List Value->M ρ)->M ρ
 | fr, c :: cs, v :: vs, K => setK fr c v λ fr => layK fr cs vs K
 | fr, [], _, K => K fr
 | fr, _ :: _, [], K => K fr
theorem layK_eq:∀ (cs:List Nat) (fr vs:List Value) (K:List Value->M ρ),layK fr cs vs K=K (lay fr cs vs)
 | [], fr, vs, K => by cases vs <;> rfl
 | c :: cs, fr, [], K => rfl
 | c :: cs, fr, v :: vs, K => by simp only [layK, lay, setK_eq, layK_eq cs]
def joinK (W:List Nat) (fr:List Value) (cs:List Nat) (st:List Value) (K:List Value->M ρ):M ρ:=blankK W 0 fr λ fr=>layK fr cs st K
theorem joinK_eq (W:List Nat) (fr:List Value) (cs:List Nat) (st:List Value) (K:List Value->M ρ):joinK W fr cs st K=K (joinF W fr cs st):=by
 simp only [joinK,joinF,blankK_eq,layK_eq]
def seeK:List Value->(List Value->M ρ)->M ρ
 | [], K => K []
 | v :: l, K => seeK l λ l' => K (v :: l')
theorem seeK_eq:∀ (l:List Value) (K:List Value->M ρ),seeK l K=K l
 | [], K => rfl
 | v :: l, K => by simp only [seeK, seeK_eq l]
def slotK (fr:List Value):List Nat->(List Value->M ρ)->M ρ
 | [], K => K []
 | c :: cs, K => getK fr c λ v => slotK fr cs λ l => K (v :: l)
theorem slotK_eq (fr:List Value):∀ (cs:List Nat) (K:List Value->M ρ),slotK fr cs K=K (slots fr cs)
 | [], K => rfl
 | c :: cs, K => by simp only [slotK, getK_eq, slotK_eq fr cs, slots, List.map_cons]
def wr:Code->List Nat
 | .region _ ops _ => wrOps ops
 | .seq a b => wr a ++ wr b
 | .cond _ a b => wr a ++ wr b
 | .block _ a => wr a
 | .loop a => wr a
 | .scope a => wr a
 | _ => []
def carry (A:Ann) (e:X) (fr:List Value):M (Nat×List Value):=onOpt (wayOf A.xs e) λ x=>slotK fr x.cs λ l=>M.ret (ixOf A.xs e,l)
def carryL (A:Ann) (e:X) (fr:List Value):M (Nat×List Value):=match e with
 | .norm => slotK fr A.cs λ l => M.ret (0, l)
 | e => onOpt (wayOf A.xs e) λ x => slotK fr x.cs λ l => M.ret (ixOf A.xs e + 1, l)
def land (A:Ann) (W:List Nat) (fr:List Value) (ix:Nat) (st:List Value) (K:X->List Value->M ρ):M ρ:=
 pickM (A.xs.map λ x=>prjAs x.zs st λ st=>joinK W fr x.cs st λ fr=>K x.e fr) ix
def X.leave (id:Nat):X->X
 | .ex i => match Nat.beq i id with
   | true=>.norm
   | false=>.ex i
 | e => e
theorem X.leave_eq (id:Nat) (e:X):e.leave id=if e = .ex id then .norm else e:=by
 cases e with
 | norm => rfl
 | ret => rfl
 | ex i =>
   by_cases h:i=id
   ·subst h;simp [X.leave]
   ·have h1:X.ex i≠X.ex id:=λ q=>h (by injection q)
    have h2:Nat.beq i id=false:=by
     cases hb:Nat.beq i id with
     | false=>rfl
     | true=>exact absurd (Nat.eq_of_beq_eq_true hb) h
    rw [if_neg h1]
    simp only [X.leave,h2]
def condK (fr:List Value) (c:Operand) (t:Bool) (K:List Value->M ρ):M ρ:=match c with
 | .tmp s => setK fr s (.bool t) K
 | _ => K fr
def condF (fr:List Value) (c:Operand) (t:Bool):List Value:=match c with
 | .tmp s => fr.set s (.bool t)
 | _ => fr
theorem condK_eq {fr:List Value} {c:Operand} {t:Bool} (K:List Value->M ρ):condK fr c t K=K (condF fr c t):=by
 cases c <;> first | rfl | exact setK_eq _ _ _ _
theorem condF_eq {fr:List Value} {c:Operand} {t:Bool} (h:aev fr c = .bool t):condF fr c t=fr:=by
 cases c with
 | tmp s =>
   simp only [aev,List.getD] at h
   simp only [condF]
   apply List.ext_getElem?
   intro k
   by_cases e:s=k
   ·subst e
    cases hft:fr[s]? with
    | none=>simp [hft] at h
    | some u=>
      simp [hft] at h
      subst h
      have hlt:s < fr.length:=by
       rcases Nat.lt_or_ge s fr.length with h | h
       ·exact h
       ·rw [List.getElem?_eq_none h] at hft;cases hft
      rw [List.getElem?_set_self hlt]
   ·rw [List.getElem?_set_ne e]
 | _ => rfl
noncomputable def den (tb:Tb) (dr:Array Oper->List Value->(List Value->M (Nat×List Value))->M (Nat×List Value)) (an:Nat->Option Ann):Nat->Code->(X->List Value->M (Nat×List Value))->List Value->M (Nat×List Value)
 | _, .skip, K, fr => K .norm fr
 | _, .label _, K, fr => K .norm fr
 | _, .exit id, K, fr => K (.ex id) fr
 | _, .ret, K, fr => K .ret fr
 | p, .region _ ops false, K, fr => match an p with
   | none=>dSeq tb ops (List.range ops.size) fr λ fr=>K .norm fr
   | some A=>M.bind (dSeq tb ops (List.range ops.size) fr λ fr=>carry A .norm fr) λ q=>land A (wrOps ops) fr q.1 q.2 K
 | _, .region _ ops true, K, fr => dr ops fr λ fr => K .norm fr
 | p, .seq a b, K, fr => match an p with
   | none=>den tb dr an (2*p) a (λ e fr=>match e with
     | .norm=>den tb dr an (2*p+1) b K fr
     | e=>K e fr) fr
   | some A=>M.bind (den tb dr an (2*p) a (carry A) fr) λ q=>land A (wr a) fr q.1 q.2 λ e fr=>match e with
     | .norm=>den tb dr an (2*p+1) b K fr
     | e=>K e fr
 | p, .cond c a b, K, fr => onIf (constB c = true) (evs fr [c] [] λ ps => onBool (aevP ps c) λ t => bif t then condK fr c true λ fr => den tb dr an (2 * p) a K fr else condK fr c false λ fr => den tb dr an (2 * p + 1) b K fr)
 | p, .block id c, K, fr => den tb dr an (2 * p) c (λ e fr => K (e.leave id) fr) fr
 | p, .loop c, K, fr => match an p with
   | none=>M.fail
   | some A=>onIf (A.cs.all (memN · (wr c))=true) (slotK fr A.cs λ st0=>M.bind (loopM (λ st=>prjAs A.zs st λ st=>joinK (wr c) fr A.cs st λ fr=>den tb dr an (2*p) c (carryL A) fr) st0) λ q=>
      land A (wr c) fr (q.1-1) q.2 K)
 | _, _, _, _ => M.fail
end Go.AM
namespace Go.AM
open Go
variable {P:Program} {G:List (Nat×Obj)} {ρ:Type}
theorem carry_some {A:Ann} {e:X} {fr:List Value} {S S':St} {q:Nat×List Value} (h:carry A e fr S=some (q,S')) :
 ∃ x,wayOf A.xs e=some x/\q=(ixOf A.xs e,slots fr x.cs)/\S'=S:=by
 obtain ⟨x,h1,h2⟩:=onOpt_some h
 rw [slotK_eq] at h2
 cases h2
 exact ⟨x,h1,rfl,rfl⟩
theorem land_some {A:Ann} {W:List Nat} {fr:List Value} {ix:Nat} {st:List Value} {K:X->List Value->M ρ} {S:St} {r:ρ×St} (h:land A W fr ix st K S=some r) {e:X} {x:Way}
 (he:wayOf A.xs e=some x) (hq:ix=ixOf A.xs e):K e (joinF W fr x.cs st) S=some r:=by
 unfold land at h
 rw [hq] at h
 have:=prjAs_some (pick_some (K:=λ x=>prjAs x.zs st λ st=>joinK W fr x.cs st λ fr=>K x.e fr) he h)
 rw [wayOf_e he,joinK_eq] at this
 exact this
def DrOK (P:Program) (G:List (Nat×Obj)) (dr:Array Oper->List Value->(List Value->M (Nat×List Value))->M (Nat×List Value)):Prop:=
 ∀ ops fr K S r,dr ops fr K S=some r->∃ fr' S',K fr' S'=some r/\∀ id,Sim P G (wrOps ops) (.region id ops true) fr S .norm fr' S'
theorem lay_out {t:Nat}:∀ {cs:List Nat} {g vs:List Value},t∉cs->(lay g cs vs)[t]? = g[t]?
 | [], g, vs, _ => by simp [lay]
 | c :: cs, g, [], _ => by simp [lay]
 | c :: cs, g, v :: vs, h => by
   simp only [lay]
   simp at h
   rw [lay_out h.2,List.getElem?_set_ne (λ e=>h.1 e.symm)]
theorem blank_joinF {W:List Nat} {fr:List Value} {cs:List Nat} {st:List Value} (hcs:∀ t∈cs,t∈W):blank W 0 (joinF W fr cs st)=blank W 0 fr:=by
 apply List.ext_getElem?
 intro t
 rw [blank_get,blank_get]
 by_cases hW:t∈W
 ·have h1:(joinF W fr cs st).length=fr.length:=joinF_len
  by_cases hl:t < fr.length
  ·rw [List.getElem?_eq_getElem (h1 ▸ hl:t < (joinF W fr cs st).length),List.getElem?_eq_getElem hl]
   simp [hW]
  ·rw [List.getElem?_eq_none (by rw [h1]; omega),List.getElem?_eq_none (by omega)]
 ·have hc:t∉cs:=λ h=>hW (hcs t h)
  unfold joinF
  rw [lay_out hc,blank_get]
  cases fr[t]? with
  | none=>rfl
  | some v=>simp [hW]
theorem joinF_joinF {W:List Nat} {fr:List Value} {cs cs':List Nat} {st st':List Value} (hcs:∀ t∈cs,t∈W):joinF W (joinF W fr cs st) cs' st'=joinF W fr cs' st':=by
 unfold joinF
 rw [show blank W 0 (lay (blank W 0 fr) cs st)=blank W 0 fr from blank_joinF hcs]
theorem rounds_mono {c:Code} {Q Q':Exit->Act->World->Prop} (hq:∀ e a w,Q e a w->Q' e a w):∀ {n:Nat} {a:Act} {w:World},Code.rounds P c Q n a w->Code.rounds P c Q' n a w
 | 0, _, _, h => h
 | n + 1, a, w, h => by
   rw [rounds_succ] at h ⊢
   refine wp_mono h λ e a w h=>?_
   cases e with
   | normal=>exact rounds_mono hq h
   | _=>exact hq _ _ _ h
theorem loop_sound {c:Code} {A:Ann} {fr0:List Value} {b:List Value->M (Nat×List Value)} (hcs:∀ t∈A.cs,t∈wr c)
 (hb:∀ (st:List Value) (S:St) (q:Nat×List Value) (S':St),b st S=some (q,S')->∃ e fr',carryL A e fr' S'=some (q,S')/\Sim P G (wr c) c (joinF (wr c) fr0 A.cs st) S e fr' S') :
 ∀ (n:Nat) (st:List Value) (S:St) (q:Nat×List Value) (S':St),iter b n st S=some (q,S') ->
  ∃ e x,wayOf A.xs e=some x/\q.1=ixOf A.xs e+1/\S.length<=S'.length/\Ag (wr c) (joinF (wr c) fr0 A.cs st) (joinF (wr c) fr0 x.cs q.2) /\
   ∀ N τ a w,S'.length<=N->Rl G N τ (joinF (wr c) fr0 A.cs st) S a w ->
    Code.rounds P c (λ e' a' w'=>e'=e.out/\∃ τ',Rl G N τ' (joinF (wr c) fr0 x.cs q.2) S' a' w'/\Ext τ S w τ' S' w') n a w:=by
 have hjoin:∀ (cs:List Nat) (st:List Value) (fr':List Value),Ag (wr c) (joinF (wr c) fr0 A.cs st) fr' ->
  (∀ (t:Nat) (u:Value),(joinF (wr c) fr0 cs (slots fr' cs))[t]? = some u->u=topV\/fr'[t]? = some u)/\(joinF (wr c) fr0 cs (slots fr' cs)).length=fr'.length /\
  Ag (wr c) (joinF (wr c) fr0 A.cs st) (joinF (wr c) fr0 cs (slots fr' cs)):=by
  intro cs st fr' hag
  rw [<- joinF_joinF (st:=st) hcs]
  exact ⟨λ t u hu=>joinF_sub hag cs hu,by rw [joinF_len,hag.len],joinF_ag hag cs⟩
 intro n
 induction n with
 | zero => intro st S q S' h; cases h
 | succ n ih =>
   intro st S q S' h
   obtain ⟨q1,S1,h1,h2⟩:=M.bind_some h
   obtain ⟨e1,fr1,hc,hsim⟩:=hb st S q1 S1 h1
   split at h2
   ·rename_i h0
    cases e1 with
    | norm=>
      simp only [carryL,slotK_eq] at hc
      cases hc
      obtain ⟨j1,j2,j3⟩:=hjoin A.cs st fr1 hsim.ag
      obtain ⟨e,x,he,hq,hlen,hag,hall⟩:=ih _ _ _ _ h2
      refine ⟨e,x,he,hq,Nat.le_trans hsim.len hlen,j3.trans hag,λ N τ a w hN hr=>?_⟩
      rw [rounds_succ]
      refine wp_mono (hsim.sim N τ a w (by omega) hr) ?_
      rintro e' a' w' ⟨rfl,τ',k1,k2⟩
      have hr':Rl G N τ' (joinF (wr c) fr0 A.cs (slots fr1 A.cs)) S1 a' w':=k1.sub j2 j1
      refine rounds_mono ?_ (hall N τ' a' w' hN hr')
      rintro e2 a2 w2 ⟨h3,τ2,h4,h5⟩
      exact ⟨h3,τ2,h4,k2.trans h5 λ j hj hj'=>hr.no j (by have:=hsim.len;omega) (by omega)⟩
    | ex id=>
      obtain ⟨_,_,hc⟩:=onOpt_some hc
      rw [slotK_eq] at hc
      cases hc
      exact absurd h0 (by simp)
    | ret=>
      obtain ⟨_,_,hc⟩:=onOpt_some hc
      rw [slotK_eq] at hc
      cases hc
      exact absurd h0 (by simp)
   ·rename_i h0
    cases h2
    cases e1 with
    | norm=>simp only [carryL,slotK_eq] at hc;cases hc;exact absurd rfl h0
    | ex id=>
      obtain ⟨x,he,hc⟩:=onOpt_some hc
      rw [slotK_eq] at hc
      cases hc
      obtain ⟨j1,j2,j3⟩:=hjoin x.cs st fr1 hsim.ag
      refine ⟨.ex id,x,he,rfl,hsim.len,j3,λ N τ a w hN hr=>?_⟩
      rw [rounds_succ]
      refine wp_mono (hsim.sim N τ a w (by omega) hr) ?_
      rintro e' a' w' ⟨rfl,τ',k1,k2⟩
      exact ⟨rfl,τ',k1.sub j2 j1,k2⟩
    | ret=>
      obtain ⟨x,he,hc⟩:=onOpt_some hc
      rw [slotK_eq] at hc
      cases hc
      obtain ⟨j1,j2,j3⟩:=hjoin x.cs st fr1 hsim.ag
      refine ⟨.ret,x,he,rfl,hsim.len,j3,λ N τ a w hN hr=>?_⟩
      rw [rounds_succ]
      refine wp_mono (hsim.sim N τ a w (by omega) hr) ?_
      rintro e' a' w' ⟨rfl,τ',k1,k2⟩
      exact ⟨rfl,τ',k1.sub j2 j1,k2⟩
theorem den_sound {tb:Tb} (hT:TbOK P G tb) {dr:Array Oper->List Value->(List Value->M (Nat×List Value))->M (Nat×List Value)} (hdr:DrOK P G dr) (an:Nat->Option Ann) (c:Code) :
 ∀ (p:Nat) (K:X->List Value->M (Nat×List Value)) (fr:List Value) (S:St) (r:(Nat×List Value)×St),den tb dr an p c K fr S=some r ->
  ∃ e fr' S',K e fr' S'=some r/\Sim P G (wr c) c fr S e fr' S':=by
 induction c with
 | skip => intro p K fr S r h; exact ⟨_, _, _, h, .skip⟩
 | label l => intro p K fr S r h; exact ⟨_, _, _, h, .label⟩
 | exit id => intro p K fr S r h; exact ⟨_, _, _, h, .exit⟩
 | ret => intro p K fr S r h; exact ⟨_, _, _, h, .ret⟩
 | region id ops d =>
   intro p K fr S r h
   cases d with
   | false=>
     simp only [den] at h
     cases hA:an p with
     | none=>
       rw [hA] at h
       obtain ⟨fr',S',hk,hs⟩:=Sim.region (id:=id) hT h
       exact ⟨_,_,_,hk,hs⟩
     | some A=>
       rw [hA] at h
       obtain ⟨q,S1,h1,h2⟩:=M.bind_some h
       obtain ⟨fr',S',hk,hs⟩:=Sim.region (id:=id) hT h1
       obtain ⟨x,he,hq,hS⟩:=carry_some hk
       rw [hS] at h2
       have:=land_some h2 he (by rw [hq])
       rw [hq] at this
       exact ⟨_,_,_,this,hs.join x.cs⟩
   | true=>
     simp only [den] at h
     obtain ⟨fr',S',hk,hs⟩:=hdr _ _ _ _ _ h
     exact ⟨_,_,_,hk,hs id⟩
 | seq a b iha ihb =>
   intro p K fr S r h
   simp only [den] at h
   have hwa:∀ t,t∈wr a->t∈wr (.seq a b):=λ t ht=>by simp only [wr,List.mem_append]; exact .inl ht
   have hwb:∀ t,t∈wr b->t∈wr (.seq a b):=λ t ht=>by simp only [wr,List.mem_append]; exact .inr ht
   have tail:∀ {e:X} {fr':List Value} {S':St},(match e with | .norm=>den tb dr an (2*p+1) b K fr' | e=>K e fr':M (Nat×List Value)) S'=some r ->
    Sim P G (wr a) a fr S e fr' S'->∃ e fr' S',K e fr' S'=some r/\Sim P G (wr (.seq a b)) (.seq a b) fr S e fr' S':=by
    intro e fr' S' hk hs
    cases e with
    | norm=>
      obtain ⟨e2,fr2,S2,hk2,hs2⟩:=ihb _ _ _ _ _ hk
      exact ⟨_,_,_,hk2,(hs.mono hwa).seq (hs2.mono hwb)⟩
    | ex id=>exact ⟨_,_,_,hk,(hs.mono hwa).seq_out (by simp)⟩
    | ret=>exact ⟨_,_,_,hk,(hs.mono hwa).seq_out (by simp)⟩
   cases hA:an p with
   | none=>
     rw [hA] at h
     obtain ⟨e,fr',S',hk,hs⟩:=iha _ _ _ _ _ h
     exact tail hk hs
   | some A=>
     rw [hA] at h
     obtain ⟨q,S1,h1,h2⟩:=M.bind_some h
     obtain ⟨e,fr',S',hk,hs⟩:=iha _ _ _ _ _ h1
     obtain ⟨x,he,hq,hS⟩:=carry_some hk
     rw [hS] at h2
     have:=land_some h2 he (by rw [hq])
     rw [hq] at this
     exact tail this (hs.join x.cs)
 | cond c a b iha ihb =>
   intro p K fr S r h
   simp only [den] at h
   obtain ⟨hc,h⟩:=onIf_some h
   obtain ⟨ps,h,hps⟩:=evs_some h
   obtain ⟨t,ht,h⟩:=onBool_some h
   rw [hps c (by simp)] at ht
   rcases bif_some h with ⟨hb,h9⟩ | ⟨hb,h9⟩
   ·subst hb
    rw [condK_eq,condF_eq ht] at h9
    obtain ⟨e,fr',S',hk,hs⟩:=iha _ _ _ _ _ h9
    exact ⟨_,_,_,hk,Sim.cond ht hc (by simpa using hs.mono λ t ht=>by simp only [wr,List.mem_append]; exact .inl ht)⟩
   ·subst hb
    rw [condK_eq,condF_eq ht] at h9
    obtain ⟨e,fr',S',hk,hs⟩:=ihb _ _ _ _ _ h9
    exact ⟨_,_,_,hk,Sim.cond ht hc (by simpa using hs.mono λ t ht=>by simp only [wr,List.mem_append]; exact .inr ht)⟩
 | block id c ih =>
   intro p K fr S r h
   simp only [den] at h
   obtain ⟨e,fr',S',hk,hs⟩:=ih _ _ _ _ _ h
   exact ⟨_,_,_,hk,by rw [X.leave_eq]; exact hs.block⟩
 | loop c ih =>
   intro p K fr S r h
   simp only [den] at h
   cases hA:an p with
   | none=>rw [hA] at h;cases h
   | some A=>
     rw [hA] at h
     obtain ⟨hcs,h⟩:=onIf_some h
     have hcs':∀ t∈A.cs,t∈wr c:=λ t ht=>memN_iff.1 (List.all_eq_true.1 hcs t ht)
     rw [slotK_eq] at h
     obtain ⟨q,S1,h1,h2⟩:=M.bind_some h
     obtain ⟨n,hn⟩:=loopM_some h1
     obtain ⟨e,x,he,hq,hlen,hag,hall⟩:=loop_sound (P:=P) (G:=G) (c:=c) (A:=A) (fr0:=fr) hcs' (by
      intro st S q S' hb
      obtain ⟨e,fr',S2,hk,hs⟩:=ih _ _ _ _ _ (by
       have:=prjAs_some (K:=λ st=>joinK (wr c) fr A.cs st λ fr=>den tb dr an (2*p) c (carryL A) fr) hb
       rw [joinK_eq] at this
       exact this)
      have : S2=S':=by
       cases e with
       | norm=>simp only [carryL,slotK_eq] at hk;cases hk;rfl
       | ex id=>obtain ⟨_,_,hk⟩:=onOpt_some hk;rw [slotK_eq] at hk;cases hk;rfl
       | ret=>obtain ⟨_,_,hk⟩:=onOpt_some hk;rw [slotK_eq] at hk;cases hk;rfl
      subst this
      exact ⟨e,fr',hk,hs⟩) n _ _ _ _ hn
     have hl:=land_some h2 he (by simp [hq])
     refine ⟨e,_,S1,hl,?_,hlen,λ N τ a w hN hr=>?_⟩
     ·exact (joinF_ag (Ag.refl (wr c) fr) A.cs).trans hag
     ·refine wp_loop_rounds n ?_
      exact hall N τ a w hN (hr.sub joinF_len λ t u hu=>joinF_sub (Ag.refl (wr c) fr) A.cs hu)
 | rangeFunc f ps a b _ _ => intro p K fr S r h; simp only [den] at h; cases h
 | scope a _ => intro p K fr S r h; simp only [den] at h; cases h
 | goto l => intro p K fr S r h; simp only [den] at h; cases h
 | refuse w => intro p K fr S r h; simp only [den] at h; cases h
end Go.AM
namespace Go.AM
open Go
variable {P:Program} {G:List (Nat×Obj)} {ρ:Type}
def tupV:List Value->Value
 | [v] => v
 | l => .tuple ⟨l⟩
def resS (tmps:Array Value):ResultVar->Sem Value
 | .tmp t => pure (tmps.getD t undef)
 | .cell a t => do loadVar t (<- asAddr (tmps.getD a undef))
theorem results_eq (fn:Func) (tmps:Array Value):results fn tmps=(do let vs <- fn.results.mapM (resS tmps); pure (if h:vs.size=1 then vs[0] else .tuple vs)):=by
 unfold results
 congr 1
def resK (T:TypeId->Option TI) (fr:List Value):List ResultVar->(List Value->M ρ)->M ρ
 | [], K => K []
 | .tmp t :: l, K => getK fr t λ v => resK T fr l λ vs => K (v :: vs)
 | .cell a t :: l, K => getK fr a λ v => dLoad T t v λ u => resK T fr l λ vs => K (u :: vs)
theorem resK_some {T:TypeId->Option TI} (hT:TOK P T) {fr:List Value}:∀ {l:List ResultVar} {K:List Value->M ρ} {S:St} {r:ρ×St},resK T fr l K S=some r ->
 ∃ vs,K vs S=some r/\∀ τ a w,FR τ fr a->HR G τ S w->∃ vs',(l.mapM (resS a.tmps)).run P w = .ok vs' w/\VRs τ vs vs'
 | [], K, S, r, h => ⟨[], h, λ τ a w _ _ => ⟨[], by simp, .nil⟩⟩
 | .tmp t :: l, K, S, r, h => by
   simp only [resK,getK_eq] at h
   obtain ⟨vs,hk,hs⟩:=resK_some hT h
   refine ⟨_,hk,λ τ a w hf hr=>?_⟩
   obtain ⟨vs',h1,h2⟩:=hs τ a w hf hr
   refine ⟨a.tmps.getD t undef :: vs',?_,.cons ?_ h2⟩
   ·have h3:(resS a.tmps (.tmp t)).run P w = .ok (a.tmps.getD t undef) w:=rfl
    rw [List.mapM_cons,Sem.run_bind,h3,Result.andThen_ok,Sem.run_bind,h1]
    rfl
   ·have:=hf.eval (x:=.tmp t) rfl
    simpa [aev,Act.eval] using this
 | .cell c t :: l, K, S, r, h => by
   simp only [resK,getK_eq] at h
   obtain ⟨u, hl, hq, _⟩ := sim_load (P := P) (G := G) (x := .tmp c) (d := none) (ty := 0) (ps := "") (ed := #[]) (gd := none) (f := aev fr) hT h
   obtain ⟨vs,hk,hs⟩:=resK_some hT hl
   refine ⟨_,hk,λ τ a w hf hr=>?_⟩
   obtain ⟨vs',h1,h2⟩:=hs τ a w hf hr
   have hv:=hf.eval (x:=.tmp c) rfl
   obtain ⟨i,hi,h5⟩:=onTI_some h
   obtain ⟨ad,hx,_⟩:=onPtr_some h5
   have hv2:VR τ (.pointer (some ad)) (a.eval (.tmp c)):=by
    rw [<- hx]; simpa [aev] using hv
   obtain ⟨y,hy,_⟩:=hv2.ptr_inv
   obtain ⟨u',h6,h7⟩:=hq τ a w (λ z hz=>by
    simp [Op.operands] at hz
    subst hz
    exact hv) hr
   refine ⟨u' :: vs',?_,.cons h7 h2⟩
   have h3:(resS a.tmps (.cell c t)).run P w = .ok u' w:=by
    have e1:a.tmps.getD c undef = .pointer (some y):=by simpa [Act.eval] using hy
    have e2:((loadVar t y).run P w).andThen (λ v w=>.ok (Next.value v) w) = .ok (Next.value u') w:=by
     rw [<- h6]
     simp [execOp,Instr.loadAt,hy,Instr.sureAddr,Result.andThen]
     try rfl
    have e3:(loadVar t y).run P w = .ok u' w:=by
     cases hq2:(loadVar t y).run P w <;> rw [hq2] at e2 <;> simp [Result.andThen] at e2
     rw [e2.1,e2.2]
    simp [resS,e1,asAddr,e3]
   rw [List.mapM_cons,Sem.run_bind,h3,Result.andThen_ok,Sem.run_bind,h1]
   rfl
theorem run_results {fn:Func} {l:List ResultVar} (hl:fn.results.toList=l) {tmps:Array Value} {w:World} {vs:List Value} (h:(l.mapM (resS tmps)).run P w = .ok vs w) :
 (results fn tmps).run P w = .ok (tupV vs) w:=by
 rw [results_eq,Array.mapM_eq_mapM_toList,hl,Sem.run_bind,Sem.run_map,h]
 cases vs with
 | nil => rfl
 | cons t ts => cases ts with
   | nil=>rfl
   | cons t2 ts=>rfl
theorem tupV_rel {τ:Nat->Tag} {vs vs':List Value} (h:VRs τ vs vs'):VR τ (tupV vs) (tupV vs'):=by
 cases h with
 | nil => exact .tuple .nil
 | cons a h => cases h with
   | nil=>exact a
   | cons b h=>exact .tuple (.cons a (.cons b h))
def oneV (q:Nat×List Value):M Value:=match q.2 with
 | [v] => M.ret v
 | _ => M.fail
def lookA:List (Nat×Ann)->Nat->Option Ann
 | [], _ => none
 | (q, a) :: l, p => match Nat.beq q p with
   | true=>some a
   | false=>lookA l p
def lookT:List (Nat×TI)->TypeId->Option TI
 | [], _ => none
 | (q, a) :: l, p => match Nat.beq q p with
   | true=>some a
   | false=>lookT l p
def AllT (P:Program):List (Nat×TI)->Prop
 | [] => True
 | (t, i) :: l => tinfo P t = some i /\ AllT P l
theorem lookT_ok:∀ {L:List (Nat×TI)},AllT P L->TOK P (lookT L)
 | [], _ => λ t i h => by cases h
 | (q, a) :: l, hall => λ t i h => by
   simp only [lookT] at h
   split at h
   ·rename_i hb
    have:=Nat.eq_of_beq_eq_true hb
    subst this
    cases h
    exact hall.1
   ·exact lookT_ok hall.2 t i h
def FnOK (P:Program) (G:List (Nat×Obj)) (k:FuncId) (g:List Value->M Value):Prop:=
 ∀ args S v S',g args S=some (v,S')->Enters P k/\SC P G k args S v S'
def AllC (P:Program) (G:List (Nat×Obj)):List (Nat×(List Value->M Value))->Prop
 | [] => True
 | (k, g) :: l => FnOK P G k g /\ AllC P G l
noncomputable def fnD (tb:Tb) (dr:Array Oper->List Value->(List Value->M (Nat×List Value))->M (Nat×List Value)) (an:Nat->Option Ann) (c:Code) (nt:Nat) (ts:List ResultVar) (args:List Value):M Value:=
 M.bind (seeK (args++List.replicate (nt-args.length) undef) λ fr=>den tb dr an 1 c (λ e fr=>match e with
  | .ex _=>M.fail
  | _=>resK tb.T fr ts λ l=>M.ret (0,[tupV l])) fr) oneV
theorem fn_sound {tb:Tb} (hT:TbOK P G tb) {dr:Array Oper->List Value->(List Value->M (Nat×List Value))->M (Nat×List Value)} (hdr:DrOK P G dr) {an:Nat->Option Ann}
 {k:FuncId} {fn:Func} {c:Code} {nt:Nat} {ts:List ResultVar} (hf:P.funcs[k]? = some fn) (hb:fn.body=some c) (hn:fn.ntmps=nt) (hr:fn.results.toList=ts)
 (hne : fn.name ≠ "runtime.NumGoroutine") {args : List Value} {S S' : St} {v : Value} (h : fnD tb dr an c nt ts args S = some (v, S')) : Enters P k ∧ SC P G k args S v S' := by
 refine ⟨enters_of hf hb hne,?_⟩
 obtain ⟨q,S1,h1,h2⟩:=M.bind_some h
 rw [seeK_eq] at h1
 obtain ⟨e,fr',S2,hk,hs⟩:=den_sound hT hdr an c _ _ _ _ _ h1
 have hk2:(∀ id,e≠.ex id)/\resK tb.T fr' ts (λ l=>M.ret (0,[tupV l])) S2=some (q,S1):=by
  cases e with
  | ex id=>cases hk
  | norm=>exact ⟨λ _ q=>(by cases q),hk⟩
  | ret=>exact ⟨λ _ q=>(by cases q),hk⟩
 obtain ⟨he,hk3⟩:=hk2
 obtain ⟨vs,hk4,hres0⟩:=resK_some hT.T (G:=G) hk3
 cases hk4
 cases h2
 refine ⟨hs.len,λ N τ w args' hN hno hv hr'=>?_⟩
 have hlen:=hv.length
 refine calls_of_wp hf hb ?_
 have hsz:(⟨args'⟩:Array Value).size=args.length:=by simp [hlen]
 have hfr:FR τ (args++List.replicate (nt-args.length) undef) { tmps:=⟨args'⟩ ++ Array.replicate (fn.ntmps-(⟨args'⟩:Array Value).size) undef,defers:=[] }:=by
  refine ⟨by simp [hlen,hn],λ t u hu=>?_⟩
  rw [hsz,hn]
  by_cases ht:t < args.length
  ·rw [List.getElem?_append_left ht] at hu
   obtain ⟨u',h3,h4⟩:=hv.get hu
   have ht':t < args'.length:=by omega
   have : args'[t]=u':=by rw [List.getElem?_eq_getElem ht'] at h3;exact Option.some.inj h3
   have hb2:t < args'.length+(nt-args.length):=by omega
   simp [Array.getElem?_append,ht',this,h4]
  ·rw [List.getElem?_append_right (by omega)] at hu
   rw [List.getElem?_replicate] at hu
   split at hu
   ·cases hu
    have ht':¬ t < args'.length:=by omega
    have : VR τ undef undef:=.tuple .nil
    simp only [Array.getD_eq_getD_getElem?]
    rw [Array.getElem?_append_right (by simp;omega)]
    simp only [Array.getElem?_replicate]
    split <;> simpa using this
   ·cases hu
 refine wp_mono (hs.sim N τ _ w hN ⟨hfr,rfl,hr',hno⟩) ?_
 rintro e' a' w' ⟨rfl,τ',h3,h4⟩
 have hres:∃ v',(results fn a'.tmps).run P w' = .ok v' w'/\VR τ' (tupV vs) v':=by
  obtain ⟨vs',g1,g2⟩:=hres0 τ' a' w' h3.fr h3.hr
  exact ⟨_,run_results hr g1,tupV_rel g2⟩
 obtain ⟨v',h5,h6⟩:=hres
 cases e with
 | ex id => exact absurd rfl (he id)
 | norm => exact ⟨h3.defers, v', h5, v', rfl, τ', h6, h3.hr, h4⟩
 | ret => exact ⟨h3.defers, v', h5, v', rfl, τ', h6, h3.hr, h4⟩
end Go.AM
namespace Go.AM
open Go
variable {P:Program} {G:List (Nat×Obj)} {ρ:Type}
def bindsB (e:Edge):Bool:=Region.binds .any e
def ancOk (ops:Array Oper) (A:List (List Nat)):Bool:=
 (List.range ops.size).all λ i=>match ops[i]? with
   | none=>true
   | some o=>o.after.toList.all (λ e=>!bindsB e || memN e.on (A.getD i [])) &&
      (A.getD i []).all λ j=>decide (j < i) && o.after.toList.any λ e=>bindsB e && (decide (e.on=j) || memN j (A.getD e.on []))
theorem ancOk_edge {ops:Array Oper} {A:List (List Nat)} (h:ancOk ops A=true) {i:Nat} {o:Oper} (ho:ops[i]? = some o) {e:Edge} (he:e∈o.after) (hb:Region.binds .any e=true) :
 e.on∈A.getD i []:=by
 have hi:i < ops.size:=by
  rcases Nat.lt_or_ge i ops.size with h | h
  ·exact h
  ·rw [Array.getElem?_eq_none h] at ho;cases ho
 have h1:=List.all_eq_true.1 h i (by simp [hi])
 simp only [ho] at h1
 rw [Bool.and_eq_true] at h1
 have h2:=List.all_eq_true.1 h1.1 e (by simpa using he)
 simp only [bindsB,hb,Bool.not_true,Bool.false_or] at h2
 exact memN_iff.1 h2
theorem ancOk_anc {ops:Array Oper} {A:List (List Nat)} (h:ancOk ops A=true) {i j:Nat} {o:Oper} (ho:ops[i]? = some o) (hj:j∈A.getD i []) :
 j < i/\∃ e∈o.after,Region.binds .any e=true/\(e.on=j\/j∈A.getD e.on []):=by
 have hi:i < ops.size:=by
  rcases Nat.lt_or_ge i ops.size with h | h
  ·exact h
  ·rw [Array.getElem?_eq_none h] at ho;cases ho
 have h1:=List.all_eq_true.1 h i (by simp [hi])
 simp only [ho] at h1
 rw [Bool.and_eq_true] at h1
 have h2:=List.all_eq_true.1 h1.2 j hj
 rw [Bool.and_eq_true] at h2
 refine ⟨by simpa using h2.1,?_⟩
 obtain ⟨e,he,h3⟩:=List.any_eq_true.1 h2.2
 rw [Bool.and_eq_true,Bool.or_eq_true] at h3
 refine ⟨e,by simpa using he,h3.1,?_⟩
 rcases h3.2 with h4 | h4
 ·exact .inl (by simpa using h4)
 ·exact .inr (memN_iff.1 h4)
theorem anc_closed {ops:Array Oper} {A:List (List Nat)} (h:ancOk ops A=true) {D:Nat->Prop} (hD:∀ i o,D i->ops[i]? = some o->∀ e∈o.after,Region.binds .any e=true->D e.on) :
 ∀ (i j:Nat) (o:Oper),ops[i]? = some o->(∀ e∈o.after,Region.binds .any e=true->D e.on)->j∈A.getD i []->D j:=by
 intro i
 induction i using Nat.strongRecOn with
 | _ i ih =>
   intro j o ho hed hj
   obtain ⟨_,e,he,hb,h1⟩:=ancOk_anc h ho hj
   have hde:=hed e he hb
   have hlt:=(ancOk_anc h ho (ancOk_edge h ho he hb)).1
   rcases h1 with rfl | h1
   ·exact hde
   ·cases ho':ops[e.on]? with
    | none=>
      have : A.getD e.on []=A.getD e.on []:=rfl
      exfalso
      have : ops.size<=e.on:=Array.getElem?_eq_none_iff.1 ho'
      have hi:i < ops.size:=by
       rcases Nat.lt_or_ge i ops.size with h | h
       ·exact h
       ·rw [Array.getElem?_eq_none h] at ho;cases ho
      omega
    | some o'=>exact ih e.on hlt j o' ho' (λ e' he' hb'=>hD e.on o' hde ho' e' he' hb') h1
def dstIn (x y:Oper) (ops:Array Oper):Bool:=match x.dst with
 | none => false
 | some d => memN d (y.looksAt ops)
def sameDst (x y:Oper):Bool:=match x.dst,y.dst with
 | some a, some b => Nat.beq a b
 | _, _ => false
def isE:Cls->Bool
 | .eff => true
 | _ => false
def isR:Cls->Bool
 | .read => true
 | _ => false
def pairOk (tb:Tb) (ops:Array Oper) (A:List (List Nat)) (i j:Nat):Bool:=
 match ops[i]?,ops[j]? with
 | some x, some y => !Nat.beq i j && !memN j (A.getD i []) && (!dstIn y x ops || memN i (A.getD j [])) && (!dstIn x y ops || memN i (A.getD j [])) && !sameDst x y &&
    (!isE (cls tb x.op) || !(isE (cls tb y.op) || isR (cls tb y.op)) || memN i (A.getD j []))
 | _, _ => false
def posOk (tb:Tb) (ops:Array Oper) (A:List (List Nat)):List Nat->Bool
 | [] => true
 | i :: l => (match ops[i]? with
    | some x=>!dstIn x x ops && x.op.operands.toList.all constB
    | none=>false) && l.all (pairOk tb ops A i) && posOk tb ops A l
def ancT (ops:Array Oper):List (List Nat):=
 ops.toList.foldl (λ acc o=>acc++[o.after.toList.foldl (λ s e=>bif bindsB e then (e.on :: acc.getD e.on []).foldl (λ s j=>bif memN j s then s else j :: s) s else s) []]) []
def canonT (tb:Tb) (ops:Array Oper) (A:List (List Nat)):Nat->List Nat->List Nat->List Nat
 | 0, _, done => done.reverse
 | n + 1, left, done =>
   let ready:=left.filter λ i=>(A.getD i []).all λ j=>memN j done
   let quiet:=ready.filter λ i=>match ops[i]? with
    | some o=>!isE (cls tb o.op)
    | none=>true
   match quiet,ready with
   | i :: _,_=>canonT tb ops A n (left.filter λ j=>!Nat.beq j i) (i :: done)
   | [],i :: _=>canonT tb ops A n (left.filter λ j=>!Nat.beq j i) (i :: done)
   | [],[]=>done.reverse
open Classical in
/-- It reads the same. -/
noncomputable def chk (m:M Value) (v:Value):M Unit:=λ S=>if m S=some (v,S) then some ((),S) else none
theorem chk_some {m:M Value} {v:Value} {S S':St} {u:Unit} (h:chk m v S=some (u,S')):m S=some (v,S)/\S'=S:=by
 unfold chk at h
 split at h
 ·cases h;exact ⟨‹_›,rfl⟩
 ·cases h
noncomputable def chks:List (Nat×M Value×Value)->M ρ->M ρ
 | [], k => k
 | x :: l, k => M.bind (chk x.2.1 x.2.2) λ _ => chks l k
theorem chks_some:∀ {l:List (Nat×M Value×Value)} {k:M ρ} {S:St} {r:ρ×St},chks l k S=some r->k S=some r/\∀ x∈l,x.2.1 S=some (x.2.2,S)
 | [], k, S, r, h => ⟨h, λ x hx => by simp at hx⟩
 | x :: l, k, S, r, h => by
   obtain ⟨u,S',h1,h2⟩:=M.bind_some h
   obtain ⟨h3,hS⟩:=chk_some h1
   rw [hS] at h2
   obtain ⟨h4,h5⟩:=chks_some h2
   refine ⟨h4,λ y hy=>?_⟩
   rcases List.mem_cons.1 hy with rfl | hy
   ·exact h3
   ·exact h5 y hy
noncomputable def dGo (tb:Tb) (ops:Array Oper) (A:List (List Nat)):List Nat->List Value->List (Nat×M Value×Value)->(List Value->M ρ)->M ρ
 | [], fr, _, K => K fr
 | i :: l, fr, rs, K => onOpt ops[i]? λ o => dGuard ops o fr
   (λ fr=>evs fr o.op.operands.toList [] λ ps=>match cls tb o.op with
     | .pure=>dPure tb o (aevP ps) λ v=>putK fr o.dst v λ fr=>dGo tb ops A l fr rs K
     | .make=>dMake tb o (aevP ps) λ v=>putK fr o.dst v λ fr=>dGo tb ops A l fr rs K
     | .read=>dRead tb o (aevP ps) λ v=>putK fr o.dst v λ fr=>dGo tb ops A l fr ((i,dRead tb o (aevP ps) M.ret,v) :: rs) K
     | .eff=>dEff tb o (aevP ps) λ v=>chks (rs.filter λ x=>!memN x.1 (A.getD i [])) (putK fr o.dst v λ fr=>dGo tb ops A l fr rs K)
     | .none=>M.fail)
   (λ fr=>putK fr o.dst undef λ fr=>dGo tb ops A l fr rs K)
noncomputable def dDraw (tb:Tb) (ops:Array Oper) (fr:List Value) (K:List Value->M ρ):M ρ:=
 onIf (ancOk ops (ancT ops)=true/\posOk tb ops (ancT ops) (canonT tb ops (ancT ops) ops.size (List.range ops.size) [])=true /\
  (List.range ops.size).all (λ i=>memN i (canonT tb ops (ancT ops) ops.size (List.range ops.size) []))=true)
  (dGo tb ops (ancT ops) (canonT tb ops (ancT ops) ops.size (List.range ops.size) []) fr [] K)
structure Rec where
 i:Nat
 o:Oper
 kd:Cls
 v:Value
 fr:List Value
 S:St
 S':St
 x:AObj
 mkv:Nat->Value
 m:M Value
structure RecOK (P:Program) (G:List (Nat×Obj)) (tb:Tb) (ops:Array Oper) (r:Rec):Prop where
 op:ops[r.i]? = some r.o
 kd:r.kd = .none\/r.kd=cls tb r.o.op
 gno:r.kd = .none->r.S'=r.S/\r.v=undef/\∀ τ a,GR τ ops r.o r.fr a->Region.wanted r.o (yielded ops a.tmps)=false
 gyes:r.kd≠.none->∀ τ a,GR τ ops r.o r.fr a->Region.wanted r.o (yielded ops a.tmps)=true
 pure:r.kd = .pure->r.S'=r.S/\∀ S,QSim P G r.o (aev r.fr) S r.v
 make:r.kd = .make->r.S'=r.S++[r.x]/\r.v=r.mkv r.S.length/\ASim P r.o (aev r.fr) r.x r.mkv
 read:r.kd = .read->r.S'=r.S/\r.m r.S=some (r.v,r.S)/\∀ S,r.m S=some (r.v,S)->QSim P G r.o (aev r.fr) S r.v
 eff:r.kd = .eff->OpSim P G r.o (aev r.fr) r.S r.v r.S'
def Chain:St->List Value->List Rec->St->List Value->Prop
 | S, fr, [], S', fr' => S' = S /\ fr' = fr
 | S, fr, r :: l, S', fr' => r.S = S /\ r.fr = fr /\ Chain r.S' (putA fr r.o.dst r.v) l S' fr'
def Firm (A:List (List Nat)) (r q:Rec):Prop:=r.kd = .read->q.kd = .eff->r.i∉A.getD q.i []->r.m q.S'=some (r.v,q.S')
theorem go_some {tb:Tb} (hT:TbOK P G tb) {ops:Array Oper} {A:List (List Nat)}:∀ {l:List Nat} {fr:List Value} {rs:List (Nat×M Value×Value)} {K:List Value->M ρ} {S:St} {r:ρ×St},
 dGo tb ops A l fr rs K S=some r->∃ tr fr' S',K fr' S'=some r/\tr.map (·.i)=l/\Chain S fr tr S' fr'/\(∀ q∈tr,RecOK P G tb ops q)/\tr.Pairwise (Firm A) /\
  ∀ x∈rs,∀ q∈tr,q.kd = .eff->x.1∉A.getD q.i []->x.2.1 q.S'=some (x.2.2,q.S')
 | [], fr, rs, K, S, r, h => ⟨[], fr, S, h, rfl, ⟨rfl, rfl⟩, λ q hq => by simp at hq, .nil, λ x _ q hq => by simp at hq⟩
 | i :: l, fr, rs, K, S, r, h => by
   obtain ⟨o,ho,h⟩:=onOpt_some h
   -- one operation is put ahead of what follows
   have cons:∀ (q:Rec) (rs':List (Nat×M Value×Value)),q.i=i->q.o=o->q.S=S->q.fr=fr->RecOK P G tb ops q->dGo tb ops A l (putA fr o.dst q.v) rs' K q.S'=some r->(∀ x∈rs,x∈rs') ->
    (q.kd = .read->(i,q.m,q.v)∈rs')->(q.kd = .eff->∀ x∈rs,x.1∉A.getD i []->x.2.1 q.S'=some (x.2.2,q.S')) ->
    ∃ tr fr' S',K fr' S'=some r/\tr.map (·.i)=i :: l/\Chain S fr tr S' fr'/\(∀ q∈tr,RecOK P G tb ops q)/\tr.Pairwise (Firm A) /\
     ∀ x∈rs,∀ q∈tr,q.kd = .eff->x.1∉A.getD q.i []->x.2.1 q.S'=some (x.2.2,q.S'):=by
    intro q rs' h1 h2 h3 h4 h5 h6 h7 h8 h9
    obtain ⟨tr,fr',S',k1,k2,k3,k4,k5,k6⟩:=go_some hT h6
    refine ⟨q :: tr,fr',S',k1,by simp [h1,k2],⟨h3,h4,by rw [h2]; exact k3⟩,?_,?_,?_⟩
    ·intro q' hq'
     rcases List.mem_cons.1 hq' with rfl | hq'
     ·exact h5
     ·exact k4 q' hq'
    ·refine List.pairwise_cons.2 ⟨λ q' hq' hr he hn=>?_,k5⟩
     exact k6 (i,q.m,q.v) (h8 hr) q' hq' he (by rw [<- h1]; exact hn)
    ·intro x hx q' hq' he hn
     rcases List.mem_cons.1 hq' with rfl | hq'
     ·exact h9 he x hx (by rw [<- h1]; exact hn)
     ·exact k6 x (h7 x hx) q' hq' he hn
   rcases guard_some h with ⟨h,hw⟩ | ⟨h,hw⟩
   ·obtain ⟨ps,h,hps⟩:=evs_some h
    have hcg:∀ x∈o.op.operands,aevP ps x=aev fr x:=λ x hx=>hps x (by simpa using hx)
    cases hc:cls tb o.op with
    | none=>simp only [hc] at h;cases h
    | pure=>
      simp only [hc] at h
      obtain ⟨v,hk,hs⟩:=pure_some hT h
      rw [putK_eq] at hk
      exact cons ⟨i,o,.pure,v,fr,S,S,.dead,λ _=>undef,M.fail⟩ rs rfl rfl rfl rfl ⟨ho,.inr hc.symm,λ q=>(by cases q),λ _=>hw,λ _=>⟨rfl,λ S=>(hs S).congr hcg⟩,
       λ q=>(by cases q),λ q=>(by cases q),λ q=>(by cases q)⟩ hk (λ x hx=>hx) (λ q=>(by cases q)) (λ q=>(by cases q))
    | make=>
      simp only [hc] at h
      obtain ⟨x,mk,hk,hs⟩:=make_some hT h
      rw [putK_eq] at hk
      exact cons ⟨i,o,.make,mk S.length,fr,S,S++[x],x,mk,M.fail⟩ rs rfl rfl rfl rfl ⟨ho,.inr hc.symm,λ q=>(by cases q),λ _=>hw,λ q=>(by cases q),
       λ _=>⟨rfl,rfl,hs.congr hcg⟩,λ q=>(by cases q),λ q=>(by cases q)⟩ hk (λ x hx=>hx) (λ q=>(by cases q)) (λ q=>(by cases q))
    | read=>
      simp only [hc] at h
      obtain ⟨v,hk,hs,hall⟩:=read_some hT h
      rw [putK_eq] at hk
      refine cons ⟨i,o,.read,v,fr,S,S,.dead,λ _=>undef,dRead tb o (aevP ps) M.ret⟩ ((i,dRead tb o (aevP ps) M.ret,v) :: rs) rfl rfl rfl rfl ⟨ho,.inr hc.symm,λ q=>(by cases q),λ _=>hw,λ q=>(by cases q),
       λ q=>(by cases q),λ _=>⟨rfl,hall M.ret,λ S2 h2=>?_⟩,λ q=>(by cases q)⟩ hk (λ x hx=>by simp [hx]) (λ _=>by simp) (λ q=>(by cases q))
      obtain ⟨v2,hk2,hs2,_⟩:=read_some hT h2
      cases hk2
      exact hs2.congr hcg
    | eff=>
      simp only [hc] at h
      obtain ⟨v,S1,hk,hs⟩:=eff_some hT h
      obtain ⟨hk,hck⟩:=chks_some hk
      rw [putK_eq] at hk
      exact cons ⟨i,o,.eff,v,fr,S,S1,.dead,λ _=>undef,M.fail⟩ rs rfl rfl rfl rfl ⟨ho,.inr hc.symm,λ q=>(by cases q),λ _=>hw,λ q=>(by cases q),
       λ q=>(by cases q),λ q=>(by cases q),λ _=>hs.congr hcg⟩ hk (λ x hx=>hx) (λ q=>(by cases q))
       (λ _ x hx hn=>hck x (List.mem_filter.2 ⟨hx,by
         have : memN x.1 (A.getD i [])=false:=by
          cases hm:memN x.1 (A.getD i []) with
          | false=>rfl
          | true=>exact absurd (memN_iff.1 hm) hn
         show (!memN x.1 (A.getD i []))=true
         rw [this]; rfl⟩))
   ·rw [putK_eq] at h
    exact cons ⟨i,o,.none,undef,fr,S,S,.dead,λ _=>undef,M.fail⟩ rs rfl rfl rfl rfl ⟨ho,.inl rfl,λ _=>⟨rfl,rfl,hw⟩,λ q=>absurd rfl q,λ q=>(by cases q),
     λ q=>(by cases q),λ q=>(by cases q),λ q=>(by cases q)⟩ h (λ x hx=>hx) (λ q=>(by cases q)) (λ q=>(by cases q))
end Go.AM
namespace Go.AM
open Go
variable {P:Program} {G:List (Nat×Obj)} {ρ:Type}
theorem chain_split:∀ {a b:List Rec} {S S':St} {fr fr':List Value},Chain S fr (a++b) S' fr'->∃ X f,Chain S fr a X f/\Chain X f b S' fr'
 | [], b, S, S', fr, fr', h => ⟨S, fr, ⟨rfl, rfl⟩, h⟩
 | r :: a, b, S, S', fr, fr', h => by
   obtain ⟨h1,h2,h3⟩:=h
   obtain ⟨X,f,h4,h5⟩:=chain_split h3
   exact ⟨X,f,⟨h1,h2,h4⟩,h5⟩
theorem chain_join:∀ {a b:List Rec} {S X S':St} {fr f fr':List Value},Chain S fr a X f->Chain X f b S' fr'->Chain S fr (a++b) S' fr'
 | [], b, S, X, S', fr, f, fr', h, k => by obtain ⟨rfl, rfl⟩ := h; exact k
 | r :: a, b, S, X, S', fr, f, fr', h, k => by
   obtain ⟨h1,h2,h3⟩:=h
   exact ⟨h1,h2,chain_join h3 k⟩
section
variable {tb:Tb} {ops:Array Oper} {A:List (List Nat)}
theorem RecOK.len {r:Rec} (h:RecOK P G tb ops r):r.S.length<=r.S'.length:=by
 cases hk:r.kd with
 | none => rw [(h.gno hk).1]; exact Nat.le_refl _
 | pure => rw [(h.pure hk).1]; exact Nat.le_refl _
 | make => rw [(h.make hk).1]; simp
 | read => rw [(h.read hk).1]; exact Nat.le_refl _
 | eff => exact (h.eff hk).len
theorem chain_len:∀ {a:List Rec} {S S':St} {fr fr':List Value},Chain S fr a S' fr'->(∀ r∈a,RecOK P G tb ops r)->S.length<=S'.length
 | [], S, S', fr, fr', h, _ => by rw [h.1]; exact Nat.le_refl _
 | r :: a, S, S', fr, fr', h, hok => by
   obtain ⟨h1,h2,h3⟩:=h
   have:=(hok r (by simp)).len
   rw [h1] at this
   exact Nat.le_trans this (chain_len h3 λ q hq=>hok q (by simp [hq]))
theorem chain_quiet:∀ {a:List Rec} {S S':St} {fr fr':List Value},Chain S fr a S' fr'->(∀ r∈a,RecOK P G tb ops r)->(∀ r∈a,r.kd≠.eff) ->
 (∃ t,S'=S++t)/\∀ r∈a,r.kd = .make->S'[r.S.length]? = some r.x
 | [], S, S', fr, fr', h, _, _ => ⟨⟨[], by rw [h.1]; simp⟩, λ r hr => by simp at hr⟩
 | r :: a, S, S', fr, fr', h, hok, hne => by
   obtain ⟨h1,h2,h3⟩:=h
   have hr:=hok r (by simp)
   obtain ⟨⟨t,ht⟩,hm⟩:=chain_quiet h3 (λ q hq=>hok q (by simp [hq])) (λ q hq=>hne q (by simp [hq]))
   have hS:∃ u,r.S'=S++u:=by
    rw [<- h1]
    cases hk:r.kd with
    | none=>exact ⟨[],by rw [(hr.gno hk).1]; simp⟩
    | pure=>exact ⟨[],by rw [(hr.pure hk).1]; simp⟩
    | make=>exact ⟨[r.x],(hr.make hk).1⟩
    | read=>exact ⟨[],by rw [(hr.read hk).1]; simp⟩
    | eff=>exact absurd hk (hne r (by simp))
   obtain ⟨u,hu⟩:=hS
   refine ⟨⟨u++t,by rw [ht,hu]; simp⟩,λ q hq hqm=>?_⟩
   rcases List.mem_cons.1 hq with rfl | hq
   ·rw [ht,(hr.make hqm).1]
    simp
   ·exact hm q hq hqm
theorem chain_frame {t:Nat}:∀ {a:List Rec} {S S':St} {fr fr':List Value},Chain S fr a S' fr'->(∀ r∈a,r.o.dst≠some t)->fr'[t]? = fr[t]?
 | [], S, S', fr, fr', h, _ => by rw [h.2]
 | r :: a, S, S', fr, fr', h, hne => by
   obtain ⟨h1,h2,h3⟩:=h
   rw [chain_frame h3 λ q hq=>hne q (by simp [hq])]
   have:=hne r (by simp)
   cases hd:r.o.dst with
   | none=>rfl
   | some d=>
     simp only [putA]
     exact List.getElem?_set_ne (λ e:d=t=>this (by rw [hd,e]))
theorem chain_flen:∀ {a:List Rec} {S S':St} {fr fr':List Value},Chain S fr a S' fr'->fr'.length=fr.length
 | [], S, S', fr, fr', h => by rw [h.2]
 | r :: a, S, S', fr, fr', h => by
   obtain ⟨h1,h2,h3⟩:=h
   rw [chain_flen h3]
   cases hd:r.o.dst with
   | none=>rfl
   | some d=>simp [putA]
structure PairOK (tb:Tb) (ops:Array Oper) (A:List (List Nat)) (r q:Rec):Prop where
 ne:r.i≠q.i
 top:q.i∉A.getD r.i []
 later:∀ t,q.o.dst=some t->t∈r.o.looksAt ops->r.i∈A.getD q.i []
 data:∀ t,r.o.dst=some t->t∈q.o.looksAt ops->r.i∈A.getD q.i []
 dst:∀ t,r.o.dst=some t->q.o.dst≠some t
 eff:r.kd = .eff->q.kd = .eff\/q.kd = .read->r.i∈A.getD q.i []
theorem pairOk_rec {r q:Rec} (hr:RecOK P G tb ops r) (hq:RecOK P G tb ops q) (h:pairOk tb ops A r.i q.i=true):PairOK tb ops A r q:=by
 unfold pairOk at h
 rw [hr.op,hq.op] at h
 simp only [Bool.and_eq_true,Bool.not_eq_true',Bool.or_eq_true] at h
 obtain ⟨⟨⟨⟨⟨h0,h1⟩,h2⟩,h3⟩,h4⟩,h5⟩:=h
 refine ⟨λ e=>(by rw [e,Nat.beq_refl] at h0;cases h0),λ hm=>?_,λ t ht hm=>?_,λ t ht hm=>?_,λ t ht hq'=>?_,λ he hq'=>?_⟩
 ·rw [memN_iff.2 hm] at h1;cases h1
 ·rcases h2 with h2 | h2
  ·simp only [dstIn,ht] at h2
   rw [memN_iff.2 hm] at h2;cases h2
  ·exact memN_iff.1 h2
 ·rcases h3 with h3 | h3
  ·simp only [dstIn,ht] at h3
   rw [memN_iff.2 hm] at h3;cases h3
  ·exact memN_iff.1 h3
 ·simp only [sameDst,ht,hq'] at h4
  rw [Nat.beq_refl] at h4;cases h4
 ·have hre:cls tb r.o.op = .eff:=by
   rcases hr.kd with e | e
   ·rw [e] at he;cases he
   ·rw [<- e]; exact he
  have hqe:isE (cls tb q.o.op)=true\/isR (cls tb q.o.op)=true:=by
   rcases hq.kd with e | e
   ·rcases hq' with hq' | hq' <;> (rw [e] at hq'; cases hq')
   ·rcases hq' with hq' | hq'
    ·rw [hq'] at e;rw [<- e]; exact .inl rfl
    ·rw [hq'] at e;rw [<- e]; exact .inr rfl
  rw [hre] at h5
  rcases h5 with (h5 | h5) | h5
  ·cases h5
  ·rcases hqe with e | e <;> simp [e] at h5
  ·exact memN_iff.1 h5
theorem posOk_rec:∀ {tr:List Rec},(∀ r∈tr,RecOK P G tb ops r)->posOk tb ops A (tr.map (·.i))=true ->
 tr.Pairwise (PairOK tb ops A)/\∀ r∈tr,(∀ t,r.o.dst=some t->t∉r.o.looksAt ops)/\∀ x∈r.o.op.operands,constB x=true
 | [], _, _ => ⟨.nil, λ r hr => by simp at hr⟩
 | r :: tr, hok, h => by
   simp only [List.map_cons,posOk,Bool.and_eq_true] at h
   obtain ⟨⟨h1,h2⟩,h3⟩:=h
   obtain ⟨k1,k2⟩:=posOk_rec (λ q hq=>hok q (by simp [hq])) h3
   have hr:=hok r (by simp)
   rw [hr.op] at h1
   simp only [Bool.and_eq_true,Bool.not_eq_true'] at h1
   refine ⟨List.pairwise_cons.2 ⟨λ q hq=>?_,k1⟩,λ q hq=>?_⟩
   ·exact pairOk_rec hr (hok q (by simp [hq])) (List.all_eq_true.1 h2 q.i (List.mem_map.2 ⟨q,hq,rfl⟩))
   ·rcases List.mem_cons.1 hq with rfl | hq
    ·refine ⟨λ t ht hm=>?_,λ x hx=>List.all_eq_true.1 h1.2 x (by simpa using hx)⟩
     simp only [dstIn,ht] at h1
     rw [memN_iff.2 hm] at h1;cases h1.1
    ·exact k2 q hq
end
end Go.AM
namespace Go.AM
open Go
variable {P:Program} {G:List (Nat×Obj)} {ρ:Type}
theorem mem_looks_op {ops:Array Oper} {o:Oper} {t:Nat} (h:Operand.tmp t∈o.op.operands):t∈o.looksAt ops:=by
 unfold Oper.looksAt
 refine List.mem_append.2 (.inl (List.mem_filterMap.2 ⟨_,by simpa using h,rfl⟩))
theorem mem_looks_guard {ops:Array Oper} {o:Oper} {j t:Nat} {want:Bool} (h:o.guard=some (j,want)) (ht:(ops[j]?).bind (·.dst)=some t):t∈o.looksAt ops:=by
 unfold Oper.looksAt
 refine List.mem_append.2 (.inr ?_)
 rw [h]
 simp [ht]
structure Fix (P:Program) (G:List (Nat×Obj)) (tb:Tb) (ops:Array Oper) (A:List (List Nat)) (tr:List Rec) (S0:St) (fr0:List Value) (S9:St) (F:List Value):Prop where
 chain:Chain S0 fr0 tr S9 F
 ok:∀ r∈tr,RecOK P G tb ops r
 pair:tr.Pairwise (PairOK tb ops A)
 self:∀ r∈tr,(∀ t,r.o.dst=some t->t∉r.o.looksAt ops)/\∀ x∈r.o.op.operands,constB x=true
 firm:tr.Pairwise (Firm A)
 all:∀ i,i < ops.size->∃ r∈tr,r.i=i
 anc:ancOk ops A=true
section
variable {tb:Tb} {ops:Array Oper} {A:List (List Nat)} {tr:List Rec} {S0 S9:St} {fr0 F:List Value}
theorem Fix.look (h:Fix P G tb ops A tr S0 fr0 S9 F) {r:Rec} (hr:r∈tr):∀ t∈r.o.looksAt ops,(∀ q∈tr,q.o.dst=some t->r.i∉A.getD q.i [])->F.getD t topV=r.fr.getD t topV:=by
 intro t ht hno
 obtain ⟨a,b,hab⟩:=List.append_of_mem hr
 subst hab
 obtain ⟨X,f,h1,h2⟩:=chain_split h.chain
 obtain ⟨h3,h4,h5⟩:=h2
 have hp:=(List.pairwise_append.1 h.pair).2.1
 have hb:=(List.pairwise_cons.1 hp).1
 have h6:=chain_frame (t:=t) h5 λ q hq hd=>hno q (by simp [hq]) hd ((hb q hq).later t hd ht)
 have hs:=(h.self r hr).1
 have h7:(putA f r.o.dst r.v)[t]? = r.fr[t]?:=by
  rw [<- h4]
  cases hd:r.o.dst with
  | none=>rfl
  | some d=>
    simp only [putA]
    exact List.getElem?_set_ne (λ e:d=t=>hs d hd (e ▸ ht))
 simp only [List.getD,h6,h7]
theorem Fix.one (h:Fix P G tb ops A tr S0 fr0 S9 F) {r q:Rec} (hr:r∈tr) (hq:q∈tr) {t:Nat} (hrd:r.o.dst=some t) (hqd:q.o.dst=some t):r=q:=by
 obtain ⟨a,b,hab⟩:=List.append_of_mem hr
 subst hab
 have hp:=List.pairwise_append.1 h.pair
 have hb:=(List.pairwise_cons.1 hp.2.1).1
 rcases List.mem_append.1 hq with hq | hq
 ·exact absurd hrd ((hp.2.2 q hq r (by simp)).dst t hqd)
 ·rcases List.mem_cons.1 hq with hq | hq
  ·exact hq.symm
  ·exact absurd hqd ((hb q hq).dst t hrd)
theorem Fix.first (h:Fix P G tb ops A tr S0 fr0 S9 F) {r q:Rec} (hr:r∈tr) (hq:q∈tr) {t:Nat} (hd:q.o.dst=some t) (hi:r.i∈A.getD q.i []):r.fr.getD t topV=fr0.getD t topV:=by
 obtain ⟨a,b,hab⟩:=List.append_of_mem hr
 subst hab
 obtain ⟨X,f,h1,h2⟩:=chain_split h.chain
 obtain ⟨h3,h4,h5⟩:=h2
 have hp:=List.pairwise_append.1 h.pair
 have hb:=(List.pairwise_cons.1 hp.2.1).1
 have hqb:q∈b:=by
  rcases List.mem_append.1 hq with hq | hq
  ·exact absurd hi (hp.2.2 q hq r (by simp)).top
  ·rcases List.mem_cons.1 hq with hq | hq
   ·subst hq
    exact absurd (ancOk_anc h.anc (h.ok q hr).op hi).1 (Nat.lt_irrefl _)
   ·exact hq
 have h6:=chain_frame (t:=t) h1 λ x hx hxd=>by
  have:=(hp.2.2 x hx q (by simp [hqb])).dst t hxd
  exact this hd
 rw [<- h4] at h6
 simp only [List.getD,h6]
theorem Fix.dst (h:Fix P G tb ops A tr S0 fr0 S9 F) {r:Rec} (hr:r∈tr) {t:Nat} (ht:r.o.dst=some t):t < F.length->F.getD t topV=r.v:=by
 intro hl
 obtain ⟨a,b,hab⟩:=List.append_of_mem hr
 subst hab
 obtain ⟨X,f,h1,h2⟩:=chain_split h.chain
 obtain ⟨h3,h4,h5⟩:=h2
 have hp:=(List.pairwise_append.1 h.pair).2.1
 have hb:=(List.pairwise_cons.1 hp).1
 have h6:=chain_frame (t:=t) h5 λ q hq hd=>(hb q hq).dst t ht hd
 have h7:=chain_flen h5
 rw [ht] at h6 h7
 simp only [putA] at h6 h7
 rw [List.getElem?_set_self (by simp at h7;omega)] at h6
 simp [List.getD,h6]
theorem Fix.ne (h:Fix P G tb ops A tr S0 fr0 S9 F) {r q:Rec} (hr:r∈tr) (hq:q∈tr) (e:r.i=q.i):r=q:=by
 obtain ⟨a,b,hab⟩:=List.append_of_mem hr
 subst hab
 have hp:=List.pairwise_append.1 h.pair
 have hb:=(List.pairwise_cons.1 hp.2.1).1
 rcases List.mem_append.1 hq with hq | hq
 ·exact absurd e.symm (hp.2.2 q hq r (by simp)).ne
 ·rcases List.mem_cons.1 hq with hq | hq
  ·exact hq.symm
  ·exact absurd e (hb q hq).ne
structure Inv (G:List (Nat×Obj)) (ops:Array Oper) (tr:List Rec) (S0:St) (fr0:List Value) (S9:St) (F:List Value) (N:Nat) (τ0:Nat->Tag) (w0:World)
 (D:Nat->Prop) (tr1 tr2:List Rec) (X:St) (fX:List Value) (τ:Nat->Tag) (a:Act) (w:World):Prop where
 split:tr=tr1++tr2
 c1:Chain S0 fr0 tr1 X fX
 c2:Chain X fX tr2 S9 F
 e1:∀ r∈tr1,r.kd = .eff->D r.i
 e2:∀ r∈tr2,r.kd = .eff->¬ D r.i
 hd:tr2=[]\/∃ r t,tr2=r :: t/\r.kd = .eff
 hr:HR G τ X w
 mk2:∀ r∈tr2,r.kd = .make->D r.i->∃ b o',τ r.S.length = .live b none/\w.heap[b]? = some o'/\OR τ none r.x o'
 no:∀ r∈tr,¬ D r.i->∀ id,r.S.length<=id->id < r.S'.length->τ id = .no
 far:∀ id,S9.length<=id->id < N->τ id = .no
 mk1:∀ r∈tr1,r.kd = .make->¬ D r.i->X[r.S.length]? = some r.x
 size:a.tmps.size=F.length
 val:∀ t,(∀ r∈tr,r.o.dst=some t->D r.i)->VR τ (F.getD t topV) (a.tmps.getD t undef)
 val0:∀ t,(∀ r∈tr,r.o.dst=some t->¬ D r.i)->VR τ (fr0.getD t topV) (a.tmps.getD t undef)
 defers:a.defers=[]
 ext:ExtL S9.length τ0 S0 w0 τ X w
 closed:∀ i o,D i->ops[i]? = some o->∀ e∈o.after,Region.binds .any e=true->D e.on
variable {N:Nat} {τ0:Nat->Tag} {w0:World} {D:Nat->Prop} {tr1 tr2:List Rec} {X:St} {fX:List Value} {τ:Nat->Tag} {a:Act} {w:World}
theorem Inv.before (h:Fix P G tb ops A tr S0 fr0 S9 F) (k:Inv G ops tr S0 fr0 S9 F N τ0 w0 D tr1 tr2 X fX τ a w) {r:Rec} (hr:r∈tr)
 (hrdy:∀ e∈r.o.after,Region.binds .any e=true->D e.on) {j:Nat} (hj:j∈A.getD r.i []):D j:=
 anc_closed h.anc k.closed r.i j r.o (h.ok r hr).op hrdy hj
theorem Inv.slot (h:Fix P G tb ops A tr S0 fr0 S9 F) (k:Inv G ops tr S0 fr0 S9 F N τ0 w0 D tr1 tr2 X fX τ a w) {r:Rec} (hr:r∈tr) (hn:¬ D r.i)
 (hrdy:∀ e∈r.o.after,Region.binds .any e=true->D e.on) {t:Nat} (ht:t∈r.o.looksAt ops):VR τ (r.fr.getD t topV) (a.tmps.getD t undef):=by
 by_cases hex:∃ q∈tr,q.o.dst=some t/\r.i∈A.getD q.i []
 ·obtain ⟨q,hq,hd,hi⟩:=hex
  rw [h.first hr hq hd hi]
  refine k.val0 t λ x hx hxd hxD=>?_
  have : x=q:=h.one hx hq hxd hd
  subst this
  exact hn (anc_closed h.anc k.closed x.i r.i x.o (h.ok x hx).op (λ e he hb=>k.closed x.i x.o hxD (h.ok x hx).op e he hb) hi)
 ·have hex':∀ q∈tr,q.o.dst=some t->r.i∉A.getD q.i []:=λ q hq hd hi=>hex ⟨q,hq,hd,hi⟩
  rw [<- h.look hr t ht hex']
  refine k.val t λ q hq hd=>?_
  obtain ⟨u,v,huv⟩:=List.append_of_mem hr
  have hp:=h.pair
  rw [huv] at hp
  have hq':=hq
  rw [huv] at hq'
  have hp:=List.pairwise_append.1 hp
  have hb:=(List.pairwise_cons.1 hp.2.1).1
  rcases List.mem_append.1 hq' with hq' | hq'
  ·exact k.before h hr hrdy ((hp.2.2 q hq' r (by simp)).data t hd ht)
  ·rcases List.mem_cons.1 hq' with hq' | hq'
   ·subst hq'; exact absurd ht ((h.self q hr).1 t hd)
   ·exact absurd ((hb q hq').later t hd ht) (hex' q hq hd)
theorem Inv.opers (h:Fix P G tb ops A tr S0 fr0 S9 F) (k:Inv G ops tr S0 fr0 S9 F N τ0 w0 D tr1 tr2 X fX τ a w) {r:Rec} (hr:r∈tr) (hn:¬ D r.i)
 (hrdy:∀ e∈r.o.after,Region.binds .any e=true->D e.on):∀ x∈r.o.op.operands,VR τ (aev r.fr x) (a.eval x):=by
 intro x hx
 cases x with
 | tmp t => exact k.slot h hr hn hrdy (mem_looks_op hx)
 | const v => exact .of_flat ((h.self r hr).2 _ hx)
 | global g => exact .top _
 | func f => exact .func .nil .nil
theorem Inv.flen (h:Fix P G tb ops A tr S0 fr0 S9 F) {r:Rec} (hr:r∈tr):F.length=r.fr.length:=by
 obtain ⟨u,v,huv⟩:=List.append_of_mem hr
 have hc:=h.chain
 rw [huv] at hc
 obtain ⟨X,f,h1,h2⟩:=chain_split hc
 obtain ⟨h3,h4,h5⟩:=h2
 rw [chain_flen h5,h4]
 cases hd:r.o.dst with
 | none => rfl
 | some d => simp [putA]
theorem Inv.guard (h:Fix P G tb ops A tr S0 fr0 S9 F) (k:Inv G ops tr S0 fr0 S9 F N τ0 w0 D tr1 tr2 X fX τ a w) {r:Rec} (hr:r∈tr) (hn:¬ D r.i)
 (hrdy:∀ e∈r.o.after,Region.binds .any e=true->D e.on):GR τ ops r.o r.fr a where
 size:=by rw [k.size,Inv.flen h hr]
 val:=λ j want t hg ht=>k.slot h hr hn hrdy (mem_looks_guard hg ht)
theorem Inv.frame (h:Fix P G tb ops A tr S0 fr0 S9 F) (k:Inv G ops tr S0 fr0 S9 F N τ0 w0 D tr1 tr2 X fX τ a w) {r:Rec} (hr:r∈tr) {D':Nat->Prop} (hD:∀ j,D' j↔D j\/j=r.i)
 {τ':Nat->Tag} (hle:TLe τ τ') {v':Value} (hv:VR τ' r.v v') :
 (a.put r.o.dst v').tmps.size=F.length/\(∀ t,(∀ q∈tr,q.o.dst=some t->D' q.i)->VR τ' (F.getD t topV) ((a.put r.o.dst v').tmps.getD t undef))/\(a.put r.o.dst v').defers=[] /\
 (∀ t,(∀ q∈tr,q.o.dst=some t->¬ D' q.i)->VR τ' (fr0.getD t topV) ((a.put r.o.dst v').tmps.getD t undef)):=by
 refine ⟨?_,λ t ht=>?_,?_,λ t ht=>?_⟩
 ·cases hd:r.o.dst with
  | none=>exact k.size
  | some d=>simp [Act.put,k.size]
 ·by_cases hd:r.o.dst=some t
  ·by_cases hl:t < F.length
   ·rw [h.dst hr hd hl,hd]
    have : t < a.tmps.size:=by rw [k.size]; exact hl
    simp [Act.put,this,hv]
   ·have : F.getD t topV=topV:=by simp [List.getD,List.getElem?_eq_none (Nat.le_of_not_lt hl)]
    rw [this]; exact .top _
  ·have h1:=(k.val t λ q hq hqd=>by
    rcases (hD q.i).1 (ht q hq hqd) with h1 | h1
    ·exact h1
    ·have:=h.ne hq hr h1
     subst this
     exact absurd hqd hd).mono hle
   cases hd':r.o.dst with
   | none=>exact h1
   | some d=>
     have : d≠t:=λ e=>hd (by rw [hd',e])
     simpa [Act.put,Array.getElem?_setIfInBounds_ne this] using h1
 ·cases hd:r.o.dst with
  | none=>exact k.defers
  | some d=>simp [Act.put,k.defers]
 ·have h1:=(k.val0 t λ q hq hqd hqD=>ht q hq hqd ((hD q.i).2 (.inl hqD))).mono hle
  cases hd':r.o.dst with
  | none=>exact h1
  | some d=>
    have : d≠t:=λ e=>ht r hr (by rw [hd',e]) ((hD r.i).2 (.inr rfl))
    simpa [Act.put,Array.getElem?_setIfInBounds_ne this] using h1
theorem Inv.closed' (k:Inv G ops tr S0 fr0 S9 F N τ0 w0 D tr1 tr2 X fX τ a w) {r:Rec} (hop:ops[r.i]? = some r.o) {D':Nat->Prop} (hD:∀ j,D' j↔D j\/j=r.i)
 (hrdy:∀ e∈r.o.after,Region.binds .any e=true->D e.on):∀ i o,D' i->ops[i]? = some o->∀ e∈o.after,Region.binds .any e=true->D' e.on:=by
 intro i o hi ho e he hb
 refine (hD e.on).2 (.inl ?_)
 rcases (hD i).1 hi with hi | hi
 ·exact k.closed i o hi ho e he hb
 ·subst hi
  rw [hop] at ho
  cases ho
  exact hrdy e he hb
theorem Inv.quiet (h:Fix P G tb ops A tr S0 fr0 S9 F) (k:Inv G ops tr S0 fr0 S9 F N τ0 w0 D tr1 tr2 X fX τ a w) {r:Rec} (hr:r∈tr) (hn:¬ D r.i) {D':Nat->Prop} (hD:∀ j,D' j↔D j\/j=r.i)
 (hrdy:∀ e∈r.o.after,Region.binds .any e=true->D e.on) (hne:r.kd≠.eff) (hnm:r.kd≠.make) {v':Value} (hv:VR τ r.v v') :
 Inv G ops tr S0 fr0 S9 F N τ0 w0 D' tr1 tr2 X fX τ (a.put r.o.dst v') w:=by
 obtain ⟨f1,f2,f3,f4⟩:=k.frame h hr hD (.refl τ) hv
 have only:∀ q∈tr,q.kd≠r.kd->(D' q.i↔D q.i):=λ q hq hk=>by
  rw [hD]
  constructor
  ·rintro (h1 | h1)
   ·exact h1
   ·have:=h.ne hq hr h1;subst this;exact absurd rfl hk
  ·exact .inl
 have m1:∀ q∈tr1,q∈tr:=λ q hq=>by rw [k.split]; simp [hq]
 have m2:∀ q∈tr2,q∈tr:=λ q hq=>by rw [k.split]; simp [hq]
 refine { k with e1:=?_,e2:=?_,mk2:=?_,no:=?_,mk1:=?_,size:=f1,val:=f2,val0:=f4,defers:=f3,closed:=k.closed' (h.ok r hr).op hD hrdy }
 ·intro q hq he;exact (hD q.i).2 (.inl (k.e1 q hq he))
 ·intro q hq he hd
  exact k.e2 q hq he ((only q (m2 q hq) (by rw [he]; exact hne.symm)).1 hd)
 ·intro q hq hm hd
  exact k.mk2 q hq hm ((only q (m2 q hq) (by rw [hm]; exact hnm.symm)).1 hd)
 ·intro q hq hd;exact k.no q hq λ h1=>hd ((hD q.i).2 (.inl h1))
 ·intro q hq hm hd;exact k.mk1 q hq hm λ h1=>hd ((hD q.i).2 (.inl h1))
end
end Go.AM
namespace Go.AM
open Go
variable {P:Program} {G:List (Nat×Obj)} {ρ:Type}
theorem HR.prefix {τ:Nat->Tag} {S t:St} {w:World} (h:HR G τ (S++t) w):HR G τ S w where
 lt:=h.lt
 inj:=h.inj
 live:=λ i b g o hi ho=>h.live i b g o hi (by
  have hl:i < S.length:=by
   rcases Nat.lt_or_ge i S.length with q | q
   ·exact q
   ·rw [List.getElem?_eq_none q] at ho;cases ho
  rw [List.getElem?_append_left hl]; exact ho)
 dead:=λ i o hi ho=>h.dead i o hi (by
  have hl:i < S.length:=by
   rcases Nat.lt_or_ge i S.length with q | q
   ·exact q
   ·rw [List.getElem?_eq_none q] at ho;cases ho
  rw [List.getElem?_append_left hl]; exact ho)
 zero:=h.zero
 glob:=h.glob
theorem HR.fill {τ:Nat->Tag} {S:St} {w:World} (h:HR G τ S w) {n:Nat} (hn:τ n = .no) {x:AObj} {o:Obj} (hx:∀ y,S[n]? = some y->y=x) (ho:OR τ none x o) :
 HR G (upd τ n (.live w.heap.size none)) S (wnew w o):=by
 have hle:TLe τ (upd τ n (.live w.heap.size none)):=TLe.upd hn
 refine ⟨?_,?_,?_,?_,?_,?_⟩
 ·intro i b g' hi
  have hsz:(wnew w o).heap.size=w.heap.size+1:=by simp [wnew]
  by_cases e:i=n
  ·subst e;rw [upd_self] at hi;cases hi;omega
  ·rw [upd_ne _ _ e] at hi;have:=h.lt i b g' hi;omega
 ·intro i j b g1 g2 hi hj
  by_cases e:i=n
  ·by_cases f:j=n
   ·rw [e,f]
   ·subst e;rw [upd_self] at hi;rw [upd_ne _ _ f] at hj;cases hi
    have:=h.lt j _ g2 hj;omega
  ·by_cases f:j=n
   ·subst f;rw [upd_self] at hj;rw [upd_ne _ _ e] at hi;cases hj
    have:=h.lt i _ g1 hi;omega
   ·rw [upd_ne _ _ e] at hi;rw [upd_ne _ _ f] at hj;exact h.inj i j b g1 g2 hi hj
 ·intro i b g' y hi hy
  by_cases e:i=n
  ·subst e;rw [upd_self] at hi;cases hi
   rw [hx y hy]
   exact ⟨o,wnew_self w o,ho.mono hle⟩
  ·rw [upd_ne _ _ e] at hi
   obtain ⟨o',h1,h2⟩:=h.live i b g' y hi hy
   exact ⟨o',by rw [wnew_old (h.lt i b g' hi)]; exact h1,h2.mono hle⟩
 ·intro i y hi hy
  by_cases e:i=n
  ·subst e;rw [upd_self] at hi;cases hi
  ·rw [upd_ne _ _ e] at hi;exact h.dead i y hi hy
 ·have : n≠0:=λ e=>by rw [e,h.zero] at hn;cases hn
  rw [upd_ne _ _ (by omega)]; exact h.zero
 ·intro p hp
  have hlt:=h.block_lt hp
  refine ⟨by rw [wnew_old hlt]; exact (h.glob p hp).1,?_⟩
  intro i g' hi
  by_cases e:i=n
  ·subst e;rw [upd_self] at hi;injection hi with hb;omega
  ·rw [upd_ne _ _ e] at hi;exact (h.glob p hp).2 i g' hi
theorem ExtL.fill {L:Nat} {τ0 τ:Nat->Tag} {S0 S:St} {w0 w:World} (h:ExtL L τ0 S0 w0 τ S w) {n:Nat} (hn:τ n = .no) (h1:S0.length<=n) (h2:n < L) {o:Obj} :
 ExtL L τ0 S0 w0 (upd τ n (.live w.heap.size none)) S (wnew w o) where
 le:=h.le.trans (TLe.upd hn)
 keep:=λ i hi h0=>by rw [upd_ne _ _ (by omega)]; exact h.keep i hi h0
 later:=λ i hi=>by rw [upd_ne _ _ (by omega)]; exact h.later i hi
 absent:=h.absent
 len:=h.len
 fresh:=λ i b g hi hi' ht=>by
  by_cases e:i=n
  ·subst e;rw [upd_self] at ht;cases ht;exact .inl h.wlen
  ·rw [upd_ne _ _ e] at ht;exact h.fresh i b g hi hi' ht
 conc:=λ b hb hno=>by
  have:=h.wlen
  rw [wnew_old (by omega)]; exact h.conc b hb hno
 wlen:=by have:=h.wlen;simp [wnew]; omega
 os:=h.os
 tape:=h.tape
 output:=h.output
section
variable {tb:Tb} {ops:Array Oper} {A:List (List Nat)} {tr:List Rec} {S0 S9:St} {fr0 F:List Value}
variable {N:Nat} {τ0:Nat->Tag} {w0:World} {D:Nat->Prop} {tr1 tr2:List Rec} {X:St} {fX:List Value} {τ:Nat->Tag} {a:Act} {w:World}
theorem Inv.m1 (k:Inv G ops tr S0 fr0 S9 F N τ0 w0 D tr1 tr2 X fX τ a w):∀ q∈tr1,q∈tr:=λ q hq=>by rw [k.split]; simp [hq]
theorem Inv.m2 (k:Inv G ops tr S0 fr0 S9 F N τ0 w0 D tr1 tr2 X fX τ a w):∀ q∈tr2,q∈tr:=λ q hq=>by rw [k.split]; simp [hq]
theorem Inv.next (h:Fix P G tb ops A tr S0 fr0 S9 F) (k:Inv G ops tr S0 fr0 S9 F N τ0 w0 D tr1 tr2 X fX τ a w) {r:Rec} (hr:r∈tr2)
 (hrdy:∀ e∈r.o.after,Region.binds .any e=true->D e.on) (hk:r.kd = .eff\/r.kd = .read):∃ t,tr2=r :: t/\r.kd = .eff:=by
 rcases k.hd with h0 | ⟨q,t,h0,hq⟩
 ·rw [h0] at hr;simp at hr
 ·rw [h0] at hr
  rcases List.mem_cons.1 hr with e | hr'
  ·subst e;exact ⟨t,h0,hq⟩
  ·exfalso
   have hp:=h.pair
   rw [k.split,h0] at hp
   have hb:=(List.pairwise_cons.1 (List.pairwise_append.1 hp).2.1).1
   have:=k.before h (k.m2 r (by rw [h0]; simp [hr'])) hrdy ((hb r hr').eff hq hk)
   exact k.e2 q (by rw [h0]; simp) hq this
theorem Inv.read (h:Fix P G tb ops A tr S0 fr0 S9 F) (k:Inv G ops tr S0 fr0 S9 F N τ0 w0 D tr1 tr2 X fX τ a w) {r:Rec} (hr:r∈tr) (hn:¬ D r.i)
 (hrdy:∀ e∈r.o.after,Region.binds .any e=true->D e.on) (hk:r.kd = .read):∃ S,QSim P G r.o (aev r.fr) S r.v/\HR G τ S w:=by
 have hr1:r∈tr1:=by
  rw [k.split] at hr
  rcases List.mem_append.1 hr with hr | hr
  ·exact hr
  ·obtain ⟨t,_,he⟩:=k.next h hr hrdy (.inr hk)
   rw [hk] at he;cases he
 obtain ⟨_,hm,hq⟩:=(h.ok r hr).read hk
 obtain ⟨u,v,huv⟩:=List.append_of_mem hr1
 have hc1:=k.c1
 rw [huv] at hc1
 obtain ⟨Y,f,h1,h2,h3,h4⟩:=chain_split hc1
 have hok:∀ q∈v,RecOK P G tb ops q:=λ q hq=>h.ok q (k.m1 q (by rw [huv]; simp [hq]))
 -- the last effect behind it, if there is one
 have key:∀ (v:List Rec) (Z:St) (g:List Value),Chain Z g v X fX->(∀ q∈v,RecOK P G tb ops q)->(∀ q∈v,q.kd = .eff->r.m q.S'=some (r.v,q.S'))->r.m Z=some (r.v,Z) ->
  ∃ S t,X=S++t/\r.m S=some (r.v,S):=by
  intro v
  induction v with
  | nil=>intro Z g hc _ _ hz;exact ⟨Z,[],by rw [hc.1]; simp,hz⟩
  | cons q v ih=>
    intro Z g hc hok hef hz
    obtain ⟨c1,c2,c3⟩:=hc
    have hqok:=hok q (by simp)
    by_cases hany:∃ q'∈v,q'.kd = .eff
    ·-- some effect comes later still: go on
     have : ∀ (v:List Rec) (Z:St) (g:List Value),Chain Z g v X fX->(∀ q∈v,RecOK P G tb ops q)->(∀ q∈v,q.kd = .eff->r.m q.S'=some (r.v,q.S'))->(∃ q∈v,q.kd = .eff) ->
      ∃ S t,X=S++t/\r.m S=some (r.v,S):=by
      intro v
      induction v with
      | nil=>intro Z g _ _ _ ⟨q,hq,_⟩; simp at hq
      | cons q v ih2=>
        intro Z g hc hok hef hany
        obtain ⟨c1,c2,c3⟩:=hc
        by_cases hany2:∃ q'∈v,q'.kd = .eff
        ·exact ih2 _ _ c3 (λ q hq=>hok q (by simp [hq])) (λ q hq=>hef q (by simp [hq])) hany2
        ·obtain ⟨q',hq',he⟩:=hany
         rcases List.mem_cons.1 hq' with rfl | hq'
         ·obtain ⟨⟨t,ht⟩,_⟩:=chain_quiet c3 (λ q hq=>hok q (by simp [hq])) (λ q hq he=>hany2 ⟨q,hq,he⟩)
          exact ⟨_,t,ht,hef q' (by simp) he⟩
         ·exact absurd ⟨q',hq',he⟩ hany2
     exact this v _ _ c3 (λ q hq=>hok q (by simp [hq])) (λ q hq=>hef q (by simp [hq])) hany
    ·obtain ⟨⟨t,ht⟩,_⟩:=chain_quiet c3 (λ q hq=>hok q (by simp [hq])) (λ q hq he=>hany ⟨q,hq,he⟩)
     by_cases hqe:q.kd = .eff
     ·exact ⟨_,t,ht,hef q (by simp) hqe⟩
     ·obtain ⟨⟨t1,ht1⟩,_⟩:=chain_quiet (a:=[q]) (S:=Z) (fr:=g) (S':=q.S') (fr':=putA g q.o.dst q.v) ⟨c1,c2,rfl,rfl⟩ (λ q' hq'=>by simp at hq'; subst hq'; exact hqok)
       (λ q' hq'=>by simp at hq'; subst hq'; exact hqe)
      exact ⟨Z,t1++t,by rw [ht,ht1]; simp,hz⟩
 have hSr:r.S'=r.S:=((h.ok r hr).read hk).1
 obtain ⟨S,t,hX,hm2⟩:=key v r.S' _ h4 hok (by
  intro q hq he
  have hf:=h.firm
  rw [k.split,huv] at hf
  have hf1:=(List.pairwise_append.1 hf).1
  have hf2:=(List.pairwise_cons.1 (List.pairwise_append.1 hf1).2.1).1 q hq
  refine hf2 hk he λ hm'=>?_
  have hqD:=k.e1 q (by rw [huv]; simp [hq]) he
  have hqtr:=k.m1 q (by rw [huv]; simp [hq])
  exact hn (anc_closed h.anc k.closed q.i r.i q.o (h.ok q hqtr).op (k.closed q.i q.o hqD (h.ok q hqtr).op) hm')) (by rw [hSr]; exact hm)
 have h9:=k.hr
 rw [hX] at h9
 exact ⟨S,hq S hm2,h9.prefix⟩
theorem Fix.apart (h:Fix P G tb ops A tr S0 fr0 S9 F) {r q:Rec} (hr:r∈tr) (hq:q∈tr) (hne:r≠q):r.S'.length<=q.S.length\/q.S'.length<=r.S.length:=by
 obtain ⟨u,v,huv⟩:=List.append_of_mem hr
 have hc:=h.chain
 rw [huv] at hc hq
 have hok:∀ x∈u++r :: v,RecOK P G tb ops x:=λ x hx=>h.ok x (by rw [huv]; exact hx)
 obtain ⟨Y,f,h1,h2,h3,h4⟩:=chain_split hc
 have behind:∀ {v:List Rec} {Z Z':St} {g g':List Value},Chain Z g v Z' g'->(∀ x∈v,RecOK P G tb ops x)->q∈v->Z.length<=q.S.length/\q.S'.length<=Z'.length:=by
  intro v Z Z' g g' hc hok hq
  obtain ⟨v1,v2,hv⟩:=List.append_of_mem hq
  rw [hv] at hc hok
  obtain ⟨Y2,f2,k1,k2,k3,k4⟩:=chain_split hc
  have e1:=chain_len k1 λ x hx=>hok x (by simp [hx])
  have e2:=chain_len k4 λ x hx=>hok x (by simp [hx])
  rw [<- k2] at e1
  exact ⟨e1,e2⟩
 rcases List.mem_append.1 hq with hq | hq
 ·right
  have:=(behind h1 (λ x hx=>hok x (by simp [hx])) hq).2
  rw [h2]; exact this
 ·rcases List.mem_cons.1 hq with hq | hq
  ·exact absurd hq.symm hne
  ·exact .inl (behind h4 (λ x hx=>hok x (by simp [hx])) hq).1
theorem Fix.within (h:Fix P G tb ops A tr S0 fr0 S9 F) {r:Rec} (hr:r∈tr):S0.length<=r.S.length/\r.S'.length<=S9.length:=by
 obtain ⟨u,v,huv⟩:=List.append_of_mem hr
 have hc:=h.chain
 rw [huv] at hc
 obtain ⟨Y,f,h1,h2,h3,h4⟩:=chain_split hc
 have e1:=chain_len h1 λ x hx=>h.ok x (by rw [huv]; simp [hx])
 have e2:=chain_len h4 λ x hx=>h.ok x (by rw [huv]; simp [hx])
 rw [<- h2] at e1
 exact ⟨e1,e2⟩
theorem Inv.make (h:Fix P G tb ops A tr S0 fr0 S9 F) (k:Inv G ops tr S0 fr0 S9 F N τ0 w0 D tr1 tr2 X fX τ a w) {r:Rec} (hr:r∈tr) (hn:¬ D r.i) {D':Nat->Prop} (hD:∀ j,D' j↔D j\/j=r.i)
 (hrdy:∀ e∈r.o.after,Region.binds .any e=true->D e.on) (hk:r.kd = .make) {o':Obj} (ho:OR τ none r.x o') :
 Inv G ops tr S0 fr0 S9 F N τ0 w0 D' tr1 tr2 X fX (upd τ r.S.length (.live w.heap.size none)) (a.put r.o.dst (r.mkv w.heap.size)) (wnew w o'):=by
 obtain ⟨hS,hv,hA⟩:=(h.ok r hr).make hk
 have hlen:r.S'.length=r.S.length+1:=by rw [hS]; simp
 have hno:τ r.S.length = .no:=k.no r hr hn _ (Nat.le_refl _) (by omega)
 have hle:TLe τ (upd τ r.S.length (.live w.heap.size none)):=TLe.upd hno
 obtain ⟨f1,f2,f3,f4⟩:=k.frame h hr hD hle (v':=r.mkv w.heap.size) (by rw [hv]; exact hA.val _ _ _ (upd_self _ _ _))
 obtain ⟨w1,w2⟩:=h.within hr
 have hx:∀ y,X[r.S.length]? = some y->y=r.x:=by
  intro y hy
  have hr':=hr
  rw [k.split] at hr'
  rcases List.mem_append.1 hr' with h1 | h1
  ·rw [k.mk1 r h1 hk hn] at hy;cases hy;rfl
  ·exfalso
   obtain ⟨u,v,huv⟩:=List.append_of_mem h1
   have hc:=k.c2
   rw [huv] at hc
   obtain ⟨Y,f,c1,c2,_⟩:=chain_split hc
   have:=chain_len c1 λ x hx=>h.ok x (k.m2 x (by rw [huv]; simp [hx]))
   rw [List.getElem?_eq_none (by rw [c2]; exact this)] at hy
   cases hy
 have only:∀ q∈tr,q≠r->(D' q.i↔D q.i):=λ q hq hne=>by
  rw [hD]
  exact ⟨λ h1=>h1.elim id λ h1=>absurd (h.ne hq hr h1) hne,.inl⟩
 refine { k with e1:=?_,e2:=?_,hr:=k.hr.fill hno hx ho,mk2:=?_,no:=?_,far:=?_,mk1:=?_,size:=f1,val:=f2,val0:=f4,defers:=f3,ext:=k.ext.fill hno w1 (by omega),closed:=k.closed' (h.ok r hr).op hD hrdy }
 ·intro q hq he;exact (hD q.i).2 (.inl (k.e1 q hq he))
 ·intro q hq he hd
  exact k.e2 q hq he ((only q (k.m2 q hq) (λ e=>by rw [e,hk] at he;cases he)).1 hd)
 ·intro q hq hm hd
  by_cases e:q=r
  ·subst e
   exact ⟨w.heap.size,o',upd_self _ _ _,wnew_self _ _,ho.mono hle⟩
  ·obtain ⟨b,o2,h1,h2,h3⟩:=k.mk2 q hq hm ((only q (k.m2 q hq) e).1 hd)
   have hap:=h.apart (k.m2 q hq) hr e
   have hqS:q.S'.length=q.S.length+1:=by rw [((h.ok q (k.m2 q hq)).make hm).1]; simp
   exact ⟨b,o2,by rw [upd_ne _ _ (by omega)]; exact h1,by rw [wnew_old (k.hr.lt _ _ _ h1)]; exact h2,h3.mono hle⟩
 ·intro q hq hd id h1 h2
  have e:q≠r:=λ e=>hd ((hD q.i).2 (.inr (by rw [e])))
  have hap:=h.apart hq hr e
  rw [upd_ne _ _ (by omega)]
  exact k.no q hq (λ h3=>hd ((hD q.i).2 (.inl h3))) id h1 h2
 ·intro id h1 h2
  rw [upd_ne _ _ (by omega)]
  exact k.far id h1 h2
 ·intro q hq hm hd;exact k.mk1 q hq hm λ h1=>hd ((hD q.i).2 (.inl h1))
theorem next_split:∀ (l:List Rec),∃ t u,l=t++u/\(∀ q∈t,q.kd≠.eff)/\(u=[]\/∃ r v,u=r :: v/\r.kd = .eff)
 | [] => ⟨[], [], rfl, λ q hq => by simp at hq, .inl rfl⟩
 | r :: l => by
   by_cases h:r.kd = .eff
   ·exact ⟨[],r :: l,rfl,λ q hq=>by simp at hq,.inr ⟨r,l,rfl,h⟩⟩
   ·obtain ⟨t,u,h1,h2,h3⟩:=next_split l
    exact ⟨r :: t,u,by rw [h1]; rfl,λ q hq=>by
     rcases List.mem_cons.1 hq with rfl | hq
     ·exact h
     ·exact h2 q hq,h3⟩
theorem Inv.eff (h:Fix P G tb ops A tr S0 fr0 S9 F) (k:Inv G ops tr S0 fr0 S9 F N τ0 w0 D tr1 tr2 X fX τ a w) {r:Rec} (hr:r∈tr) (hn:¬ D r.i) {D':Nat->Prop} (hD:∀ j,D' j↔D j\/j=r.i)
 (hrdy:∀ e∈r.o.after,Region.binds .any e=true->D e.on) (hk:r.kd = .eff) :
 r.S=X/\∀ {τ':Nat->Tag} {v':Value} {w':World},VR τ' r.v v'->HR G τ' r.S' w'->Ext τ X w τ' r.S' w' ->
  ∃ tr1' tr2' X' fX',Inv G ops tr S0 fr0 S9 F N τ0 w0 D' tr1' tr2' X' fX' τ' (a.put r.o.dst v') w':=by
 have hr2:r∈tr2:=by
  have hr':=hr
  rw [k.split] at hr'
  rcases List.mem_append.1 hr' with h1 | h1
  ·exact absurd (k.e1 r h1 hk) hn
  ·exact h1
 obtain ⟨rest,htr2,_⟩:=k.next h hr2 hrdy (.inl hk)
 have hc2:=k.c2
 rw [htr2] at hc2
 obtain ⟨c1,c2,c3⟩:=hc2
 refine ⟨c1,fun {τ' v' w'} hv hh hext=>?_⟩
 obtain ⟨t,u,htu,hte,hu⟩:=next_split rest
 rw [htu] at c3
 obtain ⟨X',fX',c4,c5⟩:=chain_split c3
 have hrest:∀ q∈rest,q∈tr:=λ q hq=>k.m2 q (by rw [htr2]; simp [hq])
 have ht:∀ q∈t,q∈tr:=λ q hq=>hrest q (by rw [htu]; simp [hq])
 have hu':∀ q∈u,q∈tr:=λ q hq=>hrest q (by rw [htu]; simp [hq])
 obtain ⟨⟨ex,hex⟩,hmk⟩:=chain_quiet c4 (λ q hq=>h.ok q (ht q hq)) hte
 obtain ⟨f1,f2,f3,f4⟩:=k.frame h hr hD hext.le hv
 obtain ⟨w1,w2⟩:=h.within hr
 have hXl:r.S.length=X.length:=by rw [c1]
 have hrl:r.S.length<=r.S'.length:=(h.ok r hr).len
 -- what stands behind r
 have far:∀ q∈rest,r.S'.length<=q.S.length:=by
  intro q hq
  obtain ⟨v1,v2,hvv⟩:=List.append_of_mem hq
  rw [<- htu,hvv] at c3
  obtain ⟨Y,f,k1,k2,_⟩:=chain_split c3
  have:=chain_len k1 λ x hx=>h.ok x (hrest x (by rw [hvv]; simp [hx]))
  rw [k2]; exact this
 have ne:∀ q∈rest,q≠r:=λ q hq e=>by
  have:=far q hq
  have hp:=h.pair
  rw [k.split,htr2] at hp
  have:=(List.pairwise_cons.1 (List.pairwise_append.1 hp).2.1).1 q hq
  exact this.ne (by rw [e])
 have ne1:∀ q∈tr1,q≠r:=λ q hq e=>by
  have hp:=h.pair
  rw [k.split,htr2] at hp
  exact ((List.pairwise_append.1 hp).2.2 q hq r (by simp)).ne (by rw [e])
 have only:∀ q∈tr,q≠r->(D' q.i↔D q.i):=λ q hq hne=>by
  rw [hD]
  exact ⟨λ h1=>h1.elim id λ h1=>absurd (h.ne hq hr h1) hne,.inl⟩
 -- a later block that lives already is left alone
 have kept:∀ q∈rest,q.kd = .make->D q.i->∃ b o',τ' q.S.length = .live b none/\w'.heap[b]? = some o'/\OR τ' none q.x o':=by
  intro q hq hm hd
  obtain ⟨b,o',h1,h2,h3⟩:=k.mk2 q (by rw [htr2]; simp [hq]) hm hd
  have hf:=far q hq
  refine ⟨b,o',by rw [hext.later _ hf]; exact h1,?_,h3.mono hext.le⟩
  rw [hext.conc b (k.hr.lt _ _ _ h1) λ i g hi hlv=>?_]
  ·exact h2
  ·have:=k.hr.inj i q.S.length b g none hlv h1
   omega
 have unborn:∀ q∈rest,¬ D q.i->∀ id,q.S.length<=id->id < q.S'.length->τ' id = .no:=by
  intro q hq hd id h1 h2
  have hf:=far q hq
  rw [hext.later id (by omega)]
  exact k.no q (hrest q hq) hd id h1 h2
 have hX'l:r.S'.length<=X'.length:=by rw [hex]; simp
 have hX'9:X'.length<=S9.length:=chain_len c5 λ q hq=>h.ok q (hu' q hq)
 -- the new blocks up to the next effect
 have born:∀ (t:List Rec) (Y Z:St) (g g':List Value),Chain Y g t Z g'->(∀ q∈t,RecOK P G tb ops q)->(∀ q∈t,q.kd≠.eff)->∀ id y,Y.length<=id->Z[id]? = some y ->
  ∃ q∈t,q.kd = .make/\id=q.S.length/\y=q.x:=by
  intro t
  induction t with
  | nil=>
    intro Y Z g g' hc _ _ id y h1 h2
    rw [hc.1,List.getElem?_eq_none h1] at h2;cases h2
  | cons q t ih=>
    intro Y Z g g' hc hok hne id y h1 h2
    obtain ⟨d1,d2,d3⟩:=hc
    have hqok:=hok q (by simp)
    by_cases hlt:q.S'.length<=id
    ·obtain ⟨p,hp,h3⟩:=ih _ _ _ _ d3 (λ x hx=>hok x (by simp [hx])) (λ x hx=>hne x (by simp [hx])) id y hlt h2
     exact ⟨p,by simp [hp],h3⟩
    ·refine ⟨q,by simp,?_⟩
     have hqm:q.kd = .make:=by
      cases hkq:q.kd with
      | make=>rfl
      | none=>exfalso;rw [(hqok.gno hkq).1,d1] at hlt;exact hlt h1
      | pure=>exfalso;rw [(hqok.pure hkq).1,d1] at hlt;exact hlt h1
      | read=>exfalso;rw [(hqok.read hkq).1,d1] at hlt;exact hlt h1
      | eff=>exact absurd hkq (hne q (by simp))
     have hqS:=(hqok.make hqm).1
     have hid:id=q.S.length:=by
      rw [hqS] at hlt;simp at hlt;rw [d1] at hlt ⊢; omega
     obtain ⟨_,hm⟩:=chain_quiet (a:=q :: t) ⟨d1,d2,d3⟩ hok hne
     have:=hm q (by simp) hqm
     rw [<- hid,h2] at this
     cases this
     exact ⟨hqm,hid,rfl⟩
 have hHR:HR G τ' X' w':=by
  refine ⟨hh.lt,hh.inj,λ i b g o hi ho=>?_,λ i o hi ho=>?_,hh.zero,hh.glob⟩
  ·by_cases hl:i < r.S'.length
   ·rw [hex,List.getElem?_append_left hl] at ho
    exact hh.live i b g o hi ho
   ·obtain ⟨q,hq,hm,hid,hy⟩:=born t _ _ _ _ c4 (λ q hq=>h.ok q (ht q hq)) hte i o (by omega) ho
    have hqr:q∈rest:=by rw [htu]; simp [hq]
    by_cases hd:D q.i
    ·obtain ⟨b2,o2,e1,e2,e3⟩:=kept q hqr hm hd
     rw [<- hid,hi] at e1
     cases e1
     rw [hy]
     exact ⟨o2,e2,e3⟩
    ·have hqS:q.S'.length=q.S.length+1:=by rw [((h.ok q (ht q hq)).make hm).1]; simp
     have:=unborn q hqr hd i (by omega) (by omega)
     rw [this] at hi;cases hi
  ·by_cases hl:i < r.S'.length
   ·rw [hex,List.getElem?_append_left hl] at ho
    exact hh.dead i o hi ho
   ·obtain ⟨q,hq,hm,hid,hy⟩:=born t _ _ _ _ c4 (λ q hq=>h.ok q (ht q hq)) hte i o (by omega) ho
    have hqr:q∈rest:=by rw [htu]; simp [hq]
    by_cases hd:D q.i
    ·obtain ⟨b2,o2,e1,e2,e3⟩:=kept q hqr hm hd
     rw [<- hid,hi] at e1;cases e1
    ·have hqS:q.S'.length=q.S.length+1:=by rw [((h.ok q (ht q hq)).make hm).1]; simp
     have:=unborn q hqr hd i (by omega) (by omega)
     rw [this] at hi;cases hi
 refine ⟨tr1++r :: t,u,X',fX',?_⟩
 refine { split:=by rw [k.split,htr2,htu]; simp,c1:=chain_join k.c1 ⟨c1,c2,c4⟩,c2:=c5,e1:=?_,e2:=?_,hd:=hu,hr:=hHR,mk2:=?_,no:=?_,far:=?_,mk1:=?_,size:=f1,val:=f2,val0:=f4,defers:=f3, ext:=?_,closed:=k.closed' (h.ok r hr).op hD hrdy }
 ·intro q hq he
  rcases List.mem_append.1 hq with hq | hq
  ·exact (hD q.i).2 (.inl (k.e1 q hq he))
  ·rcases List.mem_cons.1 hq with hq | hq
   ·subst hq;exact (hD q.i).2 (.inr rfl)
   ·exact absurd he (hte q hq)
 ·intro q hq he hd
  have hqr:q∈rest:=by rw [htu]; simp [hq]
  exact k.e2 q (by rw [htr2]; simp [hqr]) he ((only q (hrest q hqr) (ne q hqr)).1 hd)
 ·intro q hq hm hd
  have hqr:q∈rest:=by rw [htu]; simp [hq]
  exact kept q hqr hm ((only q (hrest q hqr) (ne q hqr)).1 hd)
 ·intro q hq hd id h1 h2
  have hqD:¬ D q.i:=λ h3=>hd ((hD q.i).2 (.inl h3))
  have hq':=hq
  rw [k.split,htr2] at hq'
  rcases List.mem_append.1 hq' with hq1 | hq1
  ·have h0:=k.no q hq hqD id h1 h2
   have hap:=h.apart hq hr (ne1 q hq1)
   rcases hap with hap | hap
   ·exact hext.keep id (.inl (by omega)) h0
   ·exact hext.keep id (.inr (by omega)) h0
  ·rcases List.mem_cons.1 hq1 with hq1 | hq1
   ·exact absurd ((hD q.i).2 (.inr (by rw [hq1]))) hd
   ·exact unborn q hq1 hqD id h1 h2
 ·intro id h1 h2
  rw [hext.later id (by omega)]
  exact k.far id h1 h2
 ·intro q hq hm hd
  have hqD:¬ D q.i:=λ h3=>hd ((hD q.i).2 (.inl h3))
  rcases List.mem_append.1 hq with hq1 | hq1
  ·have h0:=k.mk1 q hq1 hm hqD
   have hl:q.S.length < X.length:=by
    rcases Nat.lt_or_ge q.S.length X.length with z | z
    ·exact z
    ·rw [List.getElem?_eq_none z] at h0;cases h0
   have hqS:q.S'.length=q.S.length+1:=by rw [((h.ok q (k.m1 q hq1)).make hm).1]; simp
   have hno:=k.no q (k.m1 q hq1) hqD q.S.length (Nat.le_refl _) (by omega)
   have:=hext.absent _ hl hno
   rw [hex,List.getElem?_append_left (by omega),this,h0]
  ·rcases List.mem_cons.1 hq1 with hq1 | hq1
   ·rw [hq1,hk] at hm;cases hm
   ·exact hmk q hq1 hm
 ·exact k.ext.step hext (by have:=chain_len k.c1 λ q hq=>h.ok q (k.m1 q hq); exact this) w2 λ i hi=>by rw [hex,List.getElem?_append_left hi]
end
end Go.AM
namespace Go.AM
open Go
variable {P:Program} {G:List (Nat×Obj)} {ρ:Type}
theorem ready_iff {ops:Array Oper} {listed:Array Bool} {i:Nat}:i∈Region.ready .any ops listed ↔
 i < ops.size/\listed.getD i true=false/\∃ o,ops[i]? = some o/\∀ e∈o.after,Region.binds .any e=true->listed.getD e.on false=true:=by
 unfold Region.ready
 rw [List.mem_filter]
 simp only [List.mem_range,Bool.and_eq_true,Bool.not_eq_true']
 constructor
 ·rintro ⟨h1,h2,h3⟩
  refine ⟨h1,h2,?_⟩
  cases ho:ops[i]? with
  | none=>rw [ho] at h3;cases h3
  | some o=>
    rw [ho] at h3
    simp only [Option.map_some,Option.getD_some] at h3
    refine ⟨o,rfl,λ e he hb=>?_⟩
    have:=Array.all_eq_true'.1 h3 e he
    simpa [hb] using this
 ·rintro ⟨h1,h2,o,ho,h3⟩
  refine ⟨h1,h2,?_⟩
  rw [ho]
  simp only [Option.map_some,Option.getD_some]
  refine Array.all_eq_true'.2 λ e he=>?_
  cases hb:Region.binds .any e with
  | false=>rfl
  | true=>simpa [hb] using h3 e he hb
section
variable {tb:Tb} {ops:Array Oper} {A:List (List Nat)} {tr:List Rec} {S0 S9:St} {fr0 F:List Value}
variable {N:Nat} {τ0:Nat->Tag} {w0:World}
theorem any_of (h:Fix P G tb ops A tr S0 fr0 S9 F) (_hN:S9.length<=N) {Q:Exit->Act->World->Prop}
 (hQ:∀ τ' a' w',Rl G N τ' F S9 a' w'->Ext τ0 S0 w0 τ' S9 w'->Q .normal a' w') :
 ∀ (fuel:Nat) (U:List Nat) (listed:Array Bool) (tr1 tr2:List Rec) (X:St) (fX:List Value) (τ:Nat->Tag) (a:Act) (w:World),
  U.length=fuel->U.Nodup->listed.size=ops.size->(∀ i,i < ops.size->(i∈U↔listed.getD i true=false))->(∀ i∈U,i < ops.size) ->
  Inv G ops tr S0 fr0 S9 F N τ0 w0 (λ i=>i < ops.size/\listed.getD i true=true) tr1 tr2 X fX τ a w->wpAny P .any ops Q fuel listed a w:=by
 have getD_in:∀ (L:Array Bool) (i:Nat) (b c:Bool),L.size=ops.size->i < ops.size->L.getD i b=L.getD i c:=by
  intro L i b c h1 h2
  have : i < L.size:=by omega
  simp [Array.getD,this]
 intro fuel
 induction fuel with
 | zero =>
   intro U listed tr1 tr2 X fX τ a w hU hnd hsz hUl hUn k
   have hUe:U=[]:=List.eq_nil_of_length_eq_zero hU
   have hall:∀ i,i < ops.size->listed.getD i true=true:=by
    intro i hi
    cases hb:listed.getD i true with
    | true=>rfl
    | false=>have:=(hUl i hi).2 hb;rw [hUe] at this;simp at this
   refine ⟨?_,?_⟩
   ·apply List.eq_nil_iff_forall_not_mem.2
    intro i hi
    obtain ⟨h1,h2,_⟩:=ready_iff.1 hi
    rw [hall i h1] at h2;cases h2
   ·-- all done
    have hD:∀ r∈tr,r.i < ops.size/\listed.getD r.i true=true:=by
     intro r hr
     have : r.i < ops.size:=by
      rcases Nat.lt_or_ge r.i ops.size with z | z
      ·exact z
      ·have:=(h.ok r hr).op;rw [Array.getElem?_eq_none z] at this;cases this
     exact ⟨this,hall _ this⟩
    have htr2:tr2=[]:=by
     rcases k.hd with e | ⟨r,t,e,he⟩
     ·exact e
     ·exfalso
      have hr2:r∈tr2:=by rw [e]; simp
      exact k.e2 r hr2 he (hD r (k.m2 r hr2))
    have hc:=k.c2
    rw [htr2] at hc
    obtain ⟨hX,_⟩:=hc
    have hr:=k.hr
    have hx:=k.ext
    rw [<- hX] at hr hx
    refine hQ τ a w ⟨⟨k.size,λ t u hu=>?_⟩,k.defers,hr,k.far⟩ hx
    have:=k.val t λ r hr _=>hD r hr
    simp only [List.getD,hu,Option.getD_some] at this
    exact this
 | succ fuel ih =>
   intro U listed tr1 tr2 X fX τ a w hU hnd hsz hUl hUn k
   have hne:Region.ready .any ops listed≠[]:=by
    have hex:∀ n,n < ops.size->listed.getD n true=false->∃ j,j∈Region.ready .any ops listed:=by
     intro n
     induction n using Nat.strongRecOn with
     | _ n ihn=>
       intro hn hl
       obtain ⟨o,ho⟩:∃ o,ops[n]? = some o:=⟨ops[n],Array.getElem?_eq_getElem hn⟩
       by_cases hall:∀ e∈o.after,Region.binds .any e=true->listed.getD e.on false=true
       ·exact ⟨n,ready_iff.2 ⟨hn,hl,o,ho,hall⟩⟩
       ·have : ∃ e∈o.after,Region.binds .any e=true/\listed.getD e.on false=false:=by
         apply Classical.byContradiction
         intro hno
         refine hall λ e he hb=>?_
         cases hb2:listed.getD e.on false with
         | true=>rfl
         | false=>exact absurd ⟨e,he,hb,hb2⟩ hno
        obtain ⟨e,he,hb,hb2⟩:=this
        have hlt:=(ancOk_anc h.anc ho (ancOk_edge h.anc ho he hb)).1
        exact ihn e.on hlt (by omega) (by rw [getD_in listed e.on true false hsz (by omega)]; exact hb2)
    cases U with
    | nil=>simp at hU
    | cons n U'=>
      have hn:=hUn n (by simp)
      obtain ⟨j,hj⟩:=hex n hn ((hUl n hn).1 (by simp))
      intro e;rw [e] at hj;simp at hj
   refine ⟨λ e=>absurd e hne,λ i hi=>?_⟩
   obtain ⟨hin,hil,o,ho,hed⟩:=ready_iff.1 hi
   obtain ⟨r,hr,hri⟩:=h.all i hin
   subst hri
   have hop:=(h.ok r hr).op
   rw [hop] at ho
   cases ho
   have hrdy:∀ e∈r.o.after,Region.binds .any e=true->e.on < ops.size/\listed.getD e.on true=true:=by
    intro e he hb
    have hlt:=(ancOk_anc h.anc hop (ancOk_edge h.anc hop he hb)).1
    have hlt':e.on < ops.size:=by omega
    exact ⟨hlt',by rw [getD_in listed e.on true false hsz hlt']; exact hed e he hb⟩
   have hn:¬ (r.i < ops.size/\listed.getD r.i true=true):=λ q=>by rw [q.2] at hil;cases hil
   have hiU:r.i∈U:=(hUl r.i hin).2 hil
   have hget:∀ j,(listed.setIfInBounds r.i true).getD j true=if j=r.i then true else listed.getD j true:=by
    intro j
    by_cases e:j=r.i
    ·subst e
     have : r.i < listed.size:=by omega
     simp [Array.getD,this]
    ·rw [if_neg e]
     simp only [Array.getD_eq_getD_getElem?]
     rw [Array.getElem?_setIfInBounds_ne (λ q=>e q.symm)]
   have hD:∀ j,(j < ops.size/\(listed.setIfInBounds r.i true).getD j true=true)↔(j < ops.size/\listed.getD j true=true)\/j=r.i:=by
    intro j
    rw [hget]
    constructor
    ·rintro ⟨h1,h2⟩
     by_cases e:j=r.i
     ·exact .inr e
     ·rw [if_neg e] at h2;exact .inl ⟨h1,h2⟩
    ·rintro (⟨h1,h2⟩ | e)
     ·refine ⟨h1,?_⟩
      split
      ·rfl
      ·exact h2
     ·subst e;exact ⟨hin,if_pos rfl⟩
   have step:∀ (tr1 tr2:List Rec) (X:St) (fX:List Value) (τ':Nat->Tag) (a':Act) (w':World),
    Inv G ops tr S0 fr0 S9 F N τ0 w0 (λ j=>j < ops.size/\(listed.setIfInBounds r.i true).getD j true=true) tr1 tr2 X fX τ' a' w'->wpAny P .any ops Q fuel (listed.setIfInBounds r.i true) a' w':=by
    intro tr1 tr2 X fX τ' a' w' k'
    refine ih (U.erase r.i) _ tr1 tr2 X fX τ' a' w' ?_ (hnd.erase _) (by simpa using hsz) ?_ (λ j hj=>hUn j (List.mem_of_mem_erase hj)) k'
    ·rw [List.length_erase_of_mem hiU]; omega
    ·intro j hj
     rw [hnd.mem_erase_iff,hUl j hj,hget]
     by_cases e:j=r.i
     ·subst e;simp
     ·simp [e]
   have hgr:=k.guard h hr hn hrdy
   have hops:=k.opers h hr hn hrdy
   unfold wpOp
   rw [hop]
   dsimp only
   cases hkd:r.kd with
   | none=>
     obtain ⟨hS,hv,hw⟩:=(h.ok r hr).gno hkd
     rw [hw τ a hgr]
     simp only [Bool.false_eq_true,if_false]
     exact step _ _ _ _ _ _ _ (k.quiet h hr hn hD hrdy (by rw [hkd]; simp) (by rw [hkd]; simp) (by rw [hv]; exact .tuple .nil))
   | pure=>
     have hw:=(h.ok r hr).gyes (by rw [hkd]; simp) τ a hgr
     rw [hw]
     simp only [if_true]
     obtain ⟨_,hq⟩:=(h.ok r hr).pure hkd
     obtain ⟨v',h1,h2⟩:=hq X τ a w hops k.hr
     exact .inl (OS.value (R:=λ v w'=>v=v'/\w'=w) h1 ⟨rfl,rfl⟩ _ _ λ v w' he=>by
      obtain ⟨rfl,rfl⟩:v=v'/\w'=w:=he
      exact step _ _ _ _ _ _ _ (k.quiet h hr hn hD hrdy (by rw [hkd]; simp) (by rw [hkd]; simp) h2))
   | read=>
     have hw:=(h.ok r hr).gyes (by rw [hkd]; simp) τ a hgr
     rw [hw]
     simp only [if_true]
     obtain ⟨S,hq,hS⟩:=k.read h hr hn hrdy hkd
     obtain ⟨v',h1,h2⟩:=hq τ a w hops hS
     exact .inl (OS.value (R:=λ v w'=>v=v'/\w'=w) h1 ⟨rfl,rfl⟩ _ _ λ v w' he=>by
      obtain ⟨rfl,rfl⟩:v=v'/\w'=w:=he
      exact step _ _ _ _ _ _ _ (k.quiet h hr hn hD hrdy (by rw [hkd]; simp) (by rw [hkd]; simp) h2))
   | make=>
     have hw:=(h.ok r hr).gyes (by rw [hkd]; simp) τ a hgr
     rw [hw]
     simp only [if_true]
     obtain ⟨_,_,hA⟩:=(h.ok r hr).make hkd
     obtain ⟨o',h1,h2⟩:=hA.run τ a w hops
     exact .inl (OS.value (R:=λ v w'=>v=r.mkv w.heap.size/\w'=wnew w o') h2 ⟨rfl,rfl⟩ _ _ λ v w' he=>by
      obtain ⟨rfl,rfl⟩:v=r.mkv w.heap.size/\w'=wnew w o':=he
      exact step _ _ _ _ _ _ _ (k.make h hr hn hD hrdy hkd h1))
   | eff=>
     have hw:=(h.ok r hr).gyes (by rw [hkd]; simp) τ a hgr
     rw [hw]
     simp only [if_true]
     obtain ⟨hS,hall⟩:=k.eff h hr hn hD hrdy hkd
     have hsim:=((h.ok r hr).eff hkd).sim r.S'.length τ a w (Nat.le_refl _) (λ id h1 h2=>k.no r hr hn id h1 h2) hops (by rw [hS]; exact k.hr)
     refine .inl (hsim _ _ ?_)
     rintro v' w' ⟨τ',h1,h2,h3⟩
     rw [hS] at h3
     obtain ⟨t1,t2,X',fX',k'⟩:=hall h1 h2 h3
     exact step _ _ _ _ _ _ _ k'
theorem draw_ok {tb:Tb} (hT:TbOK P G tb):DrOK P G (dDraw tb):=by
 intro ops fr K S r h
 obtain ⟨⟨hanc,hpos,hcov⟩,h⟩:=onIf_some h
 obtain ⟨tr,fr',S',hk,hmap,hchain,hok,hfirm,_⟩:=go_some hT h
 rw [<- hmap] at hpos hcov
 obtain ⟨hpair,hself⟩:=posOk_rec hok hpos
 have hfix:Fix P G tb ops (ancT ops) tr S fr S' fr':=⟨hchain,hok,hpair,hself,hfirm,λ i hi=>by
  have:=memN_iff.1 (List.all_eq_true.1 hcov i (by simp [hi]))
  obtain ⟨q,hq,e⟩:=List.mem_map.1 this
  exact ⟨q,hq,e⟩,hanc⟩
 refine ⟨fr',S',hk,λ id=>⟨⟨chain_flen hchain,λ t ht=>chain_frame hchain λ q hq hd=>ht (wrOps_mem (hok q hq).op t hd)⟩,chain_len hchain hok,λ N τ a w hN hr=>?_⟩⟩
 refine wp_region_any hT.mixed ?_
 obtain ⟨t,u,htu,hte,hu⟩:=next_split tr
 have hc:=hchain
 rw [htu] at hc
 obtain ⟨X,fX,c1,c2⟩:=chain_split hc
 obtain ⟨⟨ex,hex⟩,hmk⟩:=chain_quiet c1 (λ q hq=>hok q (by rw [htu]; simp [hq])) hte
 have hlX:X.length<=S'.length:=chain_len c2 λ q hq=>hok q (by rw [htu]; simp [hq])
 have hlS:S.length<=X.length:=by rw [hex]; simp
 have hno:∀ (i:Nat) (y:AObj),S.length<=i->X[i]? = some y->τ i = .no:=by
  intro i y h1 h2
  refine hr.no i h1 ?_
  rcases Nat.lt_or_ge i X.length with z | z
  ·omega
  ·rw [List.getElem?_eq_none z] at h2;cases h2
 have hold:∀ i,i < S.length->X[i]? = S[i]?:=λ i hi=>by rw [hex,List.getElem?_append_left hi]
 have hHR:HR G τ X w:=by
  refine ⟨hr.hr.lt,hr.hr.inj,λ i b g o hi ho=>?_,λ i o hi ho=>?_,hr.hr.zero,hr.hr.glob⟩
  ·by_cases hl:i < S.length
   ·rw [hold i hl] at ho;exact hr.hr.live i b g o hi ho
   ·have:=hno i o (by omega) ho;rw [this] at hi;cases hi
  ·by_cases hl:i < S.length
   ·rw [hold i hl] at ho;exact hr.hr.dead i o hi ho
   ·have:=hno i o (by omega) ho;rw [this] at hi;cases hi
 have hlist:∀ i,i < ops.size->(Array.replicate ops.size false).getD i true=false:=λ i hi=>by simp [hi]
 refine any_of (N:=N) (τ0:=τ) (w0:=w) hfix hN (Q:=λ e' a' w'=>e'=Exit.normal/\∃ τ',Rl G N τ' fr' S' a' w'/\Ext τ S w τ' S' w')
  (λ τ' a' w' h1 h2=>⟨rfl,τ',h1,h2⟩) ops.size (List.range ops.size) (Array.replicate ops.size false) t u X fX τ a { w with drawn:=w.drawn+1 } (by simp) List.nodup_range (by simp) (λ i hi=>by simp [hi]) (λ i hi=>by simpa using hi) ?_
 have nD:∀ i,¬ (i < ops.size/\(Array.replicate ops.size false).getD i true=true):=λ i ⟨h1,h2⟩=>by rw [hlist i h1] at h2;cases h2
 refine { split:=htu,c1:=c1,c2:=c2,e1:=λ q hq he=>absurd he (hte q hq),e2:=λ q _ _ hd=>nD _ hd,hd:=hu,hr:=hHR.of_heap rfl,mk2:=λ q _ _ hd=>absurd hd (nD _),no:=?_,far:=?_, mk1:=λ q hq hm _=>hmk q hq hm,size:=?_,val:=?_,val0:=?_,defers:=hr.defers,ext:=?_,closed:=λ i o hd=>absurd hd (nD _) }
 ·intro q hq _ id h1 h2
  obtain ⟨w1,w2⟩:=hfix.within hq
  exact hr.no id (by omega) (by omega)
 ·intro id h1 h2;exact hr.no id (by omega) h2
 ·rw [chain_flen hchain]; exact hr.fr.size
 ·intro s hs
  have:=chain_frame (t:=s) hchain λ q hq hd=>nD _ (hs q hq hd)
  simp only [List.getD,this]
  cases hfs:fr[s]? with
  | none=>exact .top _
  | some v=>exact hr.fr.val s v hfs
 ·intro s hs
  simp only [List.getD]
  cases hfs:fr[s]? with
  | none=>exact .top _
  | some v=>exact hr.fr.val s v hfs
 ·exact { le:=.refl τ,keep:=λ _ _ h=>h,later:=λ _ _=>rfl,absent:=λ i hi _=>hold i hi,len:=by omega,fresh:=λ i b g h1 h2 ht=>(by have:=hr.no i h1 (by omega); rw [this] at ht;cases ht),conc:=λ _ _ _=>rfl,wlen:=Nat.le_refl _,os:=rfl,tape:=rfl,output:=rfl }
end
end Go.AM
namespace Go.AM
open Go
variable {P:Program}
def inA (x y c:Int):Bool:=decide (0<=x/\0<=y/\0<=c/\c<=1)
def sumA (x y c:Int):Int:=(x+y+c) % 18446744073709551616
def carA (x y c:Int):Int:=(x+y+c) / 18446744073709551616
def inS (x y c:Int):Bool:=decide (0<=x/\x < 18446744073709551616/\0<=y/\y < 18446744073709551616/\0<=c/\c<=1)
def difS (x y c:Int):Int:=(x-y-c) % 18446744073709551616
def borS (x y c:Int):Int:=bif decide (x < y+c) then 1 else 0
def xAdd (args:List Value):Option (Bool×Value):=
 match args with
 | [.int .u64 x, .int .u64 y, .int .u64 c] => some (inA x y c, .tuple ⟨[.int .u64 (sumA x y c), .int .u64 (carA x y c)]⟩)
 | _ => none
def xSub (args:List Value):Option (Bool×Value):=
 match args with
 | [.int .u64 x, .int .u64 y, .int .u64 c] => some (inS x y c, .tuple ⟨[.int .u64 (difS x y c), .int .u64 (borS x y c)]⟩)
 | _ => none
def X1 (P:Program) (k:FuncId) (x:List Value->Option (Bool×Value)):Prop:=
 ∀ args v,x args=some (true,v)->flatD v=true/\∀ w,(callFunc k ⟨args⟩).run P w = .ok (.value v) w
theorem add_x {k : FuncId} {fn : Func} (hf : P.funcs[k]? = some fn) (hname : (fn.name == "runtime.NumGoroutine") = false)
 (hb:fn.body.isNone=true) (hn:Extern.findNext fn=none) (he:Extern.find fn=some add64Entry):X1 P k xAdd:=by
 intro args v h
 unfold xAdd at h
 split at h
 ·rename_i x y c
  injection h with h
  injection h with h1 h2
  have h1:=of_decide_eq_true h1
  obtain ⟨h3,h4,h5,h6⟩:=h1
  subst h2
  refine ⟨rfl,λ w=>?_⟩
  rw [run_callFunc_extern hf hname hb hn he,run_add64 x y c h3 h4 h5 h6]
  rfl
 ·cases h
theorem sub_x {k : FuncId} {fn : Func} (hf : P.funcs[k]? = some fn) (hname : (fn.name == "runtime.NumGoroutine") = false)
 (hb:fn.body.isNone=true) (hn:Extern.findNext fn=none) (he:Extern.find fn=some Go.Proofs.sub64Entry):X1 P k xSub:=by
 intro args v h
 unfold xSub at h
 split at h
 ·rename_i x y c
  injection h with h
  injection h with h1 h2
  have h1:=of_decide_eq_true h1
  obtain ⟨h3,h3',h4,h4',h5,h6⟩:=h1
  subst h2
  refine ⟨rfl,λ w=>?_⟩
  obtain ⟨m,rfl⟩:=Int.eq_ofNat_of_zero_le h3
  obtain ⟨n,rfl⟩:=Int.eq_ofNat_of_zero_le h4
  obtain ⟨b,rfl⟩:=Int.eq_ofNat_of_zero_le h5
  have h:=Go.Proofs.run_sub64 (P:=P) (w:=w) m n b (by omega)
  have e1:(((m+18446744073709551616-n-b) % 18446744073709551616:Nat):Int)=((m:Int)-n-b) % 18446744073709551616:=by omega
  have e2:((if m < n+b then 1 else 0:Nat):Int)=(bif decide ((m:Int) < n+b) then 1 else 0):=by
   by_cases hh:m < n+b
   ·have : (m:Int) < n+b:=by omega
    simp [hh,this]
   ·have : ¬ (m:Int) < n+b:=by omega
    simp [hh,this]
  rw [e1,e2] at h
  rw [run_callFunc_extern hf hname hb hn he,h]
  rfl
 ·cases h
theorem fuel0 {G:List (Nat×Obj)} {k:FuncId} {g:List Value->M Value} (h:g=λ _=>M.fail):FnOK P G k g:=by
 intro args S v S' h1
 rw [h] at h1
 cases h1
def failV:M Value:=M.fail
def retQ (i:Nat) (l:List Value):M (Nat×List Value):=M.ret (i,l)
def failQ:M (Nat×List Value):=M.fail
def lookX:List (Nat×(List Value->Option (Bool×Value)))->FuncId->List Value->Option (Bool×Value)
 | [], _, _ => none
 | (q, a) :: l, p, args => match Nat.beq q p with
   | true=>a args
   | false=>lookX l p args
def isXL:List (Nat×(List Value->Option (Bool×Value)))->FuncId->Bool
 | [], _ => false
 | (q, _) :: l, p => match Nat.beq q p with
   | true=>true
   | false=>isXL l p
def AllX (P:Program):List (Nat×(List Value->Option (Bool×Value)))->Prop
 | [] => True
 | (k, x) :: l => X1 P k x /\ AllX P l
theorem lookX_ok:∀ {L:List (Nat×(List Value->Option (Bool×Value)))},AllX P L->XOK P (lookX L)
 | [], _ => λ k args v h => by cases h
 | (q, a) :: l, hall => λ k args v h => by
   simp only [lookX] at h
   cases hb:Nat.beq q k with
   | true=>
     rw [hb] at h
     have:=Nat.eq_of_beq_eq_true hb
     subst this
     exact hall.1 args v h
   | false=>
     rw [hb] at h
     exact lookX_ok hall.2 k args v h
end Go.AM
namespace Go.AM
open Go Go.RowKit
variable {P:Program} {G:List (Nat×Obj)}
def rowR (e:TypeId) (r:List Value->Option (List Value×Value)):List Value->M Value:=λ args S=>
 match r args with
 | none => none
 | some ([], c) => some (.tuple ⟨[.slice none 0 0, c]⟩, S)
 | some (x :: xs, c) => some (.tuple ⟨[.slice (some ⟨S.length, 0, none⟩) (xs.length + 1) (xs.length + 1), c]⟩, S ++ [.cells (x :: xs) e (some 1)])
theorem HR.below {τ:Nat->Tag} {S:St} {w W:World} (h:HR G τ S w) (hb:Below w.heap.size w W):HR G τ S W where
 lt:=λ i b g hi=>Nat.lt_of_lt_of_le (h.lt i b g hi) hb.size
 inj:=h.inj
 live:=λ i b g o hi ho=>by rw [hb.block b (h.lt i b g hi)]; exact h.live i b g o hi ho
 dead:=h.dead
 zero:=h.zero
 glob:=λ p hp=>⟨by rw [hb.block _ (h.block_lt hp)]; exact (h.glob p hp).1,(h.glob p hp).2⟩
theorem Ext.below {τ:Nat->Tag} {S:St} {w W:World} (hb:Below w.heap.size w W):Ext τ S w τ S W where
 le:=.refl τ
 keep:=λ _ _ h=>h
 later:=λ _ _=>rfl
 absent:=λ _ _ _=>rfl
 len:=Nat.le_refl _
 fresh:=λ i _ _ h h' _=>by omega
 conc:=λ b h _=>hb.block b h
 wlen:=hb.size
 os:=hb.os
 tape:=hb.tape
 output:=hb.output
theorem Ext.takeB {τ:Nat->Tag} {S:St} {w W:World} (hn:τ S.length = .no) (hb:Below w.heap.size w W) {x:AObj} {b:Nat} {g:Option (Nat×Nat)} (hg:w.heap.size<=b) :
 Ext τ S w (upd τ S.length (.live b g)) (S++[x]) W where
 le:=TLe.upd hn
 keep:=λ i hi h0=>by
  simp at hi
  rw [upd_ne _ _ (by omega)]; exact h0
 later:=λ i hi=>by
  simp at hi
  rw [upd_ne _ _ (by omega)]
 absent:=λ i hi _=>List.getElem?_append_left hi
 len:=by simp
 fresh:=λ i c g' hi hi' ht=>by
  simp at hi'
  have : i=S.length:=by omega
  subst this;rw [upd_self] at ht;cases ht;exact .inl hg
 conc:=λ b h _=>hb.block b h
 wlen:=hb.size
 os:=hb.os
 tape:=hb.tape
 output:=hb.output
theorem VRs.flats {τ:Nat->Tag}:∀ {l:List Value},l.all flatV=true->VRs τ l l
 | [], _ => .nil
 | a :: l, h => by
   simp at h
   exact .cons (.flat h.1) (VRs.flats (by simpa using h.2))
theorem rowR_ok {k:FuncId} {e:TypeId} {r:List Value->Option (List Value×Value)} (hen:Enters P k)
 (h:∀ args xs c,r args=some (xs,c)->args.all flatV=true/\xs.all flatV=true/\flatV c=true/\∀ w,(∀ p∈G,w.heap[p.1]? = some p.2) ->
   Calls P k ⟨args⟩ w λ en W=>∃ v,en = .returned (.tuple #[v,c])/\W.ownsRow w.heap.size e 1 v xs.length xs/\Below w.heap.size w W/\(xs=[]->v = .slice none 0 0)) :
 FnOK P G k (rowR e r):=by
 intro args S v S' h1
 unfold rowR at h1
 split at h1
 ·cases h1
 ·rename_i c hr
  cases h1
  obtain ⟨ha,_,hc,hcall⟩:=h _ _ _ hr
  refine ⟨hen,Nat.le_refl _,λ N τ w args' hN hno hv hr=>?_⟩
  rw [flats hv ha]
  refine (hcall w λ p hp=>(hr.glob p hp).1).mono ?_
  rintro en W ⟨v,rfl,_,hb,hnil⟩
  rw [hnil rfl]
  exact ⟨_,rfl,τ,.tuple (.cons (.flat rfl) (.cons (.flat hc) .nil)),hr.below hb,.below hb⟩
 ·rename_i x xs c hr
  cases h1
  obtain ⟨ha,hx,hc,hcall⟩:=h _ _ _ hr
  refine ⟨hen,by simp,λ N τ w args' hN hno hv hr=>?_⟩
  rw [flats hv ha]
  refine (hcall w λ p hp=>(hr.glob p hp).1).mono ?_
  rintro en W ⟨v,rfl,hown,hb,_⟩
  simp at hN
  have hn:τ S.length = .no:=hno _ (Nat.le_refl _) (by omega)
  obtain ⟨hlen,hv2 | ⟨b,cap,cur,rfl,hbase,hcell,hcap,hmax,hsz,htake⟩⟩:=hown
  ·exact absurd hv2.2 (by simp)
  ·have hcur:cur=⟨(x :: xs)++cur.toList.drop (xs.length+1)⟩:=by
    apply Array.toList_inj.1
    show cur.toList=(x :: xs)++cur.toList.drop (xs.length+1)
    simp only [List.length_cons,Nat.mul_one] at htake
    rw [<- htake,List.take_append_drop]
   have hcs:cur.toList.length=cap:=by simp [hsz]
   have ho:OR τ (some (1,cap)) (.cells (x :: xs) e (some 1)) (.cells cur e (0,0)):=by
    rw [hcur]
    refine OR.cells (g:=some (1,cap)) (VRs.flats hx) (λ h=>by cases h) λ p hp=>?_
    cases hp
    simp only [List.length_cons] at hcap
    simp only [List.length_cons,List.length_drop,hcs]
    omega
   have hbl:b < W.heap.size:=by
    rcases Nat.lt_or_ge b W.heap.size with h | h
    ·exact h
    ·rw [Array.getElem?_eq_none h] at hcell;cases hcell
   refine ⟨_,rfl,upd τ S.length (.live b (some (1,cap))),?_,?_,?_⟩
   ·refine .tuple (.cons ?_ (.cons (.flat hc) .nil))
    refine .slice (g:=some (1,cap)) (upd_self _ _ _) (λ h=>by cases h) (by simpa using hcap) λ p hp _=>?_
    cases hp
    simp
   ·exact (hr.below hb).take hn (λ i g' hi=>by have:=hr.lt i b g' hi;omega) (λ p hp=>by have:=hr.block_lt hp;omega) hbl ho hcell (λ _ _ _=>rfl) (Nat.le_refl _)
   ·exact .takeB hn hb hbase
end Go.AM
namespace Go.AM
open Go
variable {P:Program} {G:List (Nat×Obj)}
def lookD (L:List (Nat×(List Value->M Value))) (C:FuncId->List Value->M Value):FuncId->List Value->M Value:=λ p args=>
 match L with
 | [] => C p args
 | (q, a) :: l => match Nat.beq q p with
   | true=>a args
   | false=>lookD l C p args
def noC:FuncId->List Value->M Value:=λ _ _=>M.fail
theorem noC_ok:COK P G noC:=λ _ _ _ _ _ h=>by cases h
theorem lookD_ok {C:FuncId->List Value->M Value} (hC:COK P G C):∀ {L:List (Nat×(List Value->M Value))},AllC P G L->COK P G (lookD L C)
 | [], _ => λ k args S v S' h => hC k args S v S' h
 | (q, a) :: l, hall => λ k args S v S' h => by
   simp only [lookD] at h
   cases hb:Nat.beq q k with
   | true=>
     rw [hb] at h
     have:=Nat.eq_of_beq_eq_true hb
     subst this
     exact hall.1 args S v S' h
   | false=>
     rw [hb] at h
     exact lookD_ok hC hall.2 k args S v S' h
end Go.AM
namespace Go.AM
open Go Go.RowKit
variable {P:Program} {G:List (Nat×Obj)}
def liveO (G:List (Nat×Obj)) (b:Nat):Obj->Bool
 | .cells _ _ _ => !(G.any λ p => Nat.beq p.1 b)
 | _ => false
def opqs (w:World):List Value:=w.heap.toList.flatMap λ o=>match o with
 | .cells c _ _ => c.toList.filter λ v => !flatV v
 | _ => []
open Classical in
noncomputable def tokV (w:World) (v:Value):Value:=bif flatV v then v else .chan (some (w.heap.size+1+(opqs w).findIdx λ u=>decide (u=v)))
noncomputable def absO (G:List (Nat×Obj)) (w:World) (b:Nat) (o:Obj):AObj:=match liveO G b o,o with
 | true, .cells c e z => .ro (c.toList.map (tokV w)) e z
 | _, _ => .dead
noncomputable def S0 (G:List (Nat×Obj)) (w:World):St:=.dead :: (w.heap.toList.mapIdx (absO G w)++(opqs w).map λ _=>.dead)
def T0 (G:List (Nat×Obj)) (w:World):Nat->Tag
 | 0 => .dead
 | b + 1 => match w.heap[b]? with
   | none=>match (opqs w)[b-w.heap.size]? with
     | none=>.no
     | some v=>.opq v
   | some o=>match liveO G b o with
     | true=>.live b none
     | false=>.dead
theorem S0_at {w:World} {b:Nat} {o:Obj} (h:w.heap[b]? = some o):(S0 G w)[b+1]? = some (absO G w b o):=by
 have hb:b < w.heap.size:=by
  rcases Nat.lt_or_ge b w.heap.size with h' | h'
  ·exact h'
  ·rw [Array.getElem?_eq_none h'] at h;cases h
 simp only [S0,List.getElem?_cons_succ]
 rw [List.getElem?_append_left (by simpa using hb)]
 simp only [List.getElem?_mapIdx,Array.getElem?_toList,h,Option.map_some]
theorem S0_len (w:World):(S0 G w).length=w.heap.size+(opqs w).length+1:=by simp [S0]
theorem T0_live {w:World} {i b:Nat} {g:Option (Nat×Nat)} (h:T0 G w i = .live b g):i=b+1/\g=none/\∃ c e z,w.heap[b]? = some (.cells c e z)/\liveO G b (.cells c e z)=true:=by
 cases i with
 | zero => cases h
 | succ j =>
   simp only [T0] at h
   split at h
   ·split at h <;> cases h
   ·rename_i o ho
    split at h
    ·rename_i hl
     cases h
     refine ⟨rfl,rfl,?_⟩
     unfold liveO at hl
     split at hl
     ·exact ⟨_,_,_,ho,by unfold liveO;exact hl⟩
     ·cases hl
    ·cases h
theorem T0_no {w:World} {i:Nat} (h:(S0 G w).length<=i):T0 G w i = .no:=by
 rw [S0_len] at h
 cases i with
 | zero => omega
 | succ j =>
   have h1:w.heap[j]? = none:=Array.getElem?_eq_none (by omega)
   have h2:(opqs w)[j-w.heap.size]? = none:=List.getElem?_eq_none (by omega)
   simp only [T0,h1,h2]
theorem tok_vr {w:World} {b:Nat} {c:Array Value} {e:TypeId} {f:Nat×Nat} (hb:w.heap[b]? = some (.cells c e f)) {v:Value} (hv:v∈c.toList):VR (T0 G w) (tokV w v) v:=by
 unfold tokV
 cases h:flatV v with
 | true => exact .flat h
 | false =>
   have hm:v∈opqs w:=by
    unfold opqs
    rw [List.mem_flatMap]
    exact ⟨_,List.mem_of_getElem? (by rw [Array.getElem?_toList]; exact hb),by simp [List.mem_filter,h]; simpa using hv⟩
   classical
   have hlt:(opqs w).findIdx (λ u=>decide (u=v)) < (opqs w).length:=List.findIdx_lt_length_of_exists ⟨v,hm,by simp⟩
   have hget:=List.findIdx_getElem (w:=hlt)
   have hget:=of_decide_eq_true hget
   refine .opq ?_
   rw [Nat.add_right_comm]
   have h1:w.heap[w.heap.size+(opqs w).findIdx (λ u=>decide (u=v))]? = none:=Array.getElem?_eq_none (by omega)
   simp only [T0,h1,Nat.add_sub_cancel_left]
   rw [List.getElem?_eq_getElem hlt,hget]
theorem absO_live {w:World} {b:Nat} {c:Array Value} {e:TypeId} {z:Nat×Nat} (hl:liveO G b (.cells c e z)=true):absO G w b (.cells c e z) = .ro (c.toList.map (tokV w)) e z:=by
 unfold absO;rw [hl]
theorem VRs.map_left {τ:Nat->Tag} {f:Value->Value}:∀ {l:List Value},(∀ v∈l,VR τ (f v) v)->VRs τ (l.map f) l
 | [], _ => .nil
 | a :: l, h => .cons (h a (by simp)) (VRs.map_left λ v hv => h v (by simp [hv]))
theorem HR0 {w:World} (hG:∀ p∈G,w.heap[p.1]? = some p.2):HR G (T0 G w) (S0 G w) w where
 lt:=λ i b g h=>by
  obtain ⟨_,_,c,e,z,hc,_⟩:=T0_live h
  rcases Nat.lt_or_ge b w.heap.size with h | h
  ·exact h
  ·rw [Array.getElem?_eq_none h] at hc;cases hc
 inj:=λ i j b g g' h h'=>by rw [(T0_live h).1,(T0_live h').1]
 live:=λ i b g o h ho=>by
  obtain ⟨rfl,rfl,c,e,z,hc,hl⟩:=T0_live h
  rw [S0_at hc] at ho
  cases ho
  refine ⟨_,hc,?_⟩
  rw [absO_live hl]
  exact OR.ro (c':=c.toList) (VRs.map_left λ v hv=>tok_vr hc hv)
 dead:=λ i o h ho=>by
  cases i with
  | zero=>simp [S0] at ho;exact ho.symm
  | succ j=>
    simp only [T0] at h
    split at h
    ·split at h <;> cases h
    ·rename_i o' ho'
     rw [S0_at ho'] at ho
     cases ho
     split at h
     ·cases h
     ·rename_i hl
      unfold absO;rw [hl]
 zero:=rfl
 glob:=λ p hp=>⟨hG p hp,λ i g h=>by
  obtain ⟨_,_,c,e,z,_,hl⟩:=T0_live h
  simp only [liveO,Bool.not_eq_true',List.any_eq_false] at hl
  exact hl p hp (Nat.beq_refl _)⟩
theorem det_cells {τ τ':Nat->Tag} (hle:TLe τ τ'):∀ {c l l':List Value},(∀ v∈c,flatV v=true\/∃ r,v = .chan (some r))->VRs τ c l->VRs τ' c l'->l=l'
 | [], _, _, _, .nil, .nil => rfl
 | v :: c, _, _, hc, .cons h1 h2, .cons h3 h4 => by
   rw [det_cells hle (λ u hu=>hc u (by simp [hu])) h2 h4]
   congr 1
   rcases hc v (by simp) with hf | ⟨r,rfl⟩
   ·have e1:=Go.AM.flats (.cons h1 .nil) (by simpa using hf)
    have e2:=Go.AM.flats (.cons h3 .nil) (by simpa using hf)
    rw [List.cons.injEq] at e1 e2
    rw [e1.1,e2.1]
   ·cases h1 with
    | flat hf=>cases hf
    | opq h5=>
      cases h3 with
      | flat hf=>cases hf
      | opq h6=>
        have:=hle.opq h5
        rw [h6] at this
        cases this;rfl
theorem OR.det {τ τ':Nat->Tag} (hle:TLe τ τ') {c:List Value} {e:TypeId} {z:Nat×Nat} {o o':Obj} (hc:∀ v∈c,flatV v=true\/∃ r,v = .chan (some r)) (h:OR τ none (.ro c e z) o) (h':OR τ' none (.ro c e z) o'):o=o':=by
 generalize hx:AObj.ro c e z=x at h
 generalize hy:AObj.ro c e z=y at h'
 cases h with
 | map _ => cases hx
 | cells _ _ _ => cases hx
 | ro a1 =>
   cases h' with
   | map _=>cases hy
   | cells _ _ _=>cases hy
   | ro b1=>
     injection hx with x1 x2 x3
     injection hy with y1 y2 y3
     subst x1 x2 x3 y1 y2 y3
     rw [det_cells hle hc a1 b1]
theorem law_of {k:FuncId} {g:List Value->M Value} (hk:FnOK P G k g) {w:World} (hG:∀ p∈G,w.heap[p.1]? = some p.2) {args args':List Value}
 (hargs:VRs (T0 G w) args args') (hrun:∃ S',g args (S0 G w)=some (.bool true,S')/\S0 G w <+: S') :
 Calls P k ⟨args'⟩ w λ en w'=>en = .returned (.bool true)/\Below w.heap.size w w':=by
 obtain ⟨S',hr,hp⟩:=hrun
 obtain ⟨_,hlen,hcall⟩:=hk _ _ _ _ hr
 have h0:=HR0 (w:=w) hG
 refine (hcall S'.length (T0 G w) w args' (Nat.le_refl _) (λ i hi _=>T0_no hi) hargs h0).mono ?_
 rintro en w' ⟨v',rfl,τ',hv,hr',hx⟩
 refine ⟨by rw [hv.bool],hx.os,hx.tape,hx.output,hx.wlen,λ b hb=>?_⟩
 obtain ⟨o,ho⟩:∃ o,w.heap[b]? = some o:=⟨_,Array.getElem?_eq_getElem hb⟩
 cases hl:liveO G b o with
 | false =>
   refine hx.conc b hb λ i g hi ht=>?_
   obtain ⟨_,_,c,e,z,hc,hl'⟩:=T0_live ht
   rw [ho] at hc;cases hc
   rw [hl] at hl'; cases hl'
 | true =>
   obtain ⟨c,e,z,rfl⟩:∃ c e z,o = .cells c e z:=by
    unfold liveO at hl
    split at hl
    ·exact ⟨_,_,_,rfl⟩
    ·cases hl
   have hfl:∀ v∈c.toList.map (tokV w),flatV v=true\/∃ r,v = .chan (some r):=by
    intro v hv
    obtain ⟨u,_,rfl⟩:=List.mem_map.1 hv
    unfold tokV
    cases h:flatV u with
    | true=>exact .inl h
    | false=>exact .inr ⟨_,rfl⟩
   have hS:=S0_at (G:=G) ho
   rw [absO_live hl] at hS
   have hlt:b+1 < (S0 G w).length:=by rw [S0_len]; omega
   have hS':S'[b+1]? = some (.ro (c.toList.map (tokV w)) e z):=by
    obtain ⟨t,rfl⟩:=hp
    rw [List.getElem?_append_left hlt]; exact hS
   have ht:T0 G w (b+1) = .live b none:=by simp only [T0,ho]; rw [hl]
   obtain ⟨o1,h1,h2⟩:=h0.live _ _ _ _ ht hS
   rcases hx.le.live ht with h3 | h3
   ·obtain ⟨o2,h4,h5⟩:=hr'.live _ _ _ _ h3 hS'
    rw [h1,h4,OR.det hx.le hfl h2 h5]
   ·have:=hr'.dead _ _ h3 hS'
    cases this
end Go.AM
namespace Go.AM
open Go Go.RowKit
variable {G:List (Nat×Obj)}
theorem cell0 {w:World} {b o:Nat} {v:Value} (hc:w.cell? ⟨b,o,none⟩=some v) (hf:flatV v=true) (hG:∀ p∈G,p.1≠b):(S0 G w).cell ⟨b+1,o,none⟩=some v:=by
 unfold World.cell? at hc
 split at hc
 ·rename_i c e z hb
  have hl:liveO G b (.cells c e z)=true:=by
   simp only [liveO,Bool.not_eq_true',List.any_eq_false]
   intro p hp hq
   exact hG p hp (Nat.eq_of_beq_eq_true hq)
  have h1:=S0_at (G:=G) hb
  rw [absO_live hl] at h1
  simp only [St.cell,h1]
  simp only [Option.isSome_none,Bool.false_eq_true,if_false,List.getElem?_map,Array.getElem?_toList]
  simp at hc
  rw [hc]
  simp [tokV,hf]
 ·cases hc
def shA (A:Option Addr) (n:Nat):Option Addr:=match A with
 | none => none
 | some a => match n with
   | 0=>some ⟨0,0,none⟩
   | _+1=>some ⟨a.block+1,a.off,none⟩
theorem slice0 {w:World} {A:Option Addr} {n c:Nat} (h:0 < n->∃ b o,A=some ⟨b,o,none⟩/\b < w.heap.size):VR (T0 G w) (.slice (shA A n) n c) (.slice A n c):=by
 cases A with
 | none => exact .flat rfl
 | some a =>
   cases n with
   | zero=>exact .sliceDead (a:=⟨0,0,none⟩) rfl (Nat.le_refl _)
   | succ n=>
     obtain ⟨b,o,e,hb⟩:=h (by omega)
     cases e
     obtain ⟨ob,ho⟩:∃ x,w.heap[b]? = some x:=⟨_,Array.getElem?_eq_getElem hb⟩
     have ht:T0 G w (b+1)=match liveO G b ob with
      | true=>.live b none
      | false=>.dead:=by simp only [T0,ho] <;> (cases liveO G b ob <;> rfl)
     cases hl:liveO G b ob with
     | true=>rw [hl] at ht;exact .slice ht (λ _=>rfl) (Nat.le_refl _) (λ p hp=>by cases hp)
     | false=>rw [hl] at ht;exact .sliceDead (a:=⟨b+1,o,none⟩) ht (Nat.le_refl _)
end Go.AM
namespace Go.AM
open Go Go.RowKit
variable {P:Program} {G:List (Nat×Obj)}
def valR (r:List Value->Option Value):List Value->M Value:=λ args S=>(r args).map λ v=>(v,S)
theorem valR_ok {k:FuncId} {r:List Value->Option Value} (hen:Enters P k)
 (h:∀ args v,r args=some v->args.all flatV=true/\flatV v=true/\∀ w,(∀ p∈G,w.heap[p.1]? = some p.2) ->
   Calls P k ⟨args⟩ w λ en W=>en = .returned v/\Below w.heap.size w W):FnOK P G k (valR r):=by
 intro args S v S' h1
 unfold valR at h1
 cases hr:r args with
 | none => rw [hr] at h1; cases h1
 | some u =>
   rw [hr] at h1
   cases h1
   obtain ⟨ha,hv,hc⟩:=h _ _ hr
   refine ⟨hen,Nat.le_refl _,λ N τ w args' hN hno hva hr=>?_⟩
   rw [flats hva ha]
   refine (hc w λ p hp=>(hr.glob p hp).1).mono ?_
   rintro en W ⟨rfl,hb⟩
   exact ⟨_,rfl,τ,.flat hv,hr.below hb,.below hb⟩
end Go.AM
namespace Go.AM
open Go
abbrev vI (n:Int):Value:=.int .i64 n
abbrev vU (n:Int):Value:=.int .u64 n
abbrev vB (b:Bool):Value:=.bool b
abbrev vT (l:List Value):Value:=.tuple ⟨l⟩
abbrev vA (l:List Value):Value:=.agg ⟨l⟩
abbrev ar (l:List Value):Array Value:=⟨l⟩
abbrev ad (b o:Nat):Addr:=⟨b,o,none⟩
abbrev aI (v:Value):M Int:=asI .i64 v
abbrev aU (v:Value):M Int:=asI .u64 v
abbrev wI (n:Int):Int:=IntKind.i64.wrap n
abbrev wU (n:Int):Int:=IntKind.u64.wrap n
theorem plain_int {k:IntKind} {n:Int} {z l:List Value} (h:plainL (.int k n :: z) l=true):∃ a l',l = .int k a :: l'/\plainL z l'=true:=by
 cases l with
 | nil => cases h
 | cons x l =>
   cases x <;> simp [plainL] at h
   obtain ⟨rfl,h⟩:=h
   exact ⟨_,_,rfl,h⟩
theorem plain_nil {l:List Value} (h:plainL [] l=true):l=[]:=by
 cases l with
 | nil => rfl
 | cons x l => cases h
theorem eq_guard {P:Program} {t:TypeId} (h:P.eqGuardType P.depth t=false) (l m:List Value) (w:World) (op:BinOp) (u v:Operand):(eqGuard op t u v (.agg ⟨l⟩) (.agg ⟨m⟩)).run P w = .ok () w:=by
 unfold eqGuard
 cases op <;> simp [h]
theorem eq_of_bin {P:Program} {t:TypeId} {l m:List Value} {w:World} {b:Bool} (h:(binOp .eql t (.agg ⟨l⟩) (.agg ⟨m⟩)).run P w = .ok (.bool b) w) :
 (Op.equal t (.agg ⟨l⟩) (.agg ⟨m⟩)).run P w = .ok b w:=by
 have e:(binOp .eql t (.agg ⟨l⟩) (.agg ⟨m⟩)).run P w=((Op.equal t (.agg ⟨l⟩) (.agg ⟨m⟩)).run P w).andThen (λ b w=>.ok (.bool b) w):=by
  simp [binOp]
 rw [e] at h
 cases hq:(Op.equal t (.agg ⟨l⟩) (.agg ⟨m⟩)).run P w <;> rw [hq] at h <;> simp [Result.andThen] at h
 rw [h.1,h.2]
def lookE:List (Nat×List Value)->TypeId->Option (List Value)
 | [], _ => none
 | (q, a) :: l, p => match Nat.beq q p with
   | true=>some a
   | false=>lookE l p
def AllE (P:Program):List (Nat×List Value)->Prop
 | [] => True
 | (t, z) :: l => EqOK P z t /\ AllE P l
theorem lookE_ok {P:Program}:∀ {L:List (Nat×List Value)},AllE P L->∀ t z,lookE L t=some z->EqOK P z t
 | [], _ => λ t z h => by cases h
 | (q, a) :: l, hall => λ t z h => by
   simp only [lookE] at h
   split at h
   ·rename_i hb
    have:=Nat.eq_of_beq_eq_true hb
    subst this
    cases h
    exact hall.1
   ·exact lookE_ok hall.2 t z h
variable {α:Type}
abbrev vS (a:Option Addr) (n c:Nat):Value:=.slice a n c
abbrev vP (a:Option Addr):Value:=.pointer a
abbrev M.bI (m:M Value) (k:Int->M α):M α:=m.bind λ v=>(aI v).bind k
abbrev M.bU (m:M Value) (k:Int->M α):M α:=m.bind λ v=>(aU v).bind k
abbrev M.bB (m:M Value) (k:Bool->M α):M α:=m.bind λ v=>(asB v).bind k
abbrev M.bS (m:M Value) (k:Sl->M α):M α:=m.bind λ v=>(asS v).bind k
abbrev M.bP (m:M Value) (k:Option Addr->M α):M α:=m.bind λ v=>(asP v).bind k
abbrev M.bA (m:M Value) (k:List Value->M α):M α:=m.bind λ v=>(asA v).bind k
abbrev M.bT (m:M Value) (k:List Value->M α):M α:=m.bind λ v=>(asT v).bind k
abbrev M.bN (m:M Value) (n:Nat) (k:List Value->M α):M α:=m.bind λ v=>(asT v).bind λ vs=>guardM (vs.length=n) (k vs)
abbrev gL (l:List Value) (n:Nat) (m:M α):M α:=guardM (l.length=n) m
abbrev hI (l:List Value) (k:Int->M α):M α:=(aI (l.headD topV)).bind k
abbrev hU (l:List Value) (k:Int->M α):M α:=(aU (l.headD topV)).bind k
abbrev hB (l:List Value) (k:Bool->M α):M α:=(asB (l.headD topV)).bind k
abbrev hS (l:List Value) (k:Sl->M α):M α:=(asS (l.headD topV)).bind k
abbrev hP (l:List Value) (k:Option Addr->M α):M α:=(asP (l.headD topV)).bind k
abbrev hA (l:List Value) (k:List Value->M α):M α:=(asA (l.headD topV)).bind k
abbrev hT (l:List Value) (k:List Value->M α):M α:=(asT (l.headD topV)).bind k
abbrev lI (b o:Nat) (k:Int->M α):M α:=(ld (ad b o)).bI k
abbrev lU (b o:Nat) (k:Int->M α):M α:=(ld (ad b o)).bU k
abbrev lB (b o:Nat) (k:Bool->M α):M α:=(ld (ad b o)).bB k
abbrev lS (b o:Nat) (k:Sl->M α):M α:=(ld (ad b o)).bS k
abbrev lP (b o:Nat) (k:Option Addr->M α):M α:=(ld (ad b o)).bP k
abbrev lA (b o:Nat) (k:List Value->M α):M α:=(ld (ad b o)).bA k
abbrev lT (b o:Nat) (k:List Value->M α):M α:=(ld (ad b o)).bT k
abbrev onX {β:Type} (n:Int) (l:Nat) (a:Option β) (k:β->M α):M α:=guardM (0<=n/\n < (l:Int)) (onOpt a k)
def ax (a:Addr) (n:Int) (w:Nat):Addr:=a.add (n.toNat*w)
abbrev xI (a:Addr) (n:Int) (w:Nat) (k:Int->M α):M α:=(ld (ax a n w)).bI k
abbrev xU (a:Addr) (n:Int) (w:Nat) (k:Int->M α):M α:=(ld (ax a n w)).bU k
abbrev xB (a:Addr) (n:Int) (w:Nat) (k:Bool->M α):M α:=(ld (ax a n w)).bB k
abbrev xS (a:Addr) (n:Int) (w:Nat) (k:Sl->M α):M α:=(ld (ax a n w)).bS k
abbrev xP (a:Addr) (n:Int) (w:Nat) (k:Option Addr->M α):M α:=(ld (ax a n w)).bP k
abbrev xA (a:Addr) (n:Int) (w:Nat) (k:List Value->M α):M α:=(ld (ax a n w)).bA k
abbrev xT (a:Addr) (n:Int) (w:Nat) (k:List Value->M α):M α:=(ld (ax a n w)).bT k
abbrev dI (a:Addr) (k:Int->M α):M α:=(ld a).bI k
abbrev dU (a:Addr) (k:Int->M α):M α:=(ld a).bU k
abbrev dB (a:Addr) (k:Bool->M α):M α:=(ld a).bB k
abbrev dS (a:Addr) (k:Sl->M α):M α:=(ld a).bS k
abbrev dP (a:Addr) (k:Option Addr->M α):M α:=(ld a).bP k
abbrev nC (l:List Value) (t:TypeId):M Nat:=newB (.cells l t none)
abbrev nB (l:List Value) (t:TypeId) (k:Nat->M α):M α:=(nC l t).bind k
abbrev sL (a:Addr) (l:List Value) (k:Unit->M α):M α:=(stL a l).bind k
end Go.AM
