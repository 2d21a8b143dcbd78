/-
  Part of the proof of a law: the translation of code into programs over an abstract store, and its soundness. Conditions: none.
-/
import Derived.Test.YtpecnaacgkgjmaaGreatDoorVA1
import Derived.LoopN
import Derived.Laws.Externs
import Derived.Shelf.Spec.BitsCarry
import Derived.Below
import Derived.Laws.AppendOwn
set_option linter.unusedVariables false
set_option linter.unusedSectionVars false
set_option linter.unusedSimpArgs false
set_option linter.deprecated false
namespace Go.AM
open Go
variable {P:Program} {G:List (Nat×Obj)} {ρ:Type}
structure Rl (G:List (Nat×Obj)) (N:Nat) (τ:Nat->Tag) (fr:List Value) (S:St) (a:Act) (w:World):Prop where
 fr:FR τ fr a
 defers:a.defers=[]
 hr:HR G τ S w
 no:∀ i,S.length<=i->i < N->τ i = .no
structure Ag (W:List Nat) (fr fr':List Value):Prop where
 len:fr'.length=fr.length
 get:∀ t,t∉W->fr'[t]? = fr[t]?
theorem Ag.refl (W:List Nat) (fr:List Value):Ag W fr fr:=⟨rfl,λ _ _=>rfl⟩
theorem Ag.trans {W:List Nat} {a b c:List Value} (h:Ag W a b) (k:Ag W b c):Ag W a c:=⟨k.len.trans h.len,λ t ht=>(k.get t ht).trans (h.get t ht)⟩
theorem Ag.mono {W W':List Nat} {a b:List Value} (h:Ag W a b) (hs:∀ t,t∈W->t∈W'):Ag W' a b:=⟨h.len,λ t ht=>h.get t λ e=>ht (hs t e)⟩
theorem Ag.put {W:List Nat} {fr:List Value} {d:Option Tmp} {v:Value} (h:∀ t,d=some t->t∈W):Ag W fr (z3c fr d v):=by
 cases d with
 | none => exact .refl _ _
 | some d => exact ⟨by simp [z3c], λ t ht => by simp only [z3c]; exact List.getElem?_set_ne (λ e : d = t => ht (e ▸ h d rfl))⟩
def zgr (ops:Array Oper):List Nat:=ops.toList.filterMap (·.dst)
theorem zgs {ops:Array Oper} {i:Nat} {o:Oper} (h:ops[i]? = some o):∀ t,o.dst=some t->t∈zgr ops:=λ t ht=>
 List.mem_filterMap.2 ⟨o,List.mem_of_getElem? (i:=i) (by simpa using h),ht⟩
def j9j (tb:Tb) (ops:Array Oper):List Nat->List Value->(List Value->M ρ)->M ρ
 | [], fr, K => K fr
 | i :: l, fr, K => jz2 ops[i]? λ o => jyw (o.op.operands.toList.all j7w = true)
   (j8y ops o fr (λ fr=>evs fr o.op.operands.toList [] λ ps=>j9c tb o (j27 ps) λ v=>z3d fr o.dst v λ fr=>j9j tb ops l fr K) (λ fr=>z3d fr o.dst undef λ fr=>j9j tb ops l fr K))
theorem z7y {tb:Tb} (hT:j1g P G tb) {ops:Array Oper}:∀ {l:List Nat} {fr:List Value} {K:List Value->M ρ} {S:St} {r:ρ×St},j9j tb ops l fr K S=some r ->
 ∃ fr' S',K fr' S'=some r/\Ag (zgr ops) fr fr'/\S.length<=S'.length /\
  ∀ N τ a w (Q:Exit->Act->World->Prop),S'.length<=N->Rl G N τ fr S a w->(∀ τ' a' w',Rl G N τ' fr' S' a' w'->Ext τ S w τ' S' w'->Q .normal a' w')->wpOps P ops Q l a w
 | [], fr, K, S, r, h => ⟨fr, S, h, .refl _ _, Nat.le_refl _, λ N τ a w Q _ hr hq => hq τ a w hr (.refl _ _ _)⟩
 | i :: l, fr, K, S, r, h => by
   obtain ⟨o,ho,h⟩:=jz3 h
   obtain ⟨hc,h⟩:=jyx h
   have hc':∀ x∈o.op.operands,j7w x=true:=λ x hx=>List.all_eq_true.1 hc x (by simpa using hx)
   rcases jr2 h with ⟨h,hw⟩ | ⟨h,hw⟩
   ·obtain ⟨ps,h,hps⟩:=jbl h
    obtain ⟨v,S1,hk,hsim⟩:=jzg hT h
    replace hsim:=hsim.congr (f':=aev fr) λ x hx=>hps x (by simpa using hx)
    rw [z3e] at hk
    obtain ⟨fr',S',hk',hag,hlen,hall⟩:=z7y hT hk
    refine ⟨fr',S',hk',(Ag.put (zgs ho)).trans hag,Nat.le_trans hsim.len hlen,λ N τ a w Q hN hr hq=>?_⟩
    have hw':=hw τ a hr.fr.guard
    simp only [wpOps,ho,hw',if_true]
    refine .inl (hsim.sim N τ a w (by omega) hr.no (λ x hx=>hr.fr.eval (hc' x hx)) hr.hr _ _ ?_)
    rintro v' w' ⟨τ',h1,h2,h3⟩
    have hr':Rl G N τ' (z3c fr o.dst v) S1 (a.put o.dst v') w':=by
     refine ⟨(hr.fr.mono h3.le).put h1,?_,h2,λ j hj hj'=>?_⟩
     ·cases hd:o.dst <;> simp [Act.put,hr.defers]
     ·have:=hsim.len
      exact h3.keep j (.inr hj) (hr.no j (by omega) hj')
    refine hall N τ' _ w' Q hN hr' λ τ2 a2 w2 h4 h5=>hq τ2 a2 w2 h4 (h3.trans h5 λ j hj hj'=>hr.no j (by have:=hsim.len;omega) (by omega))
   ·rw [z3e] at h
    obtain ⟨fr',S',hk',hag,hlen,hall⟩:=z7y hT h
    refine ⟨fr',S',hk',(Ag.put (zgs ho)).trans hag,hlen,λ N τ a w Q hN hr hq=>?_⟩
    have hw':=hw τ a hr.fr.guard
    simp only [wpOps,ho,hw',Bool.false_eq_true,if_false]
    have hr':Rl G N τ (z3c fr o.dst undef) S (a.put o.dst undef) w:=by
     refine ⟨hr.fr.put (.tuple .nil),?_,hr.hr,hr.no⟩
     cases hd:o.dst <;> simp [Act.put,hr.defers]
    exact hall N τ _ w Q hN hr' hq
inductive X where
 | norm
 | ex (id : Nat)
 | ret
 deriving DecidableEq
def X.out:X->Exit
 | .norm => .normal
 | .ex id => .exit id
 | .ret => .ret
structure Sim (P:Program) (G:List (Nat×Obj)) (W:List Nat) (c:Code) (fr:List Value) (S:St) (e:X) (fr':List Value) (S':St):Prop where
 ag:Ag W fr fr'
 len:S.length<=S'.length
 sim:∀ N τ a w,S'.length<=N->Rl G N τ fr S a w->c.wp P (λ e' a' w'=>e'=e.out/\∃ τ',Rl G N τ' fr' S' a' w'/\Ext τ S w τ' S' w') a w
theorem Sim.skip {W:List Nat} {fr:List Value} {S:St}:Sim P G W .skip fr S .norm fr S:=
 ⟨.refl _ _,Nat.le_refl _,λ _ τ _ _ _ hr=>wp_skip ⟨rfl,τ,hr,.refl _ _ _⟩⟩
theorem Sim.label {W:List Nat} {l:Nat} {fr:List Value} {S:St}:Sim P G W (.label l) fr S .norm fr S:=
 ⟨.refl _ _,Nat.le_refl _,λ _ τ _ _ _ hr=>wp_label ⟨rfl,τ,hr,.refl _ _ _⟩⟩
theorem Sim.exit {W:List Nat} {id:Nat} {fr:List Value} {S:St}:Sim P G W (.exit id) fr S (.ex id) fr S:=
 ⟨.refl _ _,Nat.le_refl _,λ _ τ _ _ _ hr=>wp_exit ⟨rfl,τ,hr,.refl _ _ _⟩⟩
theorem Sim.ret {W:List Nat} {fr:List Value} {S:St}:Sim P G W .ret fr S .ret fr S:=
 ⟨.refl _ _,Nat.le_refl _,λ _ τ _ _ _ hr=>wp_ret ⟨rfl,τ,hr,.refl _ _ _⟩⟩
theorem Sim.mono {W W':List Nat} {c:Code} {fr fr':List Value} {S S':St} {e:X} (h:Sim P G W c fr S e fr' S') (hs:∀ t,t∈W->t∈W'):Sim P G W' c fr S e fr' S':=
 ⟨h.ag.mono hs,h.len,h.sim⟩
theorem Sim.seq {W:List Nat} {x y:Code} {fr fr1 fr2:List Value} {S S1 S2:St} {e:X} (h:Sim P G W x fr S .norm fr1 S1) (k:Sim P G W y fr1 S1 e fr2 S2) :
 Sim P G W (.seq x y) fr S e fr2 S2 where
 ag:=h.ag.trans k.ag
 len:=Nat.le_trans h.len k.len
 sim:=λ N τ a w hN hr=>by
  refine wp_seq (wp_mono (h.sim N τ a w (Nat.le_trans k.len hN) hr) ?_)
  rintro e' a' w' ⟨rfl,τ',h1,h2⟩
  refine wp_mono (k.sim N τ' a' w' hN h1) ?_
  rintro e2 a2 w2 ⟨h3,τ2,h4,h5⟩
  exact ⟨h3,τ2,h4,h2.trans h5 λ j hj hj'=>hr.no j (by have:=h.len;omega) (by omega)⟩
theorem Sim.seq_out {W:List Nat} {x y:Code} {fr fr1:List Value} {S S1:St} {e:X} (h:Sim P G W x fr S e fr1 S1) (he:e≠.norm):Sim P G W (.seq x y) fr S e fr1 S1 where
 ag:=h.ag
 len:=h.len
 sim:=λ N τ a w hN hr=>by
  refine wp_seq (wp_mono (h.sim N τ a w hN hr) ?_)
  rintro e' a' w' ⟨rfl,h1⟩
  cases e with
  | norm=>exact absurd rfl he
  | ex id=>exact ⟨rfl,h1⟩
  | ret=>exact ⟨rfl,h1⟩
theorem Sim.cond {W:List Nat} {c:Operand} {x y:Code} {fr fr1:List Value} {S S1:St} {e:X} {b:Bool} (hc:aev fr c = .bool b) (hcb:j7w c=true)
 (h:Sim P G W (if b then x else y) fr S e fr1 S1):Sim P G W (.cond c x y) fr S e fr1 S1 where
 ag:=h.ag
 len:=h.len
 sim:=λ N τ a w hN hr=>by
  have:=hr.fr.eval hcb
  rw [hc] at this
  exact wp_cond this.bool (h.sim N τ a w hN hr)
theorem Sim.block {W:List Nat} {id:Nat} {c:Code} {fr fr1:List Value} {S S1:St} {e:X} (h:Sim P G W c fr S e fr1 S1) :
 Sim P G W (.block id c) fr S (if e = .ex id then .norm else e) fr1 S1 where
 ag:=h.ag
 len:=h.len
 sim:=λ N τ a w hN hr=>by
  refine wp_block (wp_mono (h.sim N τ a w hN hr) ?_)
  rintro e' a' w' ⟨rfl,h1⟩
  cases e with
  | norm=>exact ⟨rfl,h1⟩
  | ret=>exact ⟨rfl,h1⟩
  | ex id'=>
    by_cases hid:id'=id
    ·subst hid
     simp only [Exit.inBlock,X.out,if_true]
     exact ⟨trivial,h1⟩
    ·have : X.ex id'≠X.ex id:=λ q=>hid (by injection q)
     simp only [Exit.inBlock,X.out,if_neg hid,if_neg this]
     exact ⟨trivial,h1⟩
theorem Sim.region {tb:Tb} (hT:j1g P G tb) {ops:Array Oper} {id:Nat} {fr:List Value} {K:List Value->M ρ} {S:St} {r:ρ×St} (h:j9j tb ops (List.range ops.size) fr K S=some r) :
 ∃ fr' S',K fr' S'=some r/\Sim P G (zgr ops) (.region id ops false) fr S .norm fr' S':=by
 obtain ⟨fr',S',hk,hag,hlen,hall⟩:=z7y hT h
 refine ⟨fr',S',hk,hag,hlen,λ N τ a w hN hr=>wp_region (hall N τ a w _ hN hr ?_)⟩
 intro τ' a' w' h1 h2
 exact ⟨rfl,τ',h1,h2⟩
end Go.AM
namespace Go.AM
open Go
variable {P:Program} {G:List (Nat×Obj)} {ρ:Type}
section
variable {σ ρ:Type}
def jso (b:σ->M (Nat×σ)):Nat->σ->M (Nat×σ)
 | 0, _ => M.fail
 | n + 1, st => M.bind (b st) λ q => if q.1 = 0 then jso b n q.2 else M.ret q
theorem jsp {b:σ->M (Nat×σ)}:∀ {n m:Nat} {st:σ} {S:St} {r:(Nat×σ)×St},n<=m->jso b n st S=some r->jso b m st S=some r
 | 0, _, _, _, _, _, h => by cases h
 | n + 1, 0, _, _, _, hl, _ => by omega
 | n + 1, m + 1, st, S, r, hl, h => by
   obtain ⟨q,S',h1,h2⟩:=M.bind_some h
   show M.bind (b st) _ S=_
   simp only [M.bind,h1]
   split at h2
   ·rename_i h0
    rw [if_pos h0]
    exact jsp (by omega) h2
   ·rename_i h0
    rw [if_neg h0]
    exact h2
open Classical in
/-- A loop: its rounds, as many as there are. -/
noncomputable def jw8 (b:σ->M (Nat×σ)) (st:σ):M (Nat×σ):=λ S=>
 if h:∃ n r,jso b n st S=some r then some h.choose_spec.choose else none
theorem jwa {b:σ->M (Nat×σ)} {st:σ} {S:St} {r:(Nat×σ)×St} (n:Nat) (h:jso b n st S=some r):jw8 b st S=some r:=by
 have hex:∃ n r,jso b n st S=some r:=⟨n,r,h⟩
 unfold jw8
 rw [dif_pos hex]
 have h1:=hex.choose_spec.choose_spec
 have h2:=jsp (Nat.le_max_left n hex.choose) h
 have h3:=jsp (Nat.le_max_right n hex.choose) h1
 rw [h2] at h3
 cases h3
 rfl
theorem jwb {b:σ->M (Nat×σ)} {st:σ} {S:St} {r:(Nat×σ)×St} (h:jw8 b st S=some r):∃ n,jso b n st S=some r:=by
 unfold jw8 at h
 split at h
 ·rename_i hex
  injection h with h
  exact ⟨hex.choose,by rw [<- h]; exact hex.choose_spec.choose_spec⟩
 ·cases h
theorem jw9 (b:σ->M (Nat×σ)) (st:σ):jw8 b st=M.bind (b st) λ q=>if q.1=0 then jw8 b q.2 else M.ret q:=by
 funext S
 cases hb:b st S with
 | none =>
   have : M.bind (b st) (λ q=>if q.1=0 then jw8 b q.2 else M.ret q) S=none:=by simp [M.bind,hb]
   rw [this]
   cases hl:jw8 b st S with
   | none=>rfl
   | some r=>
     obtain ⟨n,hn⟩:=jwb hl
     cases n with
     | zero=>cases hn
     | succ n=>obtain ⟨q,S',h1,_⟩:=M.bind_some hn;rw [hb] at h1;cases h1
 | some q =>
   obtain ⟨⟨ix,st'⟩,S'⟩:=q
   simp only [M.bind,hb]
   by_cases h0:ix=0
   ·subst h0
    simp only [if_true]
    cases hl:jw8 b st' S' with
    | some r=>
      obtain ⟨n,hn⟩:=jwb hl
      exact jwa (n+1) (by show M.bind (b st) _ S=_;simp [M.bind,hb,hn])
    | none=>
      cases hl2:jw8 b st S with
      | none=>rfl
      | some r=>
        obtain ⟨n,hn⟩:=jwb hl2
        cases n with
        | zero=>cases hn
        | succ n=>
          obtain ⟨q,S2,h1,h2⟩:=M.bind_some hn
          rw [hb] at h1
          cases h1
          simp at h2
          rw [jwa n h2] at hl
          cases hl
   ·simp only [if_neg h0]
    exact jwa 1 (by show M.bind (b st) _ S=_;simp [M.bind,hb,h0,M.ret])
end
structure Way where
 e:X
 cs:List Nat
 zs:List Value
structure Ann where
 cs:List Nat
 zs:List Value
 xs:List Way
def jwk (t:Nat):List Nat->Bool
 | [] => false
 | x :: l => match Nat.beq x t with
   | true=>true
   | false=>jwk t l
theorem jwm {t:Nat} {l:List Nat}:jwk t l=true↔t∈l:=by
 induction l with
 | nil => simp [jwk]
 | cons x l ih =>
   simp only [jwk]
   cases h:Nat.beq x t with
   | true=>have:=Nat.eq_of_beq_eq_true h;simp [this]
   | false=>
     have h1:t≠x:=λ e=>by subst e;rw [Nat.beq_refl] at h;cases h
     simp [ih,h1]
theorem jwl (t:Nat) (l:List Nat):jwk t l=l.contains t:=by
 rw [Bool.eq_iff_iff,jwm]; simp
def blank (W:List Nat):Nat->List Value->List Value
 | _, [] => []
 | i, v :: l => (match jwk i W with | true => zdj | false => v) :: blank W (i + 1) l
def lay:List Value->List Nat->List Value->List Value
 | fr, c :: cs, v :: vs => lay (fr.set c v) cs vs
 | fr, _, _ => fr
def z9e (fr:List Value) (cs:List Nat):List Value:=cs.map λ c=>fr.getD c zdj
def X.eqb:X->X->Bool
 | .norm, .norm => true
 | .ret, .ret => true
 | .ex i, .ex j => Nat.beq i j
 | _, _ => false
theorem X.eqb_iff {a b:X}:a.eqb b=true↔a=b:=by
 cases a <;> cases b <;> simp [X.eqb]
def jsq:List Way->X->Nat
 | [], _ => 0
 | x :: l, e => match x.e.eqb e with
   | true=>0
   | false=>jsq l e+1
def zez:List Way->X->Option Way
 | [], _ => none
 | x :: l, e => match x.e.eqb e with
   | true=>some x
   | false=>zez l e
def z0t:List (M ρ)->Nat->M ρ
 | [], _ => M.fail
 | m :: l, ix => match l with
   | []=>m
   | _ :: _=>match ix with
     | 0=>m
     | ix+1=>z0t l ix
theorem zf0:∀ {xs:List Way} {e:X} {x:Way},zez xs e=some x->x.e=e
 | [], _, _, h => by cases h
 | y :: l, e, x, h => by
   unfold zez at h
   cases hb:y.e.eqb e with
   | true=>rw [hb] at h;cases h;exact X.eqb_iff.1 hb
   | false=>rw [hb] at h;exact zf0 h
theorem z14:∀ {xs:List Way} {e:X} {x:Way} {K:Way->M ρ} {S:St} {r:ρ×St},zez xs e=some x->z0t (xs.map K) (jsq xs e) S=some r->K x S=some r
 | [], _, _, _, _, _, h, _ => by cases h
 | [y], e, x, K, S, r, h, hp => by
   unfold zez at h
   cases hb:y.e.eqb e with
   | true=>rw [hb] at h;cases h;exact hp
   | false=>rw [hb] at h;cases h
 | y :: z :: l, e, x, K, S, r, h, hp => by
   unfold zez at h
   unfold jsq at hp
   cases hb:y.e.eqb e with
   | true=>
     rw [hb] at h hp
     cases h
     exact hp
   | false=>
     rw [hb] at h hp
     exact z14 h hp
theorem j69 (W:List Nat):∀ (i:Nat) (l:List Value),(blank W i l).length=l.length
 | _, [] => rfl
 | i, v :: l => by simp [blank, j69 W (i + 1) l]
theorem j67 (W:List Nat):∀ (i:Nat) (l:List Value) (t:Nat),(blank W i l)[t]? = (l[t]?).map λ v=>bif W.contains (i+t) then zdj else v
 | _, [], t => by simp [blank]
 | i, v :: l, 0 => by
   simp only [blank,List.getElem?_cons_zero,Option.map_some,jwl,Nat.add_zero]
   cases W.contains i <;> rfl
 | i, v :: l, t + 1 => by
   simp only [blank,List.getElem?_cons_succ]
   rw [j67 W (i+1) l t]
   congr 2
   have : i+1+t=i+(t+1):=by omega
   rw [this]
theorem jul:∀ (fr:List Value) (cs:List Nat) (vs:List Value),(lay fr cs vs).length=fr.length
 | _, [], _ => by simp [lay]
 | _, _ :: _, [] => by simp [lay]
 | fr, c :: cs, v :: vs => by simp [lay, jul]
theorem juj {fr fr':List Value} (hl:fr'.length=fr.length) {t:Nat} {u:Value}:∀ {cs:List Nat} {g:List Value},g.length=fr.length ->
 (∀ u,g[t]? = some u->u=zdj\/fr'[t]? = some u)->(lay g cs (z9e fr' cs))[t]? = some u->u=zdj\/fr'[t]? = some u
 | [], g, _, hg, h => by simp only [z9e, List.map_nil, lay] at h; exact hg u h
 | c :: cs, g, hgl, hg, h => by
   simp only [z9e,List.map_cons,lay] at h
   refine juj hl (cs:=cs) (g:=g.set c (fr'.getD c zdj)) (by simpa using hgl) (λ u hu=>?_) h
   by_cases e:c=t
   ·subst e
    rw [List.getElem?_set] at hu
    simp at hu
    obtain ⟨hlt,rfl⟩:=hu
    have : c < fr'.length:=by omega
    simp [List.getElem?_eq_getElem this]
   ·rw [List.getElem?_set_ne e] at hu
    exact hg u hu
def jsr (W:List Nat) (fr:List Value) (cs:List Nat) (st:List Value):List Value:=lay (blank W 0 fr) cs st
theorem jsv {W:List Nat} {fr fr':List Value} (h:Ag W fr fr') (cs:List Nat) {t:Nat} {u:Value} (hu:(jsr W fr cs (z9e fr' cs))[t]? = some u):u=zdj\/fr'[t]? = some u:=by
 refine juj h.len (by rw [j69]) (λ u hu=>?_) hu
 rw [j67] at hu
 simp at hu
 obtain ⟨v,hv,he⟩:=hu
 by_cases hW:t∈W
 ·simp [hW] at he;exact .inl he.symm
 ·simp [hW] at he
  subst he
  exact .inr (by rw [h.get t hW,hv])
theorem jsu {W:List Nat} {fr:List Value} {cs:List Nat} {st:List Value}:(jsr W fr cs st).length=fr.length:=by
 simp [jsr,jul,j69]
theorem jss {W:List Nat} {fr fr':List Value} (h:Ag W fr fr') (cs:List Nat):Ag W fr (jsr W fr cs (z9e fr' cs)) where
 len:=jsu
 get:=λ t ht=>by
  have : ∀ (cs:List Nat) (g:List Value),g.length=fr.length->g[t]? = fr[t]?->(lay g cs (z9e fr' cs))[t]? = fr[t]?:=by
   intro cs
   induction cs with
   | nil=>intro g _ hg;simpa [lay,z9e] using hg
   | cons c cs ih=>
     intro g hgl hg
     simp only [z9e,List.map_cons,lay]
     refine ih _ (by simpa using hgl) ?_
     by_cases e:c=t
     ·subst e
      have hgt:=h.get c ht
      rw [List.getElem?_set]
      simp
      cases hf:fr[c]? with
      | none=>
        have hge:=List.getElem?_eq_none_iff.1 hf
        have : ¬ c < g.length:=by omega
        simp [this]
      | some v=>
        have hlt:c < fr.length:=by
         rcases Nat.lt_or_ge c fr.length with q | q
         ·exact q
         ·rw [List.getElem?_eq_none q] at hf;cases hf
        rw [hf] at hgt
        simp [hgl,hlt,hgt]
     ·rw [List.getElem?_set_ne e]; exact hg
  exact this cs _ (by rw [j69]) (by rw [j67]; simp [ht])
theorem FR.sub {τ:Nat->Tag} {fr fr':List Value} {a:Act} (h:FR τ fr a) (hl:fr'.length=fr.length) (hs:∀ (t:Nat) (u:Value),fr'[t]? = some u->u=zdj\/fr[t]? = some u):FR τ fr' a where
 size:=by rw [hl]; exact h.size
 val:=λ t u hu=>by
  rcases hs t u hu with rfl | e
  ·exact .top _
  ·exact h.val t u e
theorem Rl.sub {N:Nat} {τ:Nat->Tag} {fr fr':List Value} {S:St} {a:Act} {w:World} (h:Rl G N τ fr S a w) (hl:fr'.length=fr.length)
 (hs:∀ (t:Nat) (u:Value),fr'[t]? = some u->u=zdj\/fr[t]? = some u):Rl G N τ fr' S a w:=⟨h.fr.sub hl hs,h.defers,h.hr,h.no⟩
theorem Sim.join {W:List Nat} {c:Code} {fr fr':List Value} {S S':St} {e:X} (h:Sim P G W c fr S e fr' S') (cs:List Nat) :
 Sim P G W c fr S e (jsr W fr cs (z9e fr' cs)) S' where
 ag:=jss h.ag cs
 len:=h.len
 sim:=λ N τ a w hN hr=>wp_mono (h.sim N τ a w hN hr) λ e' a' w' ⟨he,τ',h1,h2⟩=>
  ⟨he,τ',h1.sub (by rw [jsu,h.ag.len]) λ t u hu=>jsv h.ag cs hu,h2⟩
def j65 (W:List Nat):Nat->List Value->(List Value->M ρ)->M ρ
 | _, [], K => K []
 | i, v :: l, K => match jwk i W with
   | true=>j65 W (i+1) l λ l'=>K (zdj :: l')
   | false=>j65 W (i+1) l λ l'=>K (v :: l')
theorem j66 (W:List Nat):∀ (i:Nat) (l:List Value) (K:List Value->M ρ),j65 W i l K=K (blank W i l)
 | i, [], K => rfl
 | i, v :: l, K => by
   simp only [j65,blank,j66 W (i+1) l]
   cases jwk i W <;> rfl
def jue:List Value->List Nat->List Value->(List Value->M ρ)->M ρ
 | fr, c :: cs, v :: vs, K => z80 fr c v λ fr => jue fr cs vs K
 | fr, [], _, K => K fr
 | fr, _ :: _, [], K => K fr
theorem juf:∀ (cs:List Nat) (fr vs:List Value) (K:List Value->M ρ),jue fr cs vs K=K (lay fr cs vs)
 | [], fr, vs, K => by cases vs <;> rfl
 | c :: cs, fr, [], K => rfl
 | c :: cs, fr, v :: vs, K => by simp only [jue, lay, z81, juf cs]
def jsw (W:List Nat) (fr:List Value) (cs:List Nat) (st:List Value) (K:List Value->M ρ):M ρ:=j65 W 0 fr λ fr=>jue fr cs st K
theorem jsx (W:List Nat) (fr:List Value) (cs:List Nat) (st:List Value) (K:List Value->M ρ):jsw W fr cs st K=K (jsr W fr cs st):=by
 simp only [jsw,jsr,j66,juf]
def z7w:List Value->(List Value->M ρ)->M ρ
 | [], K => K []
 | v :: l, K => z7w l λ l' => K (v :: l')
theorem z7x:∀ (l:List Value) (K:List Value->M ρ),z7w l K=K l
 | [], K => rfl
 | v :: l, K => by simp only [z7w, z7x l]
def z9c (fr:List Value):List Nat->(List Value->M ρ)->M ρ
 | [], K => K []
 | c :: cs, K => jed fr c λ v => z9c fr cs λ l => K (v :: l)
theorem z9d (fr:List Value):∀ (cs:List Nat) (K:List Value->M ρ),z9c fr cs K=K (z9e fr cs)
 | [], K => rfl
 | c :: cs, K => by simp only [z9c, jee, z9d fr cs, z9e, List.map_cons]
def wr:Code->List Nat
 | .region _ ops _ => zgr ops
 | .seq a b => wr a ++ wr b
 | .cond _ a b => wr a ++ wr b
 | .block _ a => wr a
 | .loop a => wr a
 | .scope a => wr a
 | _ => []
def j6n (A:Ann) (e:X) (fr:List Value):M (Nat×List Value):=jz2 (zez A.xs e) λ x=>z9c fr x.cs λ l=>M.ret (jsq A.xs e,l)
def j6o (A:Ann) (e:X) (fr:List Value):M (Nat×List Value):=match e with
 | .norm => z9c fr A.cs λ l => M.ret (0, l)
 | e => jz2 (zez A.xs e) λ x => z9c fr x.cs λ l => M.ret (jsq A.xs e + 1, l)
def ju1 (A:Ann) (W:List Nat) (fr:List Value) (ix:Nat) (st:List Value) (K:X->List Value->M ρ):M ρ:=
 z0t (A.xs.map λ x=>z2g x.zs st λ st=>jsw W fr x.cs st λ fr=>K x.e fr) ix
def X.leave (id:Nat):X->X
 | .ex i => match Nat.beq i id with
   | true=>.norm
   | false=>.ex i
 | e => e
theorem X.leave_eq (id:Nat) (e:X):e.leave id=if e = .ex id then .norm else e:=by
 cases e with
 | norm => rfl
 | ret => rfl
 | ex i =>
   by_cases h:i=id
   ·subst h;simp [X.leave]
   ·have h1:X.ex i≠X.ex id:=λ q=>h (by injection q)
    have h2:Nat.beq i id=false:=by
     cases hb:Nat.beq i id with
     | false=>rfl
     | true=>exact absurd (Nat.eq_of_beq_eq_true hb) h
    rw [if_neg h1]
    simp only [X.leave,h2]
def j7u (fr:List Value) (c:Operand) (t:Bool) (K:List Value->M ρ):M ρ:=match c with
 | .tmp s => z80 fr s (.bool t) K
 | _ => K fr
def j7s (fr:List Value) (c:Operand) (t:Bool):List Value:=match c with
 | .tmp s => fr.set s (.bool t)
 | _ => fr
theorem j7v {fr:List Value} {c:Operand} {t:Bool} (K:List Value->M ρ):j7u fr c t K=K (j7s fr c t):=by
 cases c <;> first | rfl | exact z81 _ _ _ _
theorem j7t {fr:List Value} {c:Operand} {t:Bool} (h:aev fr c = .bool t):j7s fr c t=fr:=by
 cases c with
 | tmp s =>
   simp only [aev,List.getD] at h
   simp only [j7s]
   apply List.ext_getElem?
   intro k
   by_cases e:s=k
   ·subst e
    cases hft:fr[s]? with
    | none=>simp [hft] at h
    | some u=>
      simp [hft] at h
      subst h
      have hlt:s < fr.length:=by
       rcases Nat.lt_or_ge s fr.length with h | h
       ·exact h
       ·rw [List.getElem?_eq_none h] at hft;cases hft
      rw [List.getElem?_set_self hlt]
   ·rw [List.getElem?_set_ne e]
 | _ => rfl
noncomputable def den (tb:Tb) (dr:Array Oper->List Value->(List Value->M (Nat×List Value))->M (Nat×List Value)) (an:Nat->Option Ann):Nat->Code->(X->List Value->M (Nat×List Value))->List Value->M (Nat×List Value)
 | _, .skip, K, fr => K .norm fr
 | _, .label _, K, fr => K .norm fr
 | _, .exit id, K, fr => K (.ex id) fr
 | _, .ret, K, fr => K .ret fr
 | p, .region _ ops false, K, fr => match an p with
   | none=>j9j tb ops (List.range ops.size) fr λ fr=>K .norm fr
   | some A=>M.bind (j9j tb ops (List.range ops.size) fr λ fr=>j6n A .norm fr) λ q=>ju1 A (zgr ops) fr q.1 q.2 K
 | _, .region _ ops true, K, fr => dr ops fr λ fr => K .norm fr
 | p, .seq a b, K, fr => match an p with
   | none=>den tb dr an (2*p) a (λ e fr=>match e with
     | .norm=>den tb dr an (2*p+1) b K fr
     | e=>K e fr) fr
   | some A=>M.bind (den tb dr an (2*p) a (j6n A) fr) λ q=>ju1 A (wr a) fr q.1 q.2 λ e fr=>match e with
     | .norm=>den tb dr an (2*p+1) b K fr
     | e=>K e fr
 | p, .cond c a b, K, fr => jyw (j7w c = true) (evs fr [c] [] λ ps => jyg (j27 ps c) λ t => bif t then j7u fr c true λ fr => den tb dr an (2 * p) a K fr else j7u fr c false λ fr => den tb dr an (2 * p + 1) b K fr)
 | p, .block id c, K, fr => den tb dr an (2 * p) c (λ e fr => K (e.leave id) fr) fr
 | p, .loop c, K, fr => match an p with
   | none=>M.fail
   | some A=>jyw (A.cs.all (jwk · (wr c))=true) (z9c fr A.cs λ st0=>M.bind (jw8 (λ st=>z2g A.zs st λ st=>jsw (wr c) fr A.cs st λ fr=>den tb dr an (2*p) c (j6o A) fr) st0) λ q=>
      ju1 A (wr c) fr (q.1-1) q.2 K)
 | _, _, _, _ => M.fail
end Go.AM
namespace Go.AM
open Go
variable {P:Program} {G:List (Nat×Obj)} {ρ:Type}
theorem j6p {A:Ann} {e:X} {fr:List Value} {S S':St} {q:Nat×List Value} (h:j6n A e fr S=some (q,S')) :
 ∃ x,zez A.xs e=some x/\q=(jsq A.xs e,z9e fr x.cs)/\S'=S:=by
 obtain ⟨x,h1,h2⟩:=jz3 h
 rw [z9d] at h2
 cases h2
 exact ⟨x,h1,rfl,rfl⟩
theorem ju2 {A:Ann} {W:List Nat} {fr:List Value} {ix:Nat} {st:List Value} {K:X->List Value->M ρ} {S:St} {r:ρ×St} (h:ju1 A W fr ix st K S=some r) {e:X} {x:Way}
 (he:zez A.xs e=some x) (hq:ix=jsq A.xs e):K e (jsr W fr x.cs st) S=some r:=by
 unfold ju1 at h
 rw [hq] at h
 have:=z2h (z14 (K:=λ x=>z2g x.zs st λ st=>jsw W fr x.cs st λ fr=>K x.e fr) he h)
 rw [zf0 he,jsx] at this
 exact this
def j0a (P:Program) (G:List (Nat×Obj)) (dr:Array Oper->List Value->(List Value->M (Nat×List Value))->M (Nat×List Value)):Prop:=
 ∀ ops fr K S r,dr ops fr K S=some r->∃ fr' S',K fr' S'=some r/\∀ id,Sim P G (zgr ops) (.region id ops true) fr S .norm fr' S'
theorem juo {t:Nat}:∀ {cs:List Nat} {g vs:List Value},t∉cs->(lay g cs vs)[t]? = g[t]?
 | [], g, vs, _ => by simp [lay]
 | c :: cs, g, [], _ => by simp [lay]
 | c :: cs, g, v :: vs, h => by
   simp only [lay]
   simp at h
   rw [juo h.2,List.getElem?_set_ne (λ e=>h.1 e.symm)]
theorem j68 {W:List Nat} {fr:List Value} {cs:List Nat} {st:List Value} (hcs:∀ t∈cs,t∈W):blank W 0 (jsr W fr cs st)=blank W 0 fr:=by
 apply List.ext_getElem?
 intro t
 rw [j67,j67]
 by_cases hW:t∈W
 ·have h1:(jsr W fr cs st).length=fr.length:=jsu
  by_cases hl:t < fr.length
  ·rw [List.getElem?_eq_getElem (h1 ▸ hl:t < (jsr W fr cs st).length),List.getElem?_eq_getElem hl]
   simp [hW]
  ·rw [List.getElem?_eq_none (by rw [h1]; omega),List.getElem?_eq_none (by omega)]
 ·have hc:t∉cs:=λ h=>hW (hcs t h)
  unfold jsr
  rw [juo hc,j67]
  cases fr[t]? with
  | none=>rfl
  | some v=>simp [hW]
theorem jst {W:List Nat} {fr:List Value} {cs cs':List Nat} {st st':List Value} (hcs:∀ t∈cs,t∈W):jsr W (jsr W fr cs st) cs' st'=jsr W fr cs' st':=by
 unfold jsr
 rw [show blank W 0 (lay (blank W 0 fr) cs st)=blank W 0 fr from j68 hcs]
theorem z6a {c:Code} {Q Q':Exit->Act->World->Prop} (hq:∀ e a w,Q e a w->Q' e a w):∀ {n:Nat} {a:Act} {w:World},Code.rounds P c Q n a w->Code.rounds P c Q' n a w
 | 0, _, _, h => h
 | n + 1, a, w, h => by
   rw [rounds_succ] at h ⊢
   refine wp_mono h λ e a w h=>?_
   cases e with
   | normal=>exact z6a hq h
   | _=>exact hq _ _ _ h
theorem jwc {c:Code} {A:Ann} {fr0:List Value} {b:List Value->M (Nat×List Value)} (hcs:∀ t∈A.cs,t∈wr c)
 (hb:∀ (st:List Value) (S:St) (q:Nat×List Value) (S':St),b st S=some (q,S')->∃ e fr',j6o A e fr' S'=some (q,S')/\Sim P G (wr c) c (jsr (wr c) fr0 A.cs st) S e fr' S') :
 ∀ (n:Nat) (st:List Value) (S:St) (q:Nat×List Value) (S':St),jso b n st S=some (q,S') ->
  ∃ e x,zez A.xs e=some x/\q.1=jsq A.xs e+1/\S.length<=S'.length/\Ag (wr c) (jsr (wr c) fr0 A.cs st) (jsr (wr c) fr0 x.cs q.2) /\
   ∀ N τ a w,S'.length<=N->Rl G N τ (jsr (wr c) fr0 A.cs st) S a w ->
    Code.rounds P c (λ e' a' w'=>e'=e.out/\∃ τ',Rl G N τ' (jsr (wr c) fr0 x.cs q.2) S' a' w'/\Ext τ S w τ' S' w') n a w:=by
 have hjoin:∀ (cs:List Nat) (st:List Value) (fr':List Value),Ag (wr c) (jsr (wr c) fr0 A.cs st) fr' ->
  (∀ (t:Nat) (u:Value),(jsr (wr c) fr0 cs (z9e fr' cs))[t]? = some u->u=zdj\/fr'[t]? = some u)/\(jsr (wr c) fr0 cs (z9e fr' cs)).length=fr'.length /\
  Ag (wr c) (jsr (wr c) fr0 A.cs st) (jsr (wr c) fr0 cs (z9e fr' cs)):=by
  intro cs st fr' hag
  rw [<- jst (st:=st) hcs]
  exact ⟨λ t u hu=>jsv hag cs hu,by rw [jsu,hag.len],jss hag cs⟩
 intro n
 induction n with
 | zero => intro st S q S' h; cases h
 | succ n ih =>
   intro st S q S' h
   obtain ⟨q1,S1,h1,h2⟩:=M.bind_some h
   obtain ⟨e1,fr1,hc,hsim⟩:=hb st S q1 S1 h1
   split at h2
   ·rename_i h0
    cases e1 with
    | norm=>
      simp only [j6o,z9d] at hc
      cases hc
      obtain ⟨j1,j2,j3⟩:=hjoin A.cs st fr1 hsim.ag
      obtain ⟨e,x,he,hq,hlen,hag,hall⟩:=ih _ _ _ _ h2
      refine ⟨e,x,he,hq,Nat.le_trans hsim.len hlen,j3.trans hag,λ N τ a w hN hr=>?_⟩
      rw [rounds_succ]
      refine wp_mono (hsim.sim N τ a w (by omega) hr) ?_
      rintro e' a' w' ⟨rfl,τ',k1,k2⟩
      have hr':Rl G N τ' (jsr (wr c) fr0 A.cs (z9e fr1 A.cs)) S1 a' w':=k1.sub j2 j1
      refine z6a ?_ (hall N τ' a' w' hN hr')
      rintro e2 a2 w2 ⟨h3,τ2,h4,h5⟩
      exact ⟨h3,τ2,h4,k2.trans h5 λ j hj hj'=>hr.no j (by have:=hsim.len;omega) (by omega)⟩
    | ex id=>
      obtain ⟨_,_,hc⟩:=jz3 hc
      rw [z9d] at hc
      cases hc
      exact absurd h0 (by simp)
    | ret=>
      obtain ⟨_,_,hc⟩:=jz3 hc
      rw [z9d] at hc
      cases hc
      exact absurd h0 (by simp)
   ·rename_i h0
    cases h2
    cases e1 with
    | norm=>simp only [j6o,z9d] at hc;cases hc;exact absurd rfl h0
    | ex id=>
      obtain ⟨x,he,hc⟩:=jz3 hc
      rw [z9d] at hc
      cases hc
      obtain ⟨j1,j2,j3⟩:=hjoin x.cs st fr1 hsim.ag
      refine ⟨.ex id,x,he,rfl,hsim.len,j3,λ N τ a w hN hr=>?_⟩
      rw [rounds_succ]
      refine wp_mono (hsim.sim N τ a w (by omega) hr) ?_
      rintro e' a' w' ⟨rfl,τ',k1,k2⟩
      exact ⟨rfl,τ',k1.sub j2 j1,k2⟩
    | ret=>
      obtain ⟨x,he,hc⟩:=jz3 hc
      rw [z9d] at hc
      cases hc
      obtain ⟨j1,j2,j3⟩:=hjoin x.cs st fr1 hsim.ag
      refine ⟨.ret,x,he,rfl,hsim.len,j3,λ N τ a w hN hr=>?_⟩
      rw [rounds_succ]
      refine wp_mono (hsim.sim N τ a w (by omega) hr) ?_
      rintro e' a' w' ⟨rfl,τ',k1,k2⟩
      exact ⟨rfl,τ',k1.sub j2 j1,k2⟩
theorem j9q {tb:Tb} (hT:j1g P G tb) {dr:Array Oper->List Value->(List Value->M (Nat×List Value))->M (Nat×List Value)} (hdr:j0a P G dr) (an:Nat->Option Ann) (c:Code) :
 ∀ (p:Nat) (K:X->List Value->M (Nat×List Value)) (fr:List Value) (S:St) (r:(Nat×List Value)×St),den tb dr an p c K fr S=some r ->
  ∃ e fr' S',K e fr' S'=some r/\Sim P G (wr c) c fr S e fr' S':=by
 induction c with
 | skip => intro p K fr S r h; exact ⟨_, _, _, h, .skip⟩
 | label l => intro p K fr S r h; exact ⟨_, _, _, h, .label⟩
 | exit id => intro p K fr S r h; exact ⟨_, _, _, h, .exit⟩
 | ret => intro p K fr S r h; exact ⟨_, _, _, h, .ret⟩
 | region id ops d =>
   intro p K fr S r h
   cases d with
   | false=>
     simp only [den] at h
     cases hA:an p with
     | none=>
       rw [hA] at h
       obtain ⟨fr',S',hk,hs⟩:=Sim.region (id:=id) hT h
       exact ⟨_,_,_,hk,hs⟩
     | some A=>
       rw [hA] at h
       obtain ⟨q,S1,h1,h2⟩:=M.bind_some h
       obtain ⟨fr',S',hk,hs⟩:=Sim.region (id:=id) hT h1
       obtain ⟨x,he,hq,hS⟩:=j6p hk
       rw [hS] at h2
       have:=ju2 h2 he (by rw [hq])
       rw [hq] at this
       exact ⟨_,_,_,this,hs.join x.cs⟩
   | true=>
     simp only [den] at h
     obtain ⟨fr',S',hk,hs⟩:=hdr _ _ _ _ _ h
     exact ⟨_,_,_,hk,hs id⟩
 | seq a b iha ihb =>
   intro p K fr S r h
   simp only [den] at h
   have hwa:∀ t,t∈wr a->t∈wr (.seq a b):=λ t ht=>by simp only [wr,List.mem_append]; exact .inl ht
   have hwb:∀ t,t∈wr b->t∈wr (.seq a b):=λ t ht=>by simp only [wr,List.mem_append]; exact .inr ht
   have tail:∀ {e:X} {fr':List Value} {S':St},(match e with | .norm=>den tb dr an (2*p+1) b K fr' | e=>K e fr':M (Nat×List Value)) S'=some r ->
    Sim P G (wr a) a fr S e fr' S'->∃ e fr' S',K e fr' S'=some r/\Sim P G (wr (.seq a b)) (.seq a b) fr S e fr' S':=by
    intro e fr' S' hk hs
    cases e with
    | norm=>
      obtain ⟨e2,fr2,S2,hk2,hs2⟩:=ihb _ _ _ _ _ hk
      exact ⟨_,_,_,hk2,(hs.mono hwa).seq (hs2.mono hwb)⟩
    | ex id=>exact ⟨_,_,_,hk,(hs.mono hwa).seq_out (by simp)⟩
    | ret=>exact ⟨_,_,_,hk,(hs.mono hwa).seq_out (by simp)⟩
   cases hA:an p with
   | none=>
     rw [hA] at h
     obtain ⟨e,fr',S',hk,hs⟩:=iha _ _ _ _ _ h
     exact tail hk hs
   | some A=>
     rw [hA] at h
     obtain ⟨q,S1,h1,h2⟩:=M.bind_some h
     obtain ⟨e,fr',S',hk,hs⟩:=iha _ _ _ _ _ h1
     obtain ⟨x,he,hq,hS⟩:=j6p hk
     rw [hS] at h2
     have:=ju2 h2 he (by rw [hq])
     rw [hq] at this
     exact tail this (hs.join x.cs)
 | cond c a b iha ihb =>
   intro p K fr S r h
   simp only [den] at h
   obtain ⟨hc,h⟩:=jyx h
   obtain ⟨ps,h,hps⟩:=jbl h
   obtain ⟨t,ht,h⟩:=jyh h
   rw [hps c (by simp)] at ht
   rcases j61 h with ⟨hb,h9⟩ | ⟨hb,h9⟩
   ·subst hb
    rw [j7v,j7t ht] at h9
    obtain ⟨e,fr',S',hk,hs⟩:=iha _ _ _ _ _ h9
    exact ⟨_,_,_,hk,Sim.cond ht hc (by simpa using hs.mono λ t ht=>by simp only [wr,List.mem_append]; exact .inl ht)⟩
   ·subst hb
    rw [j7v,j7t ht] at h9
    obtain ⟨e,fr',S',hk,hs⟩:=ihb _ _ _ _ _ h9
    exact ⟨_,_,_,hk,Sim.cond ht hc (by simpa using hs.mono λ t ht=>by simp only [wr,List.mem_append]; exact .inr ht)⟩
 | block id c ih =>
   intro p K fr S r h
   simp only [den] at h
   obtain ⟨e,fr',S',hk,hs⟩:=ih _ _ _ _ _ h
   exact ⟨_,_,_,hk,by rw [X.leave_eq]; exact hs.block⟩
 | loop c ih =>
   intro p K fr S r h
   simp only [den] at h
   cases hA:an p with
   | none=>rw [hA] at h;cases h
   | some A=>
     rw [hA] at h
     obtain ⟨hcs,h⟩:=jyx h
     have hcs':∀ t∈A.cs,t∈wr c:=λ t ht=>jwm.1 (List.all_eq_true.1 hcs t ht)
     rw [z9d] at h
     obtain ⟨q,S1,h1,h2⟩:=M.bind_some h
     obtain ⟨n,hn⟩:=jwb h1
     obtain ⟨e,x,he,hq,hlen,hag,hall⟩:=jwc (P:=P) (G:=G) (c:=c) (A:=A) (fr0:=fr) hcs' (by
      intro st S q S' hb
      obtain ⟨e,fr',S2,hk,hs⟩:=ih _ _ _ _ _ (by
       have:=z2h (K:=λ st=>jsw (wr c) fr A.cs st λ fr=>den tb dr an (2*p) c (j6o A) fr) hb
       rw [jsx] at this
       exact this)
      have : S2=S':=by
       cases e with
       | norm=>simp only [j6o,z9d] at hk;cases hk;rfl
       | ex id=>obtain ⟨_,_,hk⟩:=jz3 hk;rw [z9d] at hk;cases hk;rfl
       | ret=>obtain ⟨_,_,hk⟩:=jz3 hk;rw [z9d] at hk;cases hk;rfl
      subst this
      exact ⟨e,fr',hk,hs⟩) n _ _ _ _ hn
     have hl:=ju2 h2 he (by simp [hq])
     refine ⟨e,_,S1,hl,?_,hlen,λ N τ a w hN hr=>?_⟩
     ·exact (jss (Ag.refl (wr c) fr) A.cs).trans hag
     ·refine wp_loop_rounds n ?_
      exact hall N τ a w hN (hr.sub jsu λ t u hu=>jsv (Ag.refl (wr c) fr) A.cs hu)
 | rangeFunc f ps a b _ _ => intro p K fr S r h; simp only [den] at h; cases h
 | scope a _ => intro p K fr S r h; simp only [den] at h; cases h
 | goto l => intro p K fr S r h; simp only [den] at h; cases h
 | refuse w => intro p K fr S r h; simp only [den] at h; cases h
end Go.AM
namespace Go.AM
open Go
variable {P:Program} {G:List (Nat×Obj)} {ρ:Type}
def zdz:List Value->Value
 | [v] => v
 | l => .tuple ⟨l⟩
def z5r (tmps:Array Value):ResultVar->Sem Value
 | .tmp t => pure (tmps.getD t undef)
 | .cell a t => do loadVar t (<- asAddr (tmps.getD a undef))
theorem z5v (fn:Func) (tmps:Array Value):results fn tmps=(do let vs <- fn.results.mapM (z5r tmps); pure (if h:vs.size=1 then vs[0] else .tuple vs)):=by
 unfold results
 congr 1
def z5p (T:TypeId->Option TI) (fr:List Value):List ResultVar->(List Value->M ρ)->M ρ
 | [], K => K []
 | .tmp t :: l, K => jed fr t λ v => z5p T fr l λ vs => K (v :: vs)
 | .cell a t :: l, K => jed fr a λ v => j94 T t v λ u => z5p T fr l λ vs => K (u :: vs)
theorem z5q {T:TypeId->Option TI} (hT:TOK P T) {fr:List Value}:∀ {l:List ResultVar} {K:List Value->M ρ} {S:St} {r:ρ×St},z5p T fr l K S=some r ->
 ∃ vs,K vs S=some r/\∀ τ a w,FR τ fr a->HR G τ S w->∃ vs',(l.mapM (z5r a.tmps)).run P w = .ok vs' w/\VRs τ vs vs'
 | [], K, S, r, h => ⟨[], h, λ τ a w _ _ => ⟨[], by simp, .nil⟩⟩
 | .tmp t :: l, K, S, r, h => by
   simp only [z5p,jee] at h
   obtain ⟨vs,hk,hs⟩:=z5q hT h
   refine ⟨_,hk,λ τ a w hf hr=>?_⟩
   obtain ⟨vs',h1,h2⟩:=hs τ a w hf hr
   refine ⟨a.tmps.getD t undef :: vs',?_,.cons ?_ h2⟩
   ·have h3:(z5r a.tmps (.tmp t)).run P w = .ok (a.tmps.getD t undef) w:=rfl
    rw [List.mapM_cons,Sem.run_bind,h3,Result.andThen_ok,Sem.run_bind,h1]
    rfl
   ·have:=hf.eval (x:=.tmp t) rfl
    simpa [aev,Act.eval] using this
 | .cell c t :: l, K, S, r, h => by
   simp only [z5p,jee] at h
   obtain ⟨u, hl, hq, _⟩ := z8s (P := P) (G := G) (x := .tmp c) (d := none) (ty := 0) (ps := "") (ed := #[]) (gd := none) (f := aev fr) hT h
   obtain ⟨vs,hk,hs⟩:=z5q hT hl
   refine ⟨_,hk,λ τ a w hf hr=>?_⟩
   obtain ⟨vs',h1,h2⟩:=hs τ a w hf hr
   have hv:=hf.eval (x:=.tmp c) rfl
   obtain ⟨i,hi,h5⟩:=jz9 h
   obtain ⟨ad,hx,_⟩:=jz5 h5
   have hv2:VR τ (.pointer (some ad)) (a.eval (.tmp c)):=by
    rw [<- hx]; simpa [aev] using hv
   obtain ⟨y,hy,_⟩:=hv2.ptr_inv
   obtain ⟨u',h6,h7⟩:=hq τ a w (λ z hz=>by
    simp [Op.operands] at hz
    subst hz
    exact hv) hr
   refine ⟨u' :: vs',?_,.cons h7 h2⟩
   have h3:(z5r a.tmps (.cell c t)).run P w = .ok u' w:=by
    have e1:a.tmps.getD c undef = .pointer (some y):=by simpa [Act.eval] using hy
    have e2:((loadVar t y).run P w).andThen (λ v w=>.ok (Next.value v) w) = .ok (Next.value u') w:=by
     rw [<- h6]
     simp [execOp,Instr.loadAt,hy,Instr.sureAddr,Result.andThen]
     try rfl
    have e3:(loadVar t y).run P w = .ok u' w:=by
     cases hq2:(loadVar t y).run P w <;> rw [hq2] at e2 <;> simp [Result.andThen] at e2
     rw [e2.1,e2.2]
    simp [z5r,e1,asAddr,e3]
   rw [List.mapM_cons,Sem.run_bind,h3,Result.andThen_ok,Sem.run_bind,h1]
   rfl
theorem z74 {fn:Func} {l:List ResultVar} (hl:fn.results.toList=l) {tmps:Array Value} {w:World} {vs:List Value} (h:(l.mapM (z5r tmps)).run P w = .ok vs w) :
 (results fn tmps).run P w = .ok (zdz vs) w:=by
 rw [z5v,Array.mapM_eq_mapM_toList,hl,Sem.run_bind,Sem.run_map,h]
 cases vs with
 | nil => rfl
 | cons t ts => cases ts with
   | nil=>rfl
   | cons t2 ts=>rfl
theorem ze0 {τ:Nat->Tag} {vs vs':List Value} (h:VRs τ vs vs'):VR τ (zdz vs) (zdz vs'):=by
 cases h with
 | nil => exact .tuple .nil
 | cons a h => cases h with
   | nil=>exact a
   | cons b h=>exact .tuple (.cons a (.cons b h))
def jzc (q:Nat×List Value):M Value:=match q.2 with
 | [v] => M.ret v
 | _ => M.fail
def jvu:List (Nat×Ann)->Nat->Option Ann
 | [], _ => none
 | (q, a) :: l, p => match Nat.beq q p with
   | true=>some a
   | false=>jvu l p
def jw4:List (Nat×TI)->TypeId->Option TI
 | [], _ => none
 | (q, a) :: l, p => match Nat.beq q p with
   | true=>some a
   | false=>jw4 l p
def j06 (P:Program):List (Nat×TI)->Prop
 | [] => True
 | (t, i) :: l => zd5 P t = some i /\ j06 P l
theorem jw5:∀ {L:List (Nat×TI)},j06 P L->TOK P (jw4 L)
 | [], _ => λ t i h => by cases h
 | (q, a) :: l, hall => λ t i h => by
   simp only [jw4] at h
   split at h
   ·rename_i hb
    have:=Nat.eq_of_beq_eq_true hb
    subst this
    cases h
    exact hall.1
   ·exact jw5 hall.2 t i h
def j0i (P:Program) (G:List (Nat×Obj)) (k:FuncId) (g:List Value->M Value):Prop:=
 ∀ args S v S',g args S=some (v,S')->Enters P k/\SC P G k args S v S'
def j02 (P:Program) (G:List (Nat×Obj)):List (Nat×(List Value->M Value))->Prop
 | [] => True
 | (k, g) :: l => j0i P G k g /\ j02 P G l
noncomputable def fnD (tb:Tb) (dr:Array Oper->List Value->(List Value->M (Nat×List Value))->M (Nat×List Value)) (an:Nat->Option Ann) (c:Code) (nt:Nat) (ts:List ResultVar) (args:List Value):M Value:=
 M.bind (z7w (args++List.replicate (nt-args.length) undef) λ fr=>den tb dr an 1 c (λ e fr=>match e with
  | .ex _=>M.fail
  | _=>z5p tb.T fr ts λ l=>M.ret (0,[zdz l])) fr) jzc
theorem jd9 {tb:Tb} (hT:j1g P G tb) {dr:Array Oper->List Value->(List Value->M (Nat×List Value))->M (Nat×List Value)} (hdr:j0a P G dr) {an:Nat->Option Ann}
 {k:FuncId} {fn:Func} {c:Code} {nt:Nat} {ts:List ResultVar} (hf:P.funcs[k]? = some fn) (hb:fn.body=some c) (hn:fn.ntmps=nt) (hr:fn.results.toList=ts)
 (hne : fn.name ≠ "runtime.NumGoroutine") {args : List Value} {S S' : St} {v : Value} (h : fnD tb dr an c nt ts args S = some (v, S')) : Enters P k ∧ SC P G k args S v S' := by
 refine ⟨enters_of hf hb hne,?_⟩
 obtain ⟨q,S1,h1,h2⟩:=M.bind_some h
 rw [z7x] at h1
 obtain ⟨e,fr',S2,hk,hs⟩:=j9q hT hdr an c _ _ _ _ _ h1
 have hk2:(∀ id,e≠.ex id)/\z5p tb.T fr' ts (λ l=>M.ret (0,[zdz l])) S2=some (q,S1):=by
  cases e with
  | ex id=>cases hk
  | norm=>exact ⟨λ _ q=>(by cases q),hk⟩
  | ret=>exact ⟨λ _ q=>(by cases q),hk⟩
 obtain ⟨he,hk3⟩:=hk2
 obtain ⟨vs,hk4,hres0⟩:=z5q hT.T (G:=G) hk3
 cases hk4
 cases h2
 refine ⟨hs.len,λ N τ w args' hN hno hv hr'=>?_⟩
 have hlen:=hv.length
 refine calls_of_wp hf hb ?_
 have hsz:(⟨args'⟩:Array Value).size=args.length:=by simp [hlen]
 have hfr:FR τ (args++List.replicate (nt-args.length) undef) { tmps:=⟨args'⟩ ++ Array.replicate (fn.ntmps-(⟨args'⟩:Array Value).size) undef,defers:=[] }:=by
  refine ⟨by simp [hlen,hn],λ t u hu=>?_⟩
  rw [hsz,hn]
  by_cases ht:t < args.length
  ·rw [List.getElem?_append_left ht] at hu
   obtain ⟨u',h3,h4⟩:=hv.get hu
   have ht':t < args'.length:=by omega
   have : args'[t]=u':=by rw [List.getElem?_eq_getElem ht'] at h3;exact Option.some.inj h3
   have hb2:t < args'.length+(nt-args.length):=by omega
   simp [Array.getElem?_append,ht',this,h4]
  ·rw [List.getElem?_append_right (by omega)] at hu
   rw [List.getElem?_replicate] at hu
   split at hu
   ·cases hu
    have ht':¬ t < args'.length:=by omega
    have : VR τ undef undef:=.tuple .nil
    simp only [Array.getD_eq_getD_getElem?]
    rw [Array.getElem?_append_right (by simp;omega)]
    simp only [Array.getElem?_replicate]
    split <;> simpa using this
   ·cases hu
 refine wp_mono (hs.sim N τ _ w hN ⟨hfr,rfl,hr',hno⟩) ?_
 rintro e' a' w' ⟨rfl,τ',h3,h4⟩
 have hres:∃ v',(results fn a'.tmps).run P w' = .ok v' w'/\VR τ' (zdz vs) v':=by
  obtain ⟨vs',g1,g2⟩:=hres0 τ' a' w' h3.fr h3.hr
  exact ⟨_,z74 hr g1,ze0 g2⟩
 obtain ⟨v',h5,h6⟩:=hres
 cases e with
 | ex id => exact absurd rfl (he id)
 | norm => exact ⟨h3.defers, v', h5, v', rfl, τ', h6, h3.hr, h4⟩
 | ret => exact ⟨h3.defers, v', h5, v', rfl, τ', h6, h3.hr, h4⟩
end Go.AM
namespace Go.AM
open Go
variable {P:Program} {G:List (Nat×Obj)} {ρ:Type}
def j62 (e:Edge):Bool:=Region.binds .any e
def j2v (ops:Array Oper) (A:List (List Nat)):Bool:=
 (List.range ops.size).all λ i=>match ops[i]? with
   | none=>true
   | some o=>o.after.toList.all (λ e=>!j62 e || jwk e.on (A.getD i [])) &&
      (A.getD i []).all λ j=>decide (j < i) && o.after.toList.any λ e=>j62 e && (decide (e.on=j) || jwk j (A.getD e.on []))
theorem j2x {ops:Array Oper} {A:List (List Nat)} (h:j2v ops A=true) {i:Nat} {o:Oper} (ho:ops[i]? = some o) {e:Edge} (he:e∈o.after) (hb:Region.binds .any e=true) :
 e.on∈A.getD i []:=by
 have hi:i < ops.size:=by
  rcases Nat.lt_or_ge i ops.size with h | h
  ·exact h
  ·rw [Array.getElem?_eq_none h] at ho;cases ho
 have h1:=List.all_eq_true.1 h i (by simp [hi])
 simp only [ho] at h1
 rw [Bool.and_eq_true] at h1
 have h2:=List.all_eq_true.1 h1.1 e (by simpa using he)
 simp only [j62,hb,Bool.not_true,Bool.false_or] at h2
 exact jwm.1 h2
theorem j2w {ops:Array Oper} {A:List (List Nat)} (h:j2v ops A=true) {i j:Nat} {o:Oper} (ho:ops[i]? = some o) (hj:j∈A.getD i []) :
 j < i/\∃ e∈o.after,Region.binds .any e=true/\(e.on=j\/j∈A.getD e.on []):=by
 have hi:i < ops.size:=by
  rcases Nat.lt_or_ge i ops.size with h | h
  ·exact h
  ·rw [Array.getElem?_eq_none h] at ho;cases ho
 have h1:=List.all_eq_true.1 h i (by simp [hi])
 simp only [ho] at h1
 rw [Bool.and_eq_true] at h1
 have h2:=List.all_eq_true.1 h1.2 j hj
 rw [Bool.and_eq_true] at h2
 refine ⟨by simpa using h2.1,?_⟩
 obtain ⟨e,he,h3⟩:=List.any_eq_true.1 h2.2
 rw [Bool.and_eq_true,Bool.or_eq_true] at h3
 refine ⟨e,by simpa using he,h3.1,?_⟩
 rcases h3.2 with h4 | h4
 ·exact .inl (by simpa using h4)
 ·exact .inr (jwm.1 h4)
theorem j2z {ops:Array Oper} {A:List (List Nat)} (h:j2v ops A=true) {D:Nat->Prop} (hD:∀ i o,D i->ops[i]? = some o->∀ e∈o.after,Region.binds .any e=true->D e.on) :
 ∀ (i j:Nat) (o:Oper),ops[i]? = some o->(∀ e∈o.after,Region.binds .any e=true->D e.on)->j∈A.getD i []->D j:=by
 intro i
 induction i using Nat.strongRecOn with
 | _ i ih =>
   intro j o ho hed hj
   obtain ⟨_,e,he,hb,h1⟩:=j2w h ho hj
   have hde:=hed e he hb
   have hlt:=(j2w h ho (j2x h ho he hb)).1
   rcases h1 with rfl | h1
   ·exact hde
   ·cases ho':ops[e.on]? with
    | none=>
      have : A.getD e.on []=A.getD e.on []:=rfl
      exfalso
      have : ops.size<=e.on:=Array.getElem?_eq_none_iff.1 ho'
      have hi:i < ops.size:=by
       rcases Nat.lt_or_ge i ops.size with h | h
       ·exact h
       ·rw [Array.getElem?_eq_none h] at ho;cases ho
      omega
    | some o'=>exact ih e.on hlt j o' ho' (λ e' he' hb'=>hD e.on o' hde ho' e' he' hb') h1
def ja9 (x y:Oper) (ops:Array Oper):Bool:=match x.dst with
 | none => false
 | some d => jwk d (y.looksAt ops)
def z79 (x y:Oper):Bool:=match x.dst,y.dst with
 | some a, some b => Nat.beq a b
 | _, _ => false
def isE:Cls->Bool
 | .eff => true
 | _ => false
def isR:Cls->Bool
 | .read => true
 | _ => false
def jzz (tb:Tb) (ops:Array Oper) (A:List (List Nat)) (i j:Nat):Bool:=
 match ops[i]?,ops[j]? with
 | some x, some y => !Nat.beq i j && !jwk j (A.getD i []) && (!ja9 y x ops || jwk i (A.getD j [])) && (!ja9 x y ops || jwk i (A.getD j [])) && !z79 x y &&
    (!isE (cls tb x.op) || !(isE (cls tb y.op) || isR (cls tb y.op)) || jwk i (A.getD j []))
 | _, _ => false
def z1e (tb:Tb) (ops:Array Oper) (A:List (List Nat)):List Nat->Bool
 | [] => true
 | i :: l => (match ops[i]? with
    | some x=>!ja9 x x ops && x.op.operands.toList.all j7w
    | none=>false) && l.all (jzz tb ops A i) && z1e tb ops A l
def j2y (ops:Array Oper):List (List Nat):=
 ops.toList.foldl (λ acc o=>acc++[o.after.toList.foldl (λ s e=>bif j62 e then (e.on :: acc.getD e.on []).foldl (λ s j=>bif jwk j s then s else j :: s) s else s) []]) []
def j6l (tb:Tb) (ops:Array Oper) (A:List (List Nat)):Nat->List Nat->List Nat->List Nat
 | 0, _, done => done.reverse
 | n + 1, left, done =>
   let ready:=left.filter λ i=>(A.getD i []).all λ j=>jwk j done
   let quiet:=ready.filter λ i=>match ops[i]? with
    | some o=>!isE (cls tb o.op)
    | none=>true
   match quiet,ready with
   | i :: _,_=>j6l tb ops A n (left.filter λ j=>!Nat.beq j i) (i :: done)
   | [],i :: _=>j6l tb ops A n (left.filter λ j=>!Nat.beq j i) (i :: done)
   | [],[]=>done.reverse
open Classical in
/-- It reads the same. -/
noncomputable def chk (m:M Value) (v:Value):M Unit:=λ S=>if m S=some (v,S) then some ((),S) else none
theorem j7i {m:M Value} {v:Value} {S S':St} {u:Unit} (h:chk m v S=some (u,S')):m S=some (v,S)/\S'=S:=by
 unfold chk at h
 split at h
 ·cases h;exact ⟨‹_›,rfl⟩
 ·cases h
noncomputable def j7j:List (Nat×M Value×Value)->M ρ->M ρ
 | [], k => k
 | x :: l, k => M.bind (chk x.2.1 x.2.2) λ _ => j7j l k
theorem j7k:∀ {l:List (Nat×M Value×Value)} {k:M ρ} {S:St} {r:ρ×St},j7j l k S=some r->k S=some r/\∀ x∈l,x.2.1 S=some (x.2.2,S)
 | [], k, S, r, h => ⟨h, λ x hx => by simp at hx⟩
 | x :: l, k, S, r, h => by
   obtain ⟨u,S',h1,h2⟩:=M.bind_some h
   obtain ⟨h3,hS⟩:=j7i h1
   rw [hS] at h2
   obtain ⟨h4,h5⟩:=j7k h2
   refine ⟨h4,λ y hy=>?_⟩
   rcases List.mem_cons.1 hy with rfl | hy
   ·exact h3
   ·exact h5 y hy
noncomputable def dGo (tb:Tb) (ops:Array Oper) (A:List (List Nat)):List Nat->List Value->List (Nat×M Value×Value)->(List Value->M ρ)->M ρ
 | [], fr, _, K => K fr
 | i :: l, fr, rs, K => jz2 ops[i]? λ o => j8y ops o fr
   (λ fr=>evs fr o.op.operands.toList [] λ ps=>match cls tb o.op with
     | .pure=>j9f tb o (j27 ps) λ v=>z3d fr o.dst v λ fr=>dGo tb ops A l fr rs K
     | .make=>j96 tb o (j27 ps) λ v=>z3d fr o.dst v λ fr=>dGo tb ops A l fr rs K
     | .read=>j9g tb o (j27 ps) λ v=>z3d fr o.dst v λ fr=>dGo tb ops A l fr ((i,j9g tb o (j27 ps) M.ret,v) :: rs) K
     | .eff=>j8t tb o (j27 ps) λ v=>j7j (rs.filter λ x=>!jwk x.1 (A.getD i [])) (z3d fr o.dst v λ fr=>dGo tb ops A l fr rs K)
     | .none=>M.fail)
   (λ fr=>z3d fr o.dst undef λ fr=>dGo tb ops A l fr rs K)
noncomputable def j8s (tb:Tb) (ops:Array Oper) (fr:List Value) (K:List Value->M ρ):M ρ:=
 jyw (j2v ops (j2y ops)=true/\z1e tb ops (j2y ops) (j6l tb ops (j2y ops) ops.size (List.range ops.size) [])=true /\
  (List.range ops.size).all (λ i=>jwk i (j6l tb ops (j2y ops) ops.size (List.range ops.size) []))=true)
  (dGo tb ops (j2y ops) (j6l tb ops (j2y ops) ops.size (List.range ops.size) []) fr [] K)
structure Rec where
 i:Nat
 o:Oper
 kd:Cls
 v:Value
 fr:List Value
 S:St
 S':St
 x:j00
 mkv:Nat->Value
 m:M Value
structure j13 (P:Program) (G:List (Nat×Obj)) (tb:Tb) (ops:Array Oper) (r:Rec):Prop where
 op:ops[r.i]? = some r.o
 kd:r.kd = .none\/r.kd=cls tb r.o.op
 gno:r.kd = .none->r.S'=r.S/\r.v=undef/\∀ τ a,GR τ ops r.o r.fr a->Region.wanted r.o (yielded ops a.tmps)=false
 gyes:r.kd≠.none->∀ τ a,GR τ ops r.o r.fr a->Region.wanted r.o (yielded ops a.tmps)=true
 pure:r.kd = .pure->r.S'=r.S/\∀ S,j0z P G r.o (aev r.fr) S r.v
 make:r.kd = .make->r.S'=r.S++[r.x]/\r.v=r.mkv r.S.length/\j01 P r.o (aev r.fr) r.x r.mkv
 read:r.kd = .read->r.S'=r.S/\r.m r.S=some (r.v,r.S)/\∀ S,r.m S=some (r.v,S)->j0z P G r.o (aev r.fr) S r.v
 eff:r.kd = .eff->j0t P G r.o (aev r.fr) r.S r.v r.S'
def j08:St->List Value->List Rec->St->List Value->Prop
 | S, fr, [], S', fr' => S' = S /\ fr' = fr
 | S, fr, r :: l, S', fr' => r.S = S /\ r.fr = fr /\ j08 r.S' (z3c fr r.o.dst r.v) l S' fr'
def j0e (A:List (List Nat)) (r q:Rec):Prop:=r.kd = .read->q.kd = .eff->r.i∉A.getD q.i []->r.m q.S'=some (r.v,q.S')
theorem jen {tb:Tb} (hT:j1g P G tb) {ops:Array Oper} {A:List (List Nat)}:∀ {l:List Nat} {fr:List Value} {rs:List (Nat×M Value×Value)} {K:List Value->M ρ} {S:St} {r:ρ×St},
 dGo tb ops A l fr rs K S=some r->∃ tr fr' S',K fr' S'=some r/\tr.map (·.i)=l/\j08 S fr tr S' fr'/\(∀ q∈tr,j13 P G tb ops q)/\tr.Pairwise (j0e A) /\
  ∀ x∈rs,∀ q∈tr,q.kd = .eff->x.1∉A.getD q.i []->x.2.1 q.S'=some (x.2.2,q.S')
 | [], fr, rs, K, S, r, h => ⟨[], fr, S, h, rfl, ⟨rfl, rfl⟩, λ q hq => by simp at hq, .nil, λ x _ q hq => by simp at hq⟩
 | i :: l, fr, rs, K, S, r, h => by
   obtain ⟨o,ho,h⟩:=jz3 h
   -- one operation is put ahead of what follows
   have cons:∀ (q:Rec) (rs':List (Nat×M Value×Value)),q.i=i->q.o=o->q.S=S->q.fr=fr->j13 P G tb ops q->dGo tb ops A l (z3c fr o.dst q.v) rs' K q.S'=some r->(∀ x∈rs,x∈rs') ->
    (q.kd = .read->(i,q.m,q.v)∈rs')->(q.kd = .eff->∀ x∈rs,x.1∉A.getD i []->x.2.1 q.S'=some (x.2.2,q.S')) ->
    ∃ tr fr' S',K fr' S'=some r/\tr.map (·.i)=i :: l/\j08 S fr tr S' fr'/\(∀ q∈tr,j13 P G tb ops q)/\tr.Pairwise (j0e A) /\
     ∀ x∈rs,∀ q∈tr,q.kd = .eff->x.1∉A.getD q.i []->x.2.1 q.S'=some (x.2.2,q.S'):=by
    intro q rs' h1 h2 h3 h4 h5 h6 h7 h8 h9
    obtain ⟨tr,fr',S',k1,k2,k3,k4,k5,k6⟩:=jen hT h6
    refine ⟨q :: tr,fr',S',k1,by simp [h1,k2],⟨h3,h4,by rw [h2]; exact k3⟩,?_,?_,?_⟩
    ·intro q' hq'
     rcases List.mem_cons.1 hq' with rfl | hq'
     ·exact h5
     ·exact k4 q' hq'
    ·refine List.pairwise_cons.2 ⟨λ q' hq' hr he hn=>?_,k5⟩
     exact k6 (i,q.m,q.v) (h8 hr) q' hq' he (by rw [<- h1]; exact hn)
    ·intro x hx q' hq' he hn
     rcases List.mem_cons.1 hq' with rfl | hq'
     ·exact h9 he x hx (by rw [<- h1]; exact hn)
     ·exact k6 x (h7 x hx) q' hq' he hn
   rcases jr2 h with ⟨h,hw⟩ | ⟨h,hw⟩
   ·obtain ⟨ps,h,hps⟩:=jbl h
    have hcg:∀ x∈o.op.operands,j27 ps x=aev fr x:=λ x hx=>hps x (by simpa using hx)
    cases hc:cls tb o.op with
    | none=>simp only [hc] at h;cases h
    | pure=>
      simp only [hc] at h
      obtain ⟨v,hk,hs⟩:=z39 hT h
      rw [z3e] at hk
      exact cons ⟨i,o,.pure,v,fr,S,S,.dead,λ _=>undef,M.fail⟩ rs rfl rfl rfl rfl ⟨ho,.inr hc.symm,λ q=>(by cases q),λ _=>hw,λ _=>⟨rfl,λ S=>(hs S).congr hcg⟩,
       λ q=>(by cases q),λ q=>(by cases q),λ q=>(by cases q)⟩ hk (λ x hx=>hx) (λ q=>(by cases q)) (λ q=>(by cases q))
    | make=>
      simp only [hc] at h
      obtain ⟨x,mk,hk,hs⟩:=jwe hT h
      rw [z3e] at hk
      exact cons ⟨i,o,.make,mk S.length,fr,S,S++[x],x,mk,M.fail⟩ rs rfl rfl rfl rfl ⟨ho,.inr hc.symm,λ q=>(by cases q),λ _=>hw,λ q=>(by cases q),
       λ _=>⟨rfl,rfl,hs.congr hcg⟩,λ q=>(by cases q),λ q=>(by cases q)⟩ hk (λ x hx=>hx) (λ q=>(by cases q)) (λ q=>(by cases q))
    | read=>
      simp only [hc] at h
      obtain ⟨v,hk,hs,hall⟩:=z56 hT h
      rw [z3e] at hk
      refine cons ⟨i,o,.read,v,fr,S,S,.dead,λ _=>undef,j9g tb o (j27 ps) M.ret⟩ ((i,j9g tb o (j27 ps) M.ret,v) :: rs) rfl rfl rfl rfl ⟨ho,.inr hc.symm,λ q=>(by cases q),λ _=>hw,λ q=>(by cases q),
       λ q=>(by cases q),λ _=>⟨rfl,hall M.ret,λ S2 h2=>?_⟩,λ q=>(by cases q)⟩ hk (λ x hx=>by simp [hx]) (λ _=>by simp) (λ q=>(by cases q))
      obtain ⟨v2,hk2,hs2,_⟩:=z56 hT h2
      cases hk2
      exact hs2.congr hcg
    | eff=>
      simp only [hc] at h
      obtain ⟨v,S1,hk,hs⟩:=jao hT h
      obtain ⟨hk,hck⟩:=j7k hk
      rw [z3e] at hk
      exact cons ⟨i,o,.eff,v,fr,S,S1,.dead,λ _=>undef,M.fail⟩ rs rfl rfl rfl rfl ⟨ho,.inr hc.symm,λ q=>(by cases q),λ _=>hw,λ q=>(by cases q),
       λ q=>(by cases q),λ q=>(by cases q),λ _=>hs.congr hcg⟩ hk (λ x hx=>hx) (λ q=>(by cases q))
       (λ _ x hx hn=>hck x (List.mem_filter.2 ⟨hx,by
         have : jwk x.1 (A.getD i [])=false:=by
          cases hm:jwk x.1 (A.getD i []) with
          | false=>rfl
          | true=>exact absurd (jwm.1 hm) hn
         show (!jwk x.1 (A.getD i []))=true
         rw [this]; rfl⟩))
   ·rw [z3e] at h
    exact cons ⟨i,o,.none,undef,fr,S,S,.dead,λ _=>undef,M.fail⟩ rs rfl rfl rfl rfl ⟨ho,.inl rfl,λ _=>⟨rfl,rfl,hw⟩,λ q=>absurd rfl q,λ q=>(by cases q),
     λ q=>(by cases q),λ q=>(by cases q),λ q=>(by cases q)⟩ h (λ x hx=>hx) (λ q=>(by cases q)) (λ q=>(by cases q))
end Go.AM
namespace Go.AM
open Go
variable {P:Program} {G:List (Nat×Obj)} {ρ:Type}
theorem j7b:∀ {a b:List Rec} {S S':St} {fr fr':List Value},j08 S fr (a++b) S' fr'->∃ X f,j08 S fr a X f/\j08 X f b S' fr'
 | [], b, S, S', fr, fr', h => ⟨S, fr, ⟨rfl, rfl⟩, h⟩
 | r :: a, b, S, S', fr, fr', h => by
   obtain ⟨h1,h2,h3⟩:=h
   obtain ⟨X,f,h4,h5⟩:=j7b h3
   exact ⟨X,f,⟨h1,h2,h4⟩,h5⟩
theorem j78:∀ {a b:List Rec} {S X S':St} {fr f fr':List Value},j08 S fr a X f->j08 X f b S' fr'->j08 S fr (a++b) S' fr'
 | [], b, S, X, S', fr, f, fr', h, k => by obtain ⟨rfl, rfl⟩ := h; exact k
 | r :: a, b, S, X, S', fr, f, fr', h, k => by
   obtain ⟨h1,h2,h3⟩:=h
   exact ⟨h1,h2,j78 h3 k⟩
section
variable {tb:Tb} {ops:Array Oper} {A:List (List Nat)}
theorem j13.len {r:Rec} (h:j13 P G tb ops r):r.S.length<=r.S'.length:=by
 cases hk:r.kd with
 | none => rw [(h.gno hk).1]; exact Nat.le_refl _
 | pure => rw [(h.pure hk).1]; exact Nat.le_refl _
 | make => rw [(h.make hk).1]; simp
 | read => rw [(h.read hk).1]; exact Nat.le_refl _
 | eff => exact (h.eff hk).len
theorem j79:∀ {a:List Rec} {S S':St} {fr fr':List Value},j08 S fr a S' fr'->(∀ r∈a,j13 P G tb ops r)->S.length<=S'.length
 | [], S, S', fr, fr', h, _ => by rw [h.1]; exact Nat.le_refl _
 | r :: a, S, S', fr, fr', h, hok => by
   obtain ⟨h1,h2,h3⟩:=h
   have:=(hok r (by simp)).len
   rw [h1] at this
   exact Nat.le_trans this (j79 h3 λ q hq=>hok q (by simp [hq]))
theorem j7a:∀ {a:List Rec} {S S':St} {fr fr':List Value},j08 S fr a S' fr'->(∀ r∈a,j13 P G tb ops r)->(∀ r∈a,r.kd≠.eff) ->
 (∃ t,S'=S++t)/\∀ r∈a,r.kd = .make->S'[r.S.length]? = some r.x
 | [], S, S', fr, fr', h, _, _ => ⟨⟨[], by rw [h.1]; simp⟩, λ r hr => by simp at hr⟩
 | r :: a, S, S', fr, fr', h, hok, hne => by
   obtain ⟨h1,h2,h3⟩:=h
   have hr:=hok r (by simp)
   obtain ⟨⟨t,ht⟩,hm⟩:=j7a h3 (λ q hq=>hok q (by simp [hq])) (λ q hq=>hne q (by simp [hq]))
   have hS:∃ u,r.S'=S++u:=by
    rw [<- h1]
    cases hk:r.kd with
    | none=>exact ⟨[],by rw [(hr.gno hk).1]; simp⟩
    | pure=>exact ⟨[],by rw [(hr.pure hk).1]; simp⟩
    | make=>exact ⟨[r.x],(hr.make hk).1⟩
    | read=>exact ⟨[],by rw [(hr.read hk).1]; simp⟩
    | eff=>exact absurd hk (hne r (by simp))
   obtain ⟨u,hu⟩:=hS
   refine ⟨⟨u++t,by rw [ht,hu]; simp⟩,λ q hq hqm=>?_⟩
   rcases List.mem_cons.1 hq with rfl | hq
   ·rw [ht,(hr.make hqm).1]
    simp
   ·exact hm q hq hqm
theorem j77 {t:Nat}:∀ {a:List Rec} {S S':St} {fr fr':List Value},j08 S fr a S' fr'->(∀ r∈a,r.o.dst≠some t)->fr'[t]? = fr[t]?
 | [], S, S', fr, fr', h, _ => by rw [h.2]
 | r :: a, S, S', fr, fr', h, hne => by
   obtain ⟨h1,h2,h3⟩:=h
   rw [j77 h3 λ q hq=>hne q (by simp [hq])]
   have:=hne r (by simp)
   cases hd:r.o.dst with
   | none=>rfl
   | some d=>
     simp only [z3c]
     exact List.getElem?_set_ne (λ e:d=t=>this (by rw [hd,e]))
theorem j76:∀ {a:List Rec} {S S':St} {fr fr':List Value},j08 S fr a S' fr'->fr'.length=fr.length
 | [], S, S', fr, fr', h => by rw [h.2]
 | r :: a, S, S', fr, fr', h => by
   obtain ⟨h1,h2,h3⟩:=h
   rw [j76 h3]
   cases hd:r.o.dst with
   | none=>rfl
   | some d=>simp [z3c]
structure j0y (tb:Tb) (ops:Array Oper) (A:List (List Nat)) (r q:Rec):Prop where
 ne:r.i≠q.i
 top:q.i∉A.getD r.i []
 later:∀ t,q.o.dst=some t->t∈r.o.looksAt ops->r.i∈A.getD q.i []
 data:∀ t,r.o.dst=some t->t∈q.o.looksAt ops->r.i∈A.getD q.i []
 dst:∀ t,r.o.dst=some t->q.o.dst≠some t
 eff:r.kd = .eff->q.kd = .eff\/q.kd = .read->r.i∈A.getD q.i []
theorem z05 {r q:Rec} (hr:j13 P G tb ops r) (hq:j13 P G tb ops q) (h:jzz tb ops A r.i q.i=true):j0y tb ops A r q:=by
 unfold jzz at h
 rw [hr.op,hq.op] at h
 simp only [Bool.and_eq_true,Bool.not_eq_true',Bool.or_eq_true] at h
 obtain ⟨⟨⟨⟨⟨h0,h1⟩,h2⟩,h3⟩,h4⟩,h5⟩:=h
 refine ⟨λ e=>(by rw [e,Nat.beq_refl] at h0;cases h0),λ hm=>?_,λ t ht hm=>?_,λ t ht hm=>?_,λ t ht hq'=>?_,λ he hq'=>?_⟩
 ·rw [jwm.2 hm] at h1;cases h1
 ·rcases h2 with h2 | h2
  ·simp only [ja9,ht] at h2
   rw [jwm.2 hm] at h2;cases h2
  ·exact jwm.1 h2
 ·rcases h3 with h3 | h3
  ·simp only [ja9,ht] at h3
   rw [jwm.2 hm] at h3;cases h3
  ·exact jwm.1 h3
 ·simp only [z79,ht,hq'] at h4
  rw [Nat.beq_refl] at h4;cases h4
 ·have hre:cls tb r.o.op = .eff:=by
   rcases hr.kd with e | e
   ·rw [e] at he;cases he
   ·rw [<- e]; exact he
  have hqe:isE (cls tb q.o.op)=true\/isR (cls tb q.o.op)=true:=by
   rcases hq.kd with e | e
   ·rcases hq' with hq' | hq' <;> (rw [e] at hq'; cases hq')
   ·rcases hq' with hq' | hq'
    ·rw [hq'] at e;rw [<- e]; exact .inl rfl
    ·rw [hq'] at e;rw [<- e]; exact .inr rfl
  rw [hre] at h5
  rcases h5 with (h5 | h5) | h5
  ·cases h5
  ·rcases hqe with e | e <;> simp [e] at h5
  ·exact jwm.1 h5
theorem z1f:∀ {tr:List Rec},(∀ r∈tr,j13 P G tb ops r)->z1e tb ops A (tr.map (·.i))=true ->
 tr.Pairwise (j0y tb ops A)/\∀ r∈tr,(∀ t,r.o.dst=some t->t∉r.o.looksAt ops)/\∀ x∈r.o.op.operands,j7w x=true
 | [], _, _ => ⟨.nil, λ r hr => by simp at hr⟩
 | r :: tr, hok, h => by
   simp only [List.map_cons,z1e,Bool.and_eq_true] at h
   obtain ⟨⟨h1,h2⟩,h3⟩:=h
   obtain ⟨k1,k2⟩:=z1f (λ q hq=>hok q (by simp [hq])) h3
   have hr:=hok r (by simp)
   rw [hr.op] at h1
   simp only [Bool.and_eq_true,Bool.not_eq_true'] at h1
   refine ⟨List.pairwise_cons.2 ⟨λ q hq=>?_,k1⟩,λ q hq=>?_⟩
   ·exact z05 hr (hok q (by simp [hq])) (List.all_eq_true.1 h2 q.i (List.mem_map.2 ⟨q,hq,rfl⟩))
   ·rcases List.mem_cons.1 hq with rfl | hq
    ·refine ⟨λ t ht hm=>?_,λ x hx=>List.all_eq_true.1 h1.2 x (by simpa using hx)⟩
     simp only [ja9,ht] at h1
     rw [jwm.2 hm] at h1;cases h1.1
    ·exact k2 q hq
end
end Go.AM
namespace Go.AM
open Go
variable {P:Program} {G:List (Nat×Obj)} {ρ:Type}
theorem jwr {ops:Array Oper} {o:Oper} {t:Nat} (h:Operand.tmp t∈o.op.operands):t∈o.looksAt ops:=by
 unfold Oper.looksAt
 refine List.mem_append.2 (.inl (List.mem_filterMap.2 ⟨_,by simpa using h,rfl⟩))
theorem jwq {ops:Array Oper} {o:Oper} {j t:Nat} {want:Bool} (h:o.guard=some (j,want)) (ht:(ops[j]?).bind (·.dst)=some t):t∈o.looksAt ops:=by
 unfold Oper.looksAt
 refine List.mem_append.2 (.inr ?_)
 rw [h]
 simp [ht]
structure Fix (P:Program) (G:List (Nat×Obj)) (tb:Tb) (ops:Array Oper) (A:List (List Nat)) (tr:List Rec) (S0:St) (fr0:List Value) (S9:St) (F:List Value):Prop where
 chain:j08 S0 fr0 tr S9 F
 ok:∀ r∈tr,j13 P G tb ops r
 pair:tr.Pairwise (j0y tb ops A)
 self:∀ r∈tr,(∀ t,r.o.dst=some t->t∉r.o.looksAt ops)/\∀ x∈r.o.op.operands,j7w x=true
 firm:tr.Pairwise (j0e A)
 all:∀ i,i < ops.size->∃ r∈tr,r.i=i
 anc:j2v ops A=true
section
variable {tb:Tb} {ops:Array Oper} {A:List (List Nat)} {tr:List Rec} {S0 S9:St} {fr0 F:List Value}
theorem Fix.look (h:Fix P G tb ops A tr S0 fr0 S9 F) {r:Rec} (hr:r∈tr):∀ t∈r.o.looksAt ops,(∀ q∈tr,q.o.dst=some t->r.i∉A.getD q.i [])->F.getD t zdj=r.fr.getD t zdj:=by
 intro t ht hno
 obtain ⟨a,b,hab⟩:=List.append_of_mem hr
 subst hab
 obtain ⟨X,f,h1,h2⟩:=j7b h.chain
 obtain ⟨h3,h4,h5⟩:=h2
 have hp:=(List.pairwise_append.1 h.pair).2.1
 have hb:=(List.pairwise_cons.1 hp).1
 have h6:=j77 (t:=t) h5 λ q hq hd=>hno q (by simp [hq]) hd ((hb q hq).later t hd ht)
 have hs:=(h.self r hr).1
 have h7:(z3c f r.o.dst r.v)[t]? = r.fr[t]?:=by
  rw [<- h4]
  cases hd:r.o.dst with
  | none=>rfl
  | some d=>
    simp only [z3c]
    exact List.getElem?_set_ne (λ e:d=t=>hs d hd (e ▸ ht))
 simp only [List.getD,h6,h7]
theorem Fix.one (h:Fix P G tb ops A tr S0 fr0 S9 F) {r q:Rec} (hr:r∈tr) (hq:q∈tr) {t:Nat} (hrd:r.o.dst=some t) (hqd:q.o.dst=some t):r=q:=by
 obtain ⟨a,b,hab⟩:=List.append_of_mem hr
 subst hab
 have hp:=List.pairwise_append.1 h.pair
 have hb:=(List.pairwise_cons.1 hp.2.1).1
 rcases List.mem_append.1 hq with hq | hq
 ·exact absurd hrd ((hp.2.2 q hq r (by simp)).dst t hqd)
 ·rcases List.mem_cons.1 hq with hq | hq
  ·exact hq.symm
  ·exact absurd hqd ((hb q hq).dst t hrd)
theorem Fix.first (h:Fix P G tb ops A tr S0 fr0 S9 F) {r q:Rec} (hr:r∈tr) (hq:q∈tr) {t:Nat} (hd:q.o.dst=some t) (hi:r.i∈A.getD q.i []):r.fr.getD t zdj=fr0.getD t zdj:=by
 obtain ⟨a,b,hab⟩:=List.append_of_mem hr
 subst hab
 obtain ⟨X,f,h1,h2⟩:=j7b h.chain
 obtain ⟨h3,h4,h5⟩:=h2
 have hp:=List.pairwise_append.1 h.pair
 have hb:=(List.pairwise_cons.1 hp.2.1).1
 have hqb:q∈b:=by
  rcases List.mem_append.1 hq with hq | hq
  ·exact absurd hi (hp.2.2 q hq r (by simp)).top
  ·rcases List.mem_cons.1 hq with hq | hq
   ·subst hq
    exact absurd (j2w h.anc (h.ok q hr).op hi).1 (Nat.lt_irrefl _)
   ·exact hq
 have h6:=j77 (t:=t) h1 λ x hx hxd=>by
  have:=(hp.2.2 x hx q (by simp [hqb])).dst t hxd
  exact this hd
 rw [<- h4] at h6
 simp only [List.getD,h6]
theorem Fix.dst (h:Fix P G tb ops A tr S0 fr0 S9 F) {r:Rec} (hr:r∈tr) {t:Nat} (ht:r.o.dst=some t):t < F.length->F.getD t zdj=r.v:=by
 intro hl
 obtain ⟨a,b,hab⟩:=List.append_of_mem hr
 subst hab
 obtain ⟨X,f,h1,h2⟩:=j7b h.chain
 obtain ⟨h3,h4,h5⟩:=h2
 have hp:=(List.pairwise_append.1 h.pair).2.1
 have hb:=(List.pairwise_cons.1 hp).1
 have h6:=j77 (t:=t) h5 λ q hq hd=>(hb q hq).dst t ht hd
 have h7:=j76 h5
 rw [ht] at h6 h7
 simp only [z3c] at h6 h7
 rw [List.getElem?_set_self (by simp at h7;omega)] at h6
 simp [List.getD,h6]
theorem Fix.ne (h:Fix P G tb ops A tr S0 fr0 S9 F) {r q:Rec} (hr:r∈tr) (hq:q∈tr) (e:r.i=q.i):r=q:=by
 obtain ⟨a,b,hab⟩:=List.append_of_mem hr
 subst hab
 have hp:=List.pairwise_append.1 h.pair
 have hb:=(List.pairwise_cons.1 hp.2.1).1
 rcases List.mem_append.1 hq with hq | hq
 ·exact absurd e.symm (hp.2.2 q hq r (by simp)).ne
 ·rcases List.mem_cons.1 hq with hq | hq
  ·exact hq.symm
  ·exact absurd e (hb q hq).ne
structure Inv (G:List (Nat×Obj)) (ops:Array Oper) (tr:List Rec) (S0:St) (fr0:List Value) (S9:St) (F:List Value) (N:Nat) (τ0:Nat->Tag) (w0:World)
 (D:Nat->Prop) (tr1 tr2:List Rec) (X:St) (fX:List Value) (τ:Nat->Tag) (a:Act) (w:World):Prop where
 split:tr=tr1++tr2
 c1:j08 S0 fr0 tr1 X fX
 c2:j08 X fX tr2 S9 F
 e1:∀ r∈tr1,r.kd = .eff->D r.i
 e2:∀ r∈tr2,r.kd = .eff->¬ D r.i
 hd:tr2=[]\/∃ r t,tr2=r :: t/\r.kd = .eff
 hr:HR G τ X w
 mk2:∀ r∈tr2,r.kd = .make->D r.i->∃ b o',τ r.S.length = .live b none/\w.heap[b]? = some o'/\OR τ none r.x o'
 no:∀ r∈tr,¬ D r.i->∀ id,r.S.length<=id->id < r.S'.length->τ id = .no
 far:∀ id,S9.length<=id->id < N->τ id = .no
 mk1:∀ r∈tr1,r.kd = .make->¬ D r.i->X[r.S.length]? = some r.x
 size:a.tmps.size=F.length
 val:∀ t,(∀ r∈tr,r.o.dst=some t->D r.i)->VR τ (F.getD t zdj) (a.tmps.getD t undef)
 val0:∀ t,(∀ r∈tr,r.o.dst=some t->¬ D r.i)->VR τ (fr0.getD t zdj) (a.tmps.getD t undef)
 defers:a.defers=[]
 ext:j0d S9.length τ0 S0 w0 τ X w
 closed:∀ i o,D i->ops[i]? = some o->∀ e∈o.after,Region.binds .any e=true->D e.on
variable {N:Nat} {τ0:Nat->Tag} {w0:World} {D:Nat->Prop} {tr1 tr2:List Rec} {X:St} {fX:List Value} {τ:Nat->Tag} {a:Act} {w:World}
theorem Inv.before (h:Fix P G tb ops A tr S0 fr0 S9 F) (k:Inv G ops tr S0 fr0 S9 F N τ0 w0 D tr1 tr2 X fX τ a w) {r:Rec} (hr:r∈tr)
 (hrdy:∀ e∈r.o.after,Region.binds .any e=true->D e.on) {j:Nat} (hj:j∈A.getD r.i []):D j:=
 j2z h.anc k.closed r.i j r.o (h.ok r hr).op hrdy hj
theorem Inv.slot (h:Fix P G tb ops A tr S0 fr0 S9 F) (k:Inv G ops tr S0 fr0 S9 F N τ0 w0 D tr1 tr2 X fX τ a w) {r:Rec} (hr:r∈tr) (hn:¬ D r.i)
 (hrdy:∀ e∈r.o.after,Region.binds .any e=true->D e.on) {t:Nat} (ht:t∈r.o.looksAt ops):VR τ (r.fr.getD t zdj) (a.tmps.getD t undef):=by
 by_cases hex:∃ q∈tr,q.o.dst=some t/\r.i∈A.getD q.i []
 ·obtain ⟨q,hq,hd,hi⟩:=hex
  rw [h.first hr hq hd hi]
  refine k.val0 t λ x hx hxd hxD=>?_
  have : x=q:=h.one hx hq hxd hd
  subst this
  exact hn (j2z h.anc k.closed x.i r.i x.o (h.ok x hx).op (λ e he hb=>k.closed x.i x.o hxD (h.ok x hx).op e he hb) hi)
 ·have hex':∀ q∈tr,q.o.dst=some t->r.i∉A.getD q.i []:=λ q hq hd hi=>hex ⟨q,hq,hd,hi⟩
  rw [<- h.look hr t ht hex']
  refine k.val t λ q hq hd=>?_
  obtain ⟨u,v,huv⟩:=List.append_of_mem hr
  have hp:=h.pair
  rw [huv] at hp
  have hq':=hq
  rw [huv] at hq'
  have hp:=List.pairwise_append.1 hp
  have hb:=(List.pairwise_cons.1 hp.2.1).1
  rcases List.mem_append.1 hq' with hq' | hq'
  ·exact k.before h hr hrdy ((hp.2.2 q hq' r (by simp)).data t hd ht)
  ·rcases List.mem_cons.1 hq' with hq' | hq'
   ·subst hq'; exact absurd ht ((h.self q hr).1 t hd)
   ·exact absurd ((hb q hq').later t hd ht) (hex' q hq hd)
theorem Inv.opers (h:Fix P G tb ops A tr S0 fr0 S9 F) (k:Inv G ops tr S0 fr0 S9 F N τ0 w0 D tr1 tr2 X fX τ a w) {r:Rec} (hr:r∈tr) (hn:¬ D r.i)
 (hrdy:∀ e∈r.o.after,Region.binds .any e=true->D e.on):∀ x∈r.o.op.operands,VR τ (aev r.fr x) (a.eval x):=by
 intro x hx
 cases x with
 | tmp t => exact k.slot h hr hn hrdy (jwr hx)
 | const v => exact .of_flat ((h.self r hr).2 _ hx)
 | global g => exact .top _
 | func f => exact .func .nil .nil
theorem Inv.flen (h:Fix P G tb ops A tr S0 fr0 S9 F) {r:Rec} (hr:r∈tr):F.length=r.fr.length:=by
 obtain ⟨u,v,huv⟩:=List.append_of_mem hr
 have hc:=h.chain
 rw [huv] at hc
 obtain ⟨X,f,h1,h2⟩:=j7b hc
 obtain ⟨h3,h4,h5⟩:=h2
 rw [j76 h5,h4]
 cases hd:r.o.dst with
 | none => rfl
 | some d => simp [z3c]
theorem Inv.guard (h:Fix P G tb ops A tr S0 fr0 S9 F) (k:Inv G ops tr S0 fr0 S9 F N τ0 w0 D tr1 tr2 X fX τ a w) {r:Rec} (hr:r∈tr) (hn:¬ D r.i)
 (hrdy:∀ e∈r.o.after,Region.binds .any e=true->D e.on):GR τ ops r.o r.fr a where
 size:=by rw [k.size,Inv.flen h hr]
 val:=λ j want t hg ht=>k.slot h hr hn hrdy (jwq hg ht)
theorem Inv.frame (h:Fix P G tb ops A tr S0 fr0 S9 F) (k:Inv G ops tr S0 fr0 S9 F N τ0 w0 D tr1 tr2 X fX τ a w) {r:Rec} (hr:r∈tr) {D':Nat->Prop} (hD:∀ j,D' j↔D j\/j=r.i)
 {τ':Nat->Tag} (hle:TLe τ τ') {v':Value} (hv:VR τ' r.v v') :
 (a.put r.o.dst v').tmps.size=F.length/\(∀ t,(∀ q∈tr,q.o.dst=some t->D' q.i)->VR τ' (F.getD t zdj) ((a.put r.o.dst v').tmps.getD t undef))/\(a.put r.o.dst v').defers=[] /\
 (∀ t,(∀ q∈tr,q.o.dst=some t->¬ D' q.i)->VR τ' (fr0.getD t zdj) ((a.put r.o.dst v').tmps.getD t undef)):=by
 refine ⟨?_,λ t ht=>?_,?_,λ t ht=>?_⟩
 ·cases hd:r.o.dst with
  | none=>exact k.size
  | some d=>simp [Act.put,k.size]
 ·by_cases hd:r.o.dst=some t
  ·by_cases hl:t < F.length
   ·rw [h.dst hr hd hl,hd]
    have : t < a.tmps.size:=by rw [k.size]; exact hl
    simp [Act.put,this,hv]
   ·have : F.getD t zdj=zdj:=by simp [List.getD,List.getElem?_eq_none (Nat.le_of_not_lt hl)]
    rw [this]; exact .top _
  ·have h1:=(k.val t λ q hq hqd=>by
    rcases (hD q.i).1 (ht q hq hqd) with h1 | h1
    ·exact h1
    ·have:=h.ne hq hr h1
     subst this
     exact absurd hqd hd).mono hle
   cases hd':r.o.dst with
   | none=>exact h1
   | some d=>
     have : d≠t:=λ e=>hd (by rw [hd',e])
     simpa [Act.put,Array.getElem?_setIfInBounds_ne this] using h1
 ·cases hd:r.o.dst with
  | none=>exact k.defers
  | some d=>simp [Act.put,k.defers]
 ·have h1:=(k.val0 t λ q hq hqd hqD=>ht q hq hqd ((hD q.i).2 (.inl hqD))).mono hle
  cases hd':r.o.dst with
  | none=>exact h1
  | some d=>
    have : d≠t:=λ e=>ht r hr (by rw [hd',e]) ((hD r.i).2 (.inr rfl))
    simpa [Act.put,Array.getElem?_setIfInBounds_ne this] using h1
theorem Inv.closed' (k:Inv G ops tr S0 fr0 S9 F N τ0 w0 D tr1 tr2 X fX τ a w) {r:Rec} (hop:ops[r.i]? = some r.o) {D':Nat->Prop} (hD:∀ j,D' j↔D j\/j=r.i)
 (hrdy:∀ e∈r.o.after,Region.binds .any e=true->D e.on):∀ i o,D' i->ops[i]? = some o->∀ e∈o.after,Region.binds .any e=true->D' e.on:=by
 intro i o hi ho e he hb
 refine (hD e.on).2 (.inl ?_)
 rcases (hD i).1 hi with hi | hi
 ·exact k.closed i o hi ho e he hb
 ·subst hi
  rw [hop] at ho
  cases ho
  exact hrdy e he hb
theorem Inv.quiet (h:Fix P G tb ops A tr S0 fr0 S9 F) (k:Inv G ops tr S0 fr0 S9 F N τ0 w0 D tr1 tr2 X fX τ a w) {r:Rec} (hr:r∈tr) (hn:¬ D r.i) {D':Nat->Prop} (hD:∀ j,D' j↔D j\/j=r.i)
 (hrdy:∀ e∈r.o.after,Region.binds .any e=true->D e.on) (hne:r.kd≠.eff) (hnm:r.kd≠.make) {v':Value} (hv:VR τ r.v v') :
 Inv G ops tr S0 fr0 S9 F N τ0 w0 D' tr1 tr2 X fX τ (a.put r.o.dst v') w:=by
 obtain ⟨f1,f2,f3,f4⟩:=k.frame h hr hD (.refl τ) hv
 have only:∀ q∈tr,q.kd≠r.kd->(D' q.i↔D q.i):=λ q hq hk=>by
  rw [hD]
  constructor
  ·rintro (h1 | h1)
   ·exact h1
   ·have:=h.ne hq hr h1;subst this;exact absurd rfl hk
  ·exact .inl
 have m1:∀ q∈tr1,q∈tr:=λ q hq=>by rw [k.split]; simp [hq]
 have m2:∀ q∈tr2,q∈tr:=λ q hq=>by rw [k.split]; simp [hq]
 refine { k with e1:=?_,e2:=?_,mk2:=?_,no:=?_,mk1:=?_,size:=f1,val:=f2,val0:=f4,defers:=f3,closed:=k.closed' (h.ok r hr).op hD hrdy }
 ·intro q hq he;exact (hD q.i).2 (.inl (k.e1 q hq he))
 ·intro q hq he hd
  exact k.e2 q hq he ((only q (m2 q hq) (by rw [he]; exact hne.symm)).1 hd)
 ·intro q hq hm hd
  exact k.mk2 q hq hm ((only q (m2 q hq) (by rw [hm]; exact hnm.symm)).1 hd)
 ·intro q hq hd;exact k.no q hq λ h1=>hd ((hD q.i).2 (.inl h1))
 ·intro q hq hm hd;exact k.mk1 q hq hm λ h1=>hd ((hD q.i).2 (.inl h1))
end
end Go.AM
namespace Go.AM
open Go
variable {P:Program} {G:List (Nat×Obj)} {ρ:Type}
theorem HR.prefix {τ:Nat->Tag} {S t:St} {w:World} (h:HR G τ (S++t) w):HR G τ S w where
 lt:=h.lt
 inj:=h.inj
 live:=λ i b g o hi ho=>h.live i b g o hi (by
  have hl:i < S.length:=by
   rcases Nat.lt_or_ge i S.length with q | q
   ·exact q
   ·rw [List.getElem?_eq_none q] at ho;cases ho
  rw [List.getElem?_append_left hl]; exact ho)
 dead:=λ i o hi ho=>h.dead i o hi (by
  have hl:i < S.length:=by
   rcases Nat.lt_or_ge i S.length with q | q
   ·exact q
   ·rw [List.getElem?_eq_none q] at ho;cases ho
  rw [List.getElem?_append_left hl]; exact ho)
 zero:=h.zero
 glob:=h.glob
theorem HR.fill {τ:Nat->Tag} {S:St} {w:World} (h:HR G τ S w) {n:Nat} (hn:τ n = .no) {x:j00} {o:Obj} (hx:∀ y,S[n]? = some y->y=x) (ho:OR τ none x o) :
 HR G (upd τ n (.live w.heap.size none)) S (zfm w o):=by
 have hle:TLe τ (upd τ n (.live w.heap.size none)):=TLe.upd hn
 refine ⟨?_,?_,?_,?_,?_,?_⟩
 ·intro i b g' hi
  have hsz:(zfm w o).heap.size=w.heap.size+1:=by simp [zfm]
  by_cases e:i=n
  ·subst e;rw [zes] at hi;cases hi;omega
  ·rw [zer _ _ e] at hi;have:=h.lt i b g' hi;omega
 ·intro i j b g1 g2 hi hj
  by_cases e:i=n
  ·by_cases f:j=n
   ·rw [e,f]
   ·subst e;rw [zes] at hi;rw [zer _ _ f] at hj;cases hi
    have:=h.lt j _ g2 hj;omega
  ·by_cases f:j=n
   ·subst f;rw [zes] at hj;rw [zer _ _ e] at hi;cases hj
    have:=h.lt i _ g1 hi;omega
   ·rw [zer _ _ e] at hi;rw [zer _ _ f] at hj;exact h.inj i j b g1 g2 hi hj
 ·intro i b g' y hi hy
  by_cases e:i=n
  ·subst e;rw [zes] at hi;cases hi
   rw [hx y hy]
   exact ⟨o,zfo w o,ho.mono hle⟩
  ·rw [zer _ _ e] at hi
   obtain ⟨o',h1,h2⟩:=h.live i b g' y hi hy
   exact ⟨o',by rw [zfn (h.lt i b g' hi)]; exact h1,h2.mono hle⟩
 ·intro i y hi hy
  by_cases e:i=n
  ·subst e;rw [zes] at hi;cases hi
  ·rw [zer _ _ e] at hi;exact h.dead i y hi hy
 ·have : n≠0:=λ e=>by rw [e,h.zero] at hn;cases hn
  rw [zer _ _ (by omega)]; exact h.zero
 ·intro p hp
  have hlt:=h.block_lt hp
  refine ⟨by rw [zfn hlt]; exact (h.glob p hp).1,?_⟩
  intro i g' hi
  by_cases e:i=n
  ·subst e;rw [zes] at hi;injection hi with hb;omega
  ·rw [zer _ _ e] at hi;exact (h.glob p hp).2 i g' hi
theorem j0d.fill {L:Nat} {τ0 τ:Nat->Tag} {S0 S:St} {w0 w:World} (h:j0d L τ0 S0 w0 τ S w) {n:Nat} (hn:τ n = .no) (h1:S0.length<=n) (h2:n < L) {o:Obj} :
 j0d L τ0 S0 w0 (upd τ n (.live w.heap.size none)) S (zfm w o) where
 le:=h.le.trans (TLe.upd hn)
 keep:=λ i hi h0=>by rw [zer _ _ (by omega)]; exact h.keep i hi h0
 later:=λ i hi=>by rw [zer _ _ (by omega)]; exact h.later i hi
 absent:=h.absent
 len:=h.len
 fresh:=λ i b g hi hi' ht=>by
  by_cases e:i=n
  ·subst e;rw [zes] at ht;cases ht;exact .inl h.wlen
  ·rw [zer _ _ e] at ht;exact h.fresh i b g hi hi' ht
 conc:=λ b hb hno=>by
  have:=h.wlen
  rw [zfn (by omega)]; exact h.conc b hb hno
 wlen:=by have:=h.wlen;simp [zfm]; omega
 os:=h.os
 tape:=h.tape
 output:=h.output
section
variable {tb:Tb} {ops:Array Oper} {A:List (List Nat)} {tr:List Rec} {S0 S9:St} {fr0 F:List Value}
variable {N:Nat} {τ0:Nat->Tag} {w0:World} {D:Nat->Prop} {tr1 tr2:List Rec} {X:St} {fX:List Value} {τ:Nat->Tag} {a:Act} {w:World}
theorem Inv.m1 (k:Inv G ops tr S0 fr0 S9 F N τ0 w0 D tr1 tr2 X fX τ a w):∀ q∈tr1,q∈tr:=λ q hq=>by rw [k.split]; simp [hq]
theorem Inv.m2 (k:Inv G ops tr S0 fr0 S9 F N τ0 w0 D tr1 tr2 X fX τ a w):∀ q∈tr2,q∈tr:=λ q hq=>by rw [k.split]; simp [hq]
theorem Inv.next (h:Fix P G tb ops A tr S0 fr0 S9 F) (k:Inv G ops tr S0 fr0 S9 F N τ0 w0 D tr1 tr2 X fX τ a w) {r:Rec} (hr:r∈tr2)
 (hrdy:∀ e∈r.o.after,Region.binds .any e=true->D e.on) (hk:r.kd = .eff\/r.kd = .read):∃ t,tr2=r :: t/\r.kd = .eff:=by
 rcases k.hd with h0 | ⟨q,t,h0,hq⟩
 ·rw [h0] at hr;simp at hr
 ·rw [h0] at hr
  rcases List.mem_cons.1 hr with e | hr'
  ·subst e;exact ⟨t,h0,hq⟩
  ·exfalso
   have hp:=h.pair
   rw [k.split,h0] at hp
   have hb:=(List.pairwise_cons.1 (List.pairwise_append.1 hp).2.1).1
   have:=k.before h (k.m2 r (by rw [h0]; simp [hr'])) hrdy ((hb r hr').eff hq hk)
   exact k.e2 q (by rw [h0]; simp) hq this
theorem Inv.read (h:Fix P G tb ops A tr S0 fr0 S9 F) (k:Inv G ops tr S0 fr0 S9 F N τ0 w0 D tr1 tr2 X fX τ a w) {r:Rec} (hr:r∈tr) (hn:¬ D r.i)
 (hrdy:∀ e∈r.o.after,Region.binds .any e=true->D e.on) (hk:r.kd = .read):∃ S,j0z P G r.o (aev r.fr) S r.v/\HR G τ S w:=by
 have hr1:r∈tr1:=by
  rw [k.split] at hr
  rcases List.mem_append.1 hr with hr | hr
  ·exact hr
  ·obtain ⟨t,_,he⟩:=k.next h hr hrdy (.inr hk)
   rw [hk] at he;cases he
 obtain ⟨_,hm,hq⟩:=(h.ok r hr).read hk
 obtain ⟨u,v,huv⟩:=List.append_of_mem hr1
 have hc1:=k.c1
 rw [huv] at hc1
 obtain ⟨Y,f,h1,h2,h3,h4⟩:=j7b hc1
 have hok:∀ q∈v,j13 P G tb ops q:=λ q hq=>h.ok q (k.m1 q (by rw [huv]; simp [hq]))
 -- the last effect behind it, if there is one
 have key:∀ (v:List Rec) (Z:St) (g:List Value),j08 Z g v X fX->(∀ q∈v,j13 P G tb ops q)->(∀ q∈v,q.kd = .eff->r.m q.S'=some (r.v,q.S'))->r.m Z=some (r.v,Z) ->
  ∃ S t,X=S++t/\r.m S=some (r.v,S):=by
  intro v
  induction v with
  | nil=>intro Z g hc _ _ hz;exact ⟨Z,[],by rw [hc.1]; simp,hz⟩
  | cons q v ih=>
    intro Z g hc hok hef hz
    obtain ⟨c1,c2,c3⟩:=hc
    have hqok:=hok q (by simp)
    by_cases hany:∃ q'∈v,q'.kd = .eff
    ·-- some effect comes later still: go on
     have : ∀ (v:List Rec) (Z:St) (g:List Value),j08 Z g v X fX->(∀ q∈v,j13 P G tb ops q)->(∀ q∈v,q.kd = .eff->r.m q.S'=some (r.v,q.S'))->(∃ q∈v,q.kd = .eff) ->
      ∃ S t,X=S++t/\r.m S=some (r.v,S):=by
      intro v
      induction v with
      | nil=>intro Z g _ _ _ ⟨q,hq,_⟩; simp at hq
      | cons q v ih2=>
        intro Z g hc hok hef hany
        obtain ⟨c1,c2,c3⟩:=hc
        by_cases hany2:∃ q'∈v,q'.kd = .eff
        ·exact ih2 _ _ c3 (λ q hq=>hok q (by simp [hq])) (λ q hq=>hef q (by simp [hq])) hany2
        ·obtain ⟨q',hq',he⟩:=hany
         rcases List.mem_cons.1 hq' with rfl | hq'
         ·obtain ⟨⟨t,ht⟩,_⟩:=j7a c3 (λ q hq=>hok q (by simp [hq])) (λ q hq he=>hany2 ⟨q,hq,he⟩)
          exact ⟨_,t,ht,hef q' (by simp) he⟩
         ·exact absurd ⟨q',hq',he⟩ hany2
     exact this v _ _ c3 (λ q hq=>hok q (by simp [hq])) (λ q hq=>hef q (by simp [hq])) hany
    ·obtain ⟨⟨t,ht⟩,_⟩:=j7a c3 (λ q hq=>hok q (by simp [hq])) (λ q hq he=>hany ⟨q,hq,he⟩)
     by_cases hqe:q.kd = .eff
     ·exact ⟨_,t,ht,hef q (by simp) hqe⟩
     ·obtain ⟨⟨t1,ht1⟩,_⟩:=j7a (a:=[q]) (S:=Z) (fr:=g) (S':=q.S') (fr':=z3c g q.o.dst q.v) ⟨c1,c2,rfl,rfl⟩ (λ q' hq'=>by simp at hq'; subst hq'; exact hqok)
       (λ q' hq'=>by simp at hq'; subst hq'; exact hqe)
      exact ⟨Z,t1++t,by rw [ht,ht1]; simp,hz⟩
 have hSr:r.S'=r.S:=((h.ok r hr).read hk).1
 obtain ⟨S,t,hX,hm2⟩:=key v r.S' _ h4 hok (by
  intro q hq he
  have hf:=h.firm
  rw [k.split,huv] at hf
  have hf1:=(List.pairwise_append.1 hf).1
  have hf2:=(List.pairwise_cons.1 (List.pairwise_append.1 hf1).2.1).1 q hq
  refine hf2 hk he λ hm'=>?_
  have hqD:=k.e1 q (by rw [huv]; simp [hq]) he
  have hqtr:=k.m1 q (by rw [huv]; simp [hq])
  exact hn (j2z h.anc k.closed q.i r.i q.o (h.ok q hqtr).op (k.closed q.i q.o hqD (h.ok q hqtr).op) hm')) (by rw [hSr]; exact hm)
 have h9:=k.hr
 rw [hX] at h9
 exact ⟨S,hq S hm2,h9.prefix⟩
theorem Fix.apart (h:Fix P G tb ops A tr S0 fr0 S9 F) {r q:Rec} (hr:r∈tr) (hq:q∈tr) (hne:r≠q):r.S'.length<=q.S.length\/q.S'.length<=r.S.length:=by
 obtain ⟨u,v,huv⟩:=List.append_of_mem hr
 have hc:=h.chain
 rw [huv] at hc hq
 have hok:∀ x∈u++r :: v,j13 P G tb ops x:=λ x hx=>h.ok x (by rw [huv]; exact hx)
 obtain ⟨Y,f,h1,h2,h3,h4⟩:=j7b hc
 have behind:∀ {v:List Rec} {Z Z':St} {g g':List Value},j08 Z g v Z' g'->(∀ x∈v,j13 P G tb ops x)->q∈v->Z.length<=q.S.length/\q.S'.length<=Z'.length:=by
  intro v Z Z' g g' hc hok hq
  obtain ⟨v1,v2,hv⟩:=List.append_of_mem hq
  rw [hv] at hc hok
  obtain ⟨Y2,f2,k1,k2,k3,k4⟩:=j7b hc
  have e1:=j79 k1 λ x hx=>hok x (by simp [hx])
  have e2:=j79 k4 λ x hx=>hok x (by simp [hx])
  rw [<- k2] at e1
  exact ⟨e1,e2⟩
 rcases List.mem_append.1 hq with hq | hq
 ·right
  have:=(behind h1 (λ x hx=>hok x (by simp [hx])) hq).2
  rw [h2]; exact this
 ·rcases List.mem_cons.1 hq with hq | hq
  ·exact absurd hq.symm hne
  ·exact .inl (behind h4 (λ x hx=>hok x (by simp [hx])) hq).1
theorem Fix.within (h:Fix P G tb ops A tr S0 fr0 S9 F) {r:Rec} (hr:r∈tr):S0.length<=r.S.length/\r.S'.length<=S9.length:=by
 obtain ⟨u,v,huv⟩:=List.append_of_mem hr
 have hc:=h.chain
 rw [huv] at hc
 obtain ⟨Y,f,h1,h2,h3,h4⟩:=j7b hc
 have e1:=j79 h1 λ x hx=>h.ok x (by rw [huv]; simp [hx])
 have e2:=j79 h4 λ x hx=>h.ok x (by rw [huv]; simp [hx])
 rw [<- h2] at e1
 exact ⟨e1,e2⟩
theorem Inv.make (h:Fix P G tb ops A tr S0 fr0 S9 F) (k:Inv G ops tr S0 fr0 S9 F N τ0 w0 D tr1 tr2 X fX τ a w) {r:Rec} (hr:r∈tr) (hn:¬ D r.i) {D':Nat->Prop} (hD:∀ j,D' j↔D j\/j=r.i)
 (hrdy:∀ e∈r.o.after,Region.binds .any e=true->D e.on) (hk:r.kd = .make) {o':Obj} (ho:OR τ none r.x o') :
 Inv G ops tr S0 fr0 S9 F N τ0 w0 D' tr1 tr2 X fX (upd τ r.S.length (.live w.heap.size none)) (a.put r.o.dst (r.mkv w.heap.size)) (zfm w o'):=by
 obtain ⟨hS,hv,hA⟩:=(h.ok r hr).make hk
 have hlen:r.S'.length=r.S.length+1:=by rw [hS]; simp
 have hno:τ r.S.length = .no:=k.no r hr hn _ (Nat.le_refl _) (by omega)
 have hle:TLe τ (upd τ r.S.length (.live w.heap.size none)):=TLe.upd hno
 obtain ⟨f1,f2,f3,f4⟩:=k.frame h hr hD hle (v':=r.mkv w.heap.size) (by rw [hv]; exact hA.val _ _ _ (zes _ _ _))
 obtain ⟨w1,w2⟩:=h.within hr
 have hx:∀ y,X[r.S.length]? = some y->y=r.x:=by
  intro y hy
  have hr':=hr
  rw [k.split] at hr'
  rcases List.mem_append.1 hr' with h1 | h1
  ·rw [k.mk1 r h1 hk hn] at hy;cases hy;rfl
  ·exfalso
   obtain ⟨u,v,huv⟩:=List.append_of_mem h1
   have hc:=k.c2
   rw [huv] at hc
   obtain ⟨Y,f,c1,c2,_⟩:=j7b hc
   have:=j79 c1 λ x hx=>h.ok x (k.m2 x (by rw [huv]; simp [hx]))
   rw [List.getElem?_eq_none (by rw [c2]; exact this)] at hy
   cases hy
 have only:∀ q∈tr,q≠r->(D' q.i↔D q.i):=λ q hq hne=>by
  rw [hD]
  exact ⟨λ h1=>h1.elim id λ h1=>absurd (h.ne hq hr h1) hne,.inl⟩
 refine { k with e1:=?_,e2:=?_,hr:=k.hr.fill hno hx ho,mk2:=?_,no:=?_,far:=?_,mk1:=?_,size:=f1,val:=f2,val0:=f4,defers:=f3,ext:=k.ext.fill hno w1 (by omega),closed:=k.closed' (h.ok r hr).op hD hrdy }
 ·intro q hq he;exact (hD q.i).2 (.inl (k.e1 q hq he))
 ·intro q hq he hd
  exact k.e2 q hq he ((only q (k.m2 q hq) (λ e=>by rw [e,hk] at he;cases he)).1 hd)
 ·intro q hq hm hd
  by_cases e:q=r
  ·subst e
   exact ⟨w.heap.size,o',zes _ _ _,zfo _ _,ho.mono hle⟩
  ·obtain ⟨b,o2,h1,h2,h3⟩:=k.mk2 q hq hm ((only q (k.m2 q hq) e).1 hd)
   have hap:=h.apart (k.m2 q hq) hr e
   have hqS:q.S'.length=q.S.length+1:=by rw [((h.ok q (k.m2 q hq)).make hm).1]; simp
   exact ⟨b,o2,by rw [zer _ _ (by omega)]; exact h1,by rw [zfn (k.hr.lt _ _ _ h1)]; exact h2,h3.mono hle⟩
 ·intro q hq hd id h1 h2
  have e:q≠r:=λ e=>hd ((hD q.i).2 (.inr (by rw [e])))
  have hap:=h.apart hq hr e
  rw [zer _ _ (by omega)]
  exact k.no q hq (λ h3=>hd ((hD q.i).2 (.inl h3))) id h1 h2
 ·intro id h1 h2
  rw [zer _ _ (by omega)]
  exact k.far id h1 h2
 ·intro q hq hm hd;exact k.mk1 q hq hm λ h1=>hd ((hD q.i).2 (.inl h1))
theorem jy2:∀ (l:List Rec),∃ t u,l=t++u/\(∀ q∈t,q.kd≠.eff)/\(u=[]\/∃ r v,u=r :: v/\r.kd = .eff)
 | [] => ⟨[], [], rfl, λ q hq => by simp at hq, .inl rfl⟩
 | r :: l => by
   by_cases h:r.kd = .eff
   ·exact ⟨[],r :: l,rfl,λ q hq=>by simp at hq,.inr ⟨r,l,rfl,h⟩⟩
   ·obtain ⟨t,u,h1,h2,h3⟩:=jy2 l
    exact ⟨r :: t,u,by rw [h1]; rfl,λ q hq=>by
     rcases List.mem_cons.1 hq with rfl | hq
     ·exact h
     ·exact h2 q hq,h3⟩
theorem Inv.eff (h:Fix P G tb ops A tr S0 fr0 S9 F) (k:Inv G ops tr S0 fr0 S9 F N τ0 w0 D tr1 tr2 X fX τ a w) {r:Rec} (hr:r∈tr) (hn:¬ D r.i) {D':Nat->Prop} (hD:∀ j,D' j↔D j\/j=r.i)
 (hrdy:∀ e∈r.o.after,Region.binds .any e=true->D e.on) (hk:r.kd = .eff) :
 r.S=X/\∀ {τ':Nat->Tag} {v':Value} {w':World},VR τ' r.v v'->HR G τ' r.S' w'->Ext τ X w τ' r.S' w' ->
  ∃ tr1' tr2' X' fX',Inv G ops tr S0 fr0 S9 F N τ0 w0 D' tr1' tr2' X' fX' τ' (a.put r.o.dst v') w':=by
 have hr2:r∈tr2:=by
  have hr':=hr
  rw [k.split] at hr'
  rcases List.mem_append.1 hr' with h1 | h1
  ·exact absurd (k.e1 r h1 hk) hn
  ·exact h1
 obtain ⟨rest,htr2,_⟩:=k.next h hr2 hrdy (.inl hk)
 have hc2:=k.c2
 rw [htr2] at hc2
 obtain ⟨c1,c2,c3⟩:=hc2
 refine ⟨c1,fun {τ' v' w'} hv hh hext=>?_⟩
 obtain ⟨t,u,htu,hte,hu⟩:=jy2 rest
 rw [htu] at c3
 obtain ⟨X',fX',c4,c5⟩:=j7b c3
 have hrest:∀ q∈rest,q∈tr:=λ q hq=>k.m2 q (by rw [htr2]; simp [hq])
 have ht:∀ q∈t,q∈tr:=λ q hq=>hrest q (by rw [htu]; simp [hq])
 have hu':∀ q∈u,q∈tr:=λ q hq=>hrest q (by rw [htu]; simp [hq])
 obtain ⟨⟨ex,hex⟩,hmk⟩:=j7a c4 (λ q hq=>h.ok q (ht q hq)) hte
 obtain ⟨f1,f2,f3,f4⟩:=k.frame h hr hD hext.le hv
 obtain ⟨w1,w2⟩:=h.within hr
 have hXl:r.S.length=X.length:=by rw [c1]
 have hrl:r.S.length<=r.S'.length:=(h.ok r hr).len
 -- what stands behind r
 have far:∀ q∈rest,r.S'.length<=q.S.length:=by
  intro q hq
  obtain ⟨v1,v2,hvv⟩:=List.append_of_mem hq
  rw [<- htu,hvv] at c3
  obtain ⟨Y,f,k1,k2,_⟩:=j7b c3
  have:=j79 k1 λ x hx=>h.ok x (hrest x (by rw [hvv]; simp [hx]))
  rw [k2]; exact this
 have ne:∀ q∈rest,q≠r:=λ q hq e=>by
  have:=far q hq
  have hp:=h.pair
  rw [k.split,htr2] at hp
  have:=(List.pairwise_cons.1 (List.pairwise_append.1 hp).2.1).1 q hq
  exact this.ne (by rw [e])
 have ne1:∀ q∈tr1,q≠r:=λ q hq e=>by
  have hp:=h.pair
  rw [k.split,htr2] at hp
  exact ((List.pairwise_append.1 hp).2.2 q hq r (by simp)).ne (by rw [e])
 have only:∀ q∈tr,q≠r->(D' q.i↔D q.i):=λ q hq hne=>by
  rw [hD]
  exact ⟨λ h1=>h1.elim id λ h1=>absurd (h.ne hq hr h1) hne,.inl⟩
 -- a later block that lives already is left alone
 have kept:∀ q∈rest,q.kd = .make->D q.i->∃ b o',τ' q.S.length = .live b none/\w'.heap[b]? = some o'/\OR τ' none q.x o':=by
  intro q hq hm hd
  obtain ⟨b,o',h1,h2,h3⟩:=k.mk2 q (by rw [htr2]; simp [hq]) hm hd
  have hf:=far q hq
  refine ⟨b,o',by rw [hext.later _ hf]; exact h1,?_,h3.mono hext.le⟩
  rw [hext.conc b (k.hr.lt _ _ _ h1) λ i g hi hlv=>?_]
  ·exact h2
  ·have:=k.hr.inj i q.S.length b g none hlv h1
   omega
 have unborn:∀ q∈rest,¬ D q.i->∀ id,q.S.length<=id->id < q.S'.length->τ' id = .no:=by
  intro q hq hd id h1 h2
  have hf:=far q hq
  rw [hext.later id (by omega)]
  exact k.no q (hrest q hq) hd id h1 h2
 have hX'l:r.S'.length<=X'.length:=by rw [hex]; simp
 have hX'9:X'.length<=S9.length:=j79 c5 λ q hq=>h.ok q (hu' q hq)
 -- the new blocks up to the next effect
 have born:∀ (t:List Rec) (Y Z:St) (g g':List Value),j08 Y g t Z g'->(∀ q∈t,j13 P G tb ops q)->(∀ q∈t,q.kd≠.eff)->∀ id y,Y.length<=id->Z[id]? = some y ->
  ∃ q∈t,q.kd = .make/\id=q.S.length/\y=q.x:=by
  intro t
  induction t with
  | nil=>
    intro Y Z g g' hc _ _ id y h1 h2
    rw [hc.1,List.getElem?_eq_none h1] at h2;cases h2
  | cons q t ih=>
    intro Y Z g g' hc hok hne id y h1 h2
    obtain ⟨d1,d2,d3⟩:=hc
    have hqok:=hok q (by simp)
    by_cases hlt:q.S'.length<=id
    ·obtain ⟨p,hp,h3⟩:=ih _ _ _ _ d3 (λ x hx=>hok x (by simp [hx])) (λ x hx=>hne x (by simp [hx])) id y hlt h2
     exact ⟨p,by simp [hp],h3⟩
    ·refine ⟨q,by simp,?_⟩
     have hqm:q.kd = .make:=by
      cases hkq:q.kd with
      | make=>rfl
      | none=>exfalso;rw [(hqok.gno hkq).1,d1] at hlt;exact hlt h1
      | pure=>exfalso;rw [(hqok.pure hkq).1,d1] at hlt;exact hlt h1
      | read=>exfalso;rw [(hqok.read hkq).1,d1] at hlt;exact hlt h1
      | eff=>exact absurd hkq (hne q (by simp))
     have hqS:=(hqok.make hqm).1
     have hid:id=q.S.length:=by
      rw [hqS] at hlt;simp at hlt;rw [d1] at hlt ⊢; omega
     obtain ⟨_,hm⟩:=j7a (a:=q :: t) ⟨d1,d2,d3⟩ hok hne
     have:=hm q (by simp) hqm
     rw [<- hid,h2] at this
     cases this
     exact ⟨hqm,hid,rfl⟩
 have hHR:HR G τ' X' w':=by
  refine ⟨hh.lt,hh.inj,λ i b g o hi ho=>?_,λ i o hi ho=>?_,hh.zero,hh.glob⟩
  ·by_cases hl:i < r.S'.length
   ·rw [hex,List.getElem?_append_left hl] at ho
    exact hh.live i b g o hi ho
   ·obtain ⟨q,hq,hm,hid,hy⟩:=born t _ _ _ _ c4 (λ q hq=>h.ok q (ht q hq)) hte i o (by omega) ho
    have hqr:q∈rest:=by rw [htu]; simp [hq]
    by_cases hd:D q.i
    ·obtain ⟨b2,o2,e1,e2,e3⟩:=kept q hqr hm hd
     rw [<- hid,hi] at e1
     cases e1
     rw [hy]
     exact ⟨o2,e2,e3⟩
    ·have hqS:q.S'.length=q.S.length+1:=by rw [((h.ok q (ht q hq)).make hm).1]; simp
     have:=unborn q hqr hd i (by omega) (by omega)
     rw [this] at hi;cases hi
  ·by_cases hl:i < r.S'.length
   ·rw [hex,List.getElem?_append_left hl] at ho
    exact hh.dead i o hi ho
   ·obtain ⟨q,hq,hm,hid,hy⟩:=born t _ _ _ _ c4 (λ q hq=>h.ok q (ht q hq)) hte i o (by omega) ho
    have hqr:q∈rest:=by rw [htu]; simp [hq]
    by_cases hd:D q.i
    ·obtain ⟨b2,o2,e1,e2,e3⟩:=kept q hqr hm hd
     rw [<- hid,hi] at e1;cases e1
    ·have hqS:q.S'.length=q.S.length+1:=by rw [((h.ok q (ht q hq)).make hm).1]; simp
     have:=unborn q hqr hd i (by omega) (by omega)
     rw [this] at hi;cases hi
 refine ⟨tr1++r :: t,u,X',fX',?_⟩
 refine { split:=by rw [k.split,htr2,htu]; simp,c1:=j78 k.c1 ⟨c1,c2,c4⟩,c2:=c5,e1:=?_,e2:=?_,hd:=hu,hr:=hHR,mk2:=?_,no:=?_,far:=?_,mk1:=?_,size:=f1,val:=f2,val0:=f4,defers:=f3, ext:=?_,closed:=k.closed' (h.ok r hr).op hD hrdy }
 ·intro q hq he
  rcases List.mem_append.1 hq with hq | hq
  ·exact (hD q.i).2 (.inl (k.e1 q hq he))
  ·rcases List.mem_cons.1 hq with hq | hq
   ·subst hq;exact (hD q.i).2 (.inr rfl)
   ·exact absurd he (hte q hq)
 ·intro q hq he hd
  have hqr:q∈rest:=by rw [htu]; simp [hq]
  exact k.e2 q (by rw [htr2]; simp [hqr]) he ((only q (hrest q hqr) (ne q hqr)).1 hd)
 ·intro q hq hm hd
  have hqr:q∈rest:=by rw [htu]; simp [hq]
  exact kept q hqr hm ((only q (hrest q hqr) (ne q hqr)).1 hd)
 ·intro q hq hd id h1 h2
  have hqD:¬ D q.i:=λ h3=>hd ((hD q.i).2 (.inl h3))
  have hq':=hq
  rw [k.split,htr2] at hq'
  rcases List.mem_append.1 hq' with hq1 | hq1
  ·have h0:=k.no q hq hqD id h1 h2
   have hap:=h.apart hq hr (ne1 q hq1)
   rcases hap with hap | hap
   ·exact hext.keep id (.inl (by omega)) h0
   ·exact hext.keep id (.inr (by omega)) h0
  ·rcases List.mem_cons.1 hq1 with hq1 | hq1
   ·exact absurd ((hD q.i).2 (.inr (by rw [hq1]))) hd
   ·exact unborn q hq1 hqD id h1 h2
 ·intro id h1 h2
  rw [hext.later id (by omega)]
  exact k.far id h1 h2
 ·intro q hq hm hd
  have hqD:¬ D q.i:=λ h3=>hd ((hD q.i).2 (.inl h3))
  rcases List.mem_append.1 hq with hq1 | hq1
  ·have h0:=k.mk1 q hq1 hm hqD
   have hl:q.S.length < X.length:=by
    rcases Nat.lt_or_ge q.S.length X.length with z | z
    ·exact z
    ·rw [List.getElem?_eq_none z] at h0;cases h0
   have hqS:q.S'.length=q.S.length+1:=by rw [((h.ok q (k.m1 q hq1)).make hm).1]; simp
   have hno:=k.no q (k.m1 q hq1) hqD q.S.length (Nat.le_refl _) (by omega)
   have:=hext.absent _ hl hno
   rw [hex,List.getElem?_append_left (by omega),this,h0]
  ·rcases List.mem_cons.1 hq1 with hq1 | hq1
   ·rw [hq1,hk] at hm;cases hm
   ·exact hmk q hq1 hm
 ·exact k.ext.step hext (by have:=j79 k.c1 λ q hq=>h.ok q (k.m1 q hq); exact this) w2 λ i hi=>by rw [hex,List.getElem?_append_left hi]
end
end Go.AM
namespace Go.AM
open Go
variable {P:Program} {G:List (Nat×Obj)} {ρ:Type}
theorem z58 {ops:Array Oper} {listed:Array Bool} {i:Nat}:i∈Region.ready .any ops listed ↔
 i < ops.size/\listed.getD i true=false/\∃ o,ops[i]? = some o/\∀ e∈o.after,Region.binds .any e=true->listed.getD e.on false=true:=by
 unfold Region.ready
 rw [List.mem_filter]
 simp only [List.mem_range,Bool.and_eq_true,Bool.not_eq_true']
 constructor
 ·rintro ⟨h1,h2,h3⟩
  refine ⟨h1,h2,?_⟩
  cases ho:ops[i]? with
  | none=>rw [ho] at h3;cases h3
  | some o=>
    rw [ho] at h3
    simp only [Option.map_some,Option.getD_some] at h3
    refine ⟨o,rfl,λ e he hb=>?_⟩
    have:=Array.all_eq_true'.1 h3 e he
    simpa [hb] using this
 ·rintro ⟨h1,h2,o,ho,h3⟩
  refine ⟨h1,h2,?_⟩
  rw [ho]
  simp only [Option.map_some,Option.getD_some]
  refine Array.all_eq_true'.2 λ e he=>?_
  cases hb:Region.binds .any e with
  | false=>rfl
  | true=>simpa [hb] using h3 e he hb
section
variable {tb:Tb} {ops:Array Oper} {A:List (List Nat)} {tr:List Rec} {S0 S9:St} {fr0 F:List Value}
variable {N:Nat} {τ0:Nat->Tag} {w0:World}
theorem j31 (h:Fix P G tb ops A tr S0 fr0 S9 F) (_hN:S9.length<=N) {Q:Exit->Act->World->Prop}
 (hQ:∀ τ' a' w',Rl G N τ' F S9 a' w'->Ext τ0 S0 w0 τ' S9 w'->Q .normal a' w') :
 ∀ (fuel:Nat) (U:List Nat) (listed:Array Bool) (tr1 tr2:List Rec) (X:St) (fX:List Value) (τ:Nat->Tag) (a:Act) (w:World),
  U.length=fuel->U.Nodup->listed.size=ops.size->(∀ i,i < ops.size->(i∈U↔listed.getD i true=false))->(∀ i∈U,i < ops.size) ->
  Inv G ops tr S0 fr0 S9 F N τ0 w0 (λ i=>i < ops.size/\listed.getD i true=true) tr1 tr2 X fX τ a w->wpAny P .any ops Q fuel listed a w:=by
 have je8:∀ (L:Array Bool) (i:Nat) (b c:Bool),L.size=ops.size->i < ops.size->L.getD i b=L.getD i c:=by
  intro L i b c h1 h2
  have : i < L.size:=by omega
  simp [Array.getD,this]
 intro fuel
 induction fuel with
 | zero =>
   intro U listed tr1 tr2 X fX τ a w hU hnd hsz hUl hUn k
   have hUe:U=[]:=List.eq_nil_of_length_eq_zero hU
   have hall:∀ i,i < ops.size->listed.getD i true=true:=by
    intro i hi
    cases hb:listed.getD i true with
    | true=>rfl
    | false=>have:=(hUl i hi).2 hb;rw [hUe] at this;simp at this
   refine ⟨?_,?_⟩
   ·apply List.eq_nil_iff_forall_not_mem.2
    intro i hi
    obtain ⟨h1,h2,_⟩:=z58.1 hi
    rw [hall i h1] at h2;cases h2
   ·-- all done
    have hD:∀ r∈tr,r.i < ops.size/\listed.getD r.i true=true:=by
     intro r hr
     have : r.i < ops.size:=by
      rcases Nat.lt_or_ge r.i ops.size with z | z
      ·exact z
      ·have:=(h.ok r hr).op;rw [Array.getElem?_eq_none z] at this;cases this
     exact ⟨this,hall _ this⟩
    have htr2:tr2=[]:=by
     rcases k.hd with e | ⟨r,t,e,he⟩
     ·exact e
     ·exfalso
      have hr2:r∈tr2:=by rw [e]; simp
      exact k.e2 r hr2 he (hD r (k.m2 r hr2))
    have hc:=k.c2
    rw [htr2] at hc
    obtain ⟨hX,_⟩:=hc
    have hr:=k.hr
    have hx:=k.ext
    rw [<- hX] at hr hx
    refine hQ τ a w ⟨⟨k.size,λ t u hu=>?_⟩,k.defers,hr,k.far⟩ hx
    have:=k.val t λ r hr _=>hD r hr
    simp only [List.getD,hu,Option.getD_some] at this
    exact this
 | succ fuel ih =>
   intro U listed tr1 tr2 X fX τ a w hU hnd hsz hUl hUn k
   have hne:Region.ready .any ops listed≠[]:=by
    have hex:∀ n,n < ops.size->listed.getD n true=false->∃ j,j∈Region.ready .any ops listed:=by
     intro n
     induction n using Nat.strongRecOn with
     | _ n ihn=>
       intro hn hl
       obtain ⟨o,ho⟩:∃ o,ops[n]? = some o:=⟨ops[n],Array.getElem?_eq_getElem hn⟩
       by_cases hall:∀ e∈o.after,Region.binds .any e=true->listed.getD e.on false=true
       ·exact ⟨n,z58.2 ⟨hn,hl,o,ho,hall⟩⟩
       ·have : ∃ e∈o.after,Region.binds .any e=true/\listed.getD e.on false=false:=by
         apply Classical.byContradiction
         intro hno
         refine hall λ e he hb=>?_
         cases hb2:listed.getD e.on false with
         | true=>rfl
         | false=>exact absurd ⟨e,he,hb,hb2⟩ hno
        obtain ⟨e,he,hb,hb2⟩:=this
        have hlt:=(j2w h.anc ho (j2x h.anc ho he hb)).1
        exact ihn e.on hlt (by omega) (by rw [je8 listed e.on true false hsz (by omega)]; exact hb2)
    cases U with
    | nil=>simp at hU
    | cons n U'=>
      have hn:=hUn n (by simp)
      obtain ⟨j,hj⟩:=hex n hn ((hUl n hn).1 (by simp))
      intro e;rw [e] at hj;simp at hj
   refine ⟨λ e=>absurd e hne,λ i hi=>?_⟩
   obtain ⟨hin,hil,o,ho,hed⟩:=z58.1 hi
   obtain ⟨r,hr,hri⟩:=h.all i hin
   subst hri
   have hop:=(h.ok r hr).op
   rw [hop] at ho
   cases ho
   have hrdy:∀ e∈r.o.after,Region.binds .any e=true->e.on < ops.size/\listed.getD e.on true=true:=by
    intro e he hb
    have hlt:=(j2w h.anc hop (j2x h.anc hop he hb)).1
    have hlt':e.on < ops.size:=by omega
    exact ⟨hlt',by rw [je8 listed e.on true false hsz hlt']; exact hed e he hb⟩
   have hn:¬ (r.i < ops.size/\listed.getD r.i true=true):=λ q=>by rw [q.2] at hil;cases hil
   have hiU:r.i∈U:=(hUl r.i hin).2 hil
   have hget:∀ j,(listed.setIfInBounds r.i true).getD j true=if j=r.i then true else listed.getD j true:=by
    intro j
    by_cases e:j=r.i
    ·subst e
     have : r.i < listed.size:=by omega
     simp [Array.getD,this]
    ·rw [if_neg e]
     simp only [Array.getD_eq_getD_getElem?]
     rw [Array.getElem?_setIfInBounds_ne (λ q=>e q.symm)]
   have hD:∀ j,(j < ops.size/\(listed.setIfInBounds r.i true).getD j true=true)↔(j < ops.size/\listed.getD j true=true)\/j=r.i:=by
    intro j
    rw [hget]
    constructor
    ·rintro ⟨h1,h2⟩
     by_cases e:j=r.i
     ·exact .inr e
     ·rw [if_neg e] at h2;exact .inl ⟨h1,h2⟩
    ·rintro (⟨h1,h2⟩ | e)
     ·refine ⟨h1,?_⟩
      split
      ·rfl
      ·exact h2
     ·subst e;exact ⟨hin,if_pos rfl⟩
   have step:∀ (tr1 tr2:List Rec) (X:St) (fX:List Value) (τ':Nat->Tag) (a':Act) (w':World),
    Inv G ops tr S0 fr0 S9 F N τ0 w0 (λ j=>j < ops.size/\(listed.setIfInBounds r.i true).getD j true=true) tr1 tr2 X fX τ' a' w'->wpAny P .any ops Q fuel (listed.setIfInBounds r.i true) a' w':=by
    intro tr1 tr2 X fX τ' a' w' k'
    refine ih (U.erase r.i) _ tr1 tr2 X fX τ' a' w' ?_ (hnd.erase _) (by simpa using hsz) ?_ (λ j hj=>hUn j (List.mem_of_mem_erase hj)) k'
    ·rw [List.length_erase_of_mem hiU]; omega
    ·intro j hj
     rw [hnd.mem_erase_iff,hUl j hj,hget]
     by_cases e:j=r.i
     ·subst e;simp
     ·simp [e]
   have hgr:=k.guard h hr hn hrdy
   have hops:=k.opers h hr hn hrdy
   unfold wpOp
   rw [hop]
   dsimp only
   cases hkd:r.kd with
   | none=>
     obtain ⟨hS,hv,hw⟩:=(h.ok r hr).gno hkd
     rw [hw τ a hgr]
     simp only [Bool.false_eq_true,if_false]
     exact step _ _ _ _ _ _ _ (k.quiet h hr hn hD hrdy (by rw [hkd]; simp) (by rw [hkd]; simp) (by rw [hv]; exact .tuple .nil))
   | pure=>
     have hw:=(h.ok r hr).gyes (by rw [hkd]; simp) τ a hgr
     rw [hw]
     simp only [if_true]
     obtain ⟨_,hq⟩:=(h.ok r hr).pure hkd
     obtain ⟨v',h1,h2⟩:=hq X τ a w hops k.hr
     exact .inl (OS.value (R:=λ v w'=>v=v'/\w'=w) h1 ⟨rfl,rfl⟩ _ _ λ v w' he=>by
      obtain ⟨rfl,rfl⟩:v=v'/\w'=w:=he
      exact step _ _ _ _ _ _ _ (k.quiet h hr hn hD hrdy (by rw [hkd]; simp) (by rw [hkd]; simp) h2))
   | read=>
     have hw:=(h.ok r hr).gyes (by rw [hkd]; simp) τ a hgr
     rw [hw]
     simp only [if_true]
     obtain ⟨S,hq,hS⟩:=k.read h hr hn hrdy hkd
     obtain ⟨v',h1,h2⟩:=hq τ a w hops hS
     exact .inl (OS.value (R:=λ v w'=>v=v'/\w'=w) h1 ⟨rfl,rfl⟩ _ _ λ v w' he=>by
      obtain ⟨rfl,rfl⟩:v=v'/\w'=w:=he
      exact step _ _ _ _ _ _ _ (k.quiet h hr hn hD hrdy (by rw [hkd]; simp) (by rw [hkd]; simp) h2))
   | make=>
     have hw:=(h.ok r hr).gyes (by rw [hkd]; simp) τ a hgr
     rw [hw]
     simp only [if_true]
     obtain ⟨_,_,hA⟩:=(h.ok r hr).make hkd
     obtain ⟨o',h1,h2⟩:=hA.run τ a w hops
     exact .inl (OS.value (R:=λ v w'=>v=r.mkv w.heap.size/\w'=zfm w o') h2 ⟨rfl,rfl⟩ _ _ λ v w' he=>by
      obtain ⟨rfl,rfl⟩:v=r.mkv w.heap.size/\w'=zfm w o':=he
      exact step _ _ _ _ _ _ _ (k.make h hr hn hD hrdy hkd h1))
   | eff=>
     have hw:=(h.ok r hr).gyes (by rw [hkd]; simp) τ a hgr
     rw [hw]
     simp only [if_true]
     obtain ⟨hS,hall⟩:=k.eff h hr hn hD hrdy hkd
     have hsim:=((h.ok r hr).eff hkd).sim r.S'.length τ a w (Nat.le_refl _) (λ id h1 h2=>k.no r hr hn id h1 h2) hops (by rw [hS]; exact k.hr)
     refine .inl (hsim _ _ ?_)
     rintro v' w' ⟨τ',h1,h2,h3⟩
     rw [hS] at h3
     obtain ⟨t1,t2,X',fX',k'⟩:=hall h1 h2 h3
     exact step _ _ _ _ _ _ _ k'
theorem ja7 {tb:Tb} (hT:j1g P G tb):j0a P G (j8s tb):=by
 intro ops fr K S r h
 obtain ⟨⟨hanc,hpos,hcov⟩,h⟩:=jyx h
 obtain ⟨tr,fr',S',hk,hmap,hchain,hok,hfirm,_⟩:=jen hT h
 rw [<- hmap] at hpos hcov
 obtain ⟨hpair,hself⟩:=z1f hok hpos
 have hfix:Fix P G tb ops (j2y ops) tr S fr S' fr':=⟨hchain,hok,hpair,hself,hfirm,λ i hi=>by
  have:=jwm.1 (List.all_eq_true.1 hcov i (by simp [hi]))
  obtain ⟨q,hq,e⟩:=List.mem_map.1 this
  exact ⟨q,hq,e⟩,hanc⟩
 refine ⟨fr',S',hk,λ id=>⟨⟨j76 hchain,λ t ht=>j77 hchain λ q hq hd=>ht (zgs (hok q hq).op t hd)⟩,j79 hchain hok,λ N τ a w hN hr=>?_⟩⟩
 refine wp_region_any hT.mixed ?_
 obtain ⟨t,u,htu,hte,hu⟩:=jy2 tr
 have hc:=hchain
 rw [htu] at hc
 obtain ⟨X,fX,c1,c2⟩:=j7b hc
 obtain ⟨⟨ex,hex⟩,hmk⟩:=j7a c1 (λ q hq=>hok q (by rw [htu]; simp [hq])) hte
 have hlX:X.length<=S'.length:=j79 c2 λ q hq=>hok q (by rw [htu]; simp [hq])
 have hlS:S.length<=X.length:=by rw [hex]; simp
 have hno:∀ (i:Nat) (y:j00),S.length<=i->X[i]? = some y->τ i = .no:=by
  intro i y h1 h2
  refine hr.no i h1 ?_
  rcases Nat.lt_or_ge i X.length with z | z
  ·omega
  ·rw [List.getElem?_eq_none z] at h2;cases h2
 have hold:∀ i,i < S.length->X[i]? = S[i]?:=λ i hi=>by rw [hex,List.getElem?_append_left hi]
 have hHR:HR G τ X w:=by
  refine ⟨hr.hr.lt,hr.hr.inj,λ i b g o hi ho=>?_,λ i o hi ho=>?_,hr.hr.zero,hr.hr.glob⟩
  ·by_cases hl:i < S.length
   ·rw [hold i hl] at ho;exact hr.hr.live i b g o hi ho
   ·have:=hno i o (by omega) ho;rw [this] at hi;cases hi
  ·by_cases hl:i < S.length
   ·rw [hold i hl] at ho;exact hr.hr.dead i o hi ho
   ·have:=hno i o (by omega) ho;rw [this] at hi;cases hi
 have hlist:∀ i,i < ops.size->(Array.replicate ops.size false).getD i true=false:=λ i hi=>by simp [hi]
 refine j31 (N:=N) (τ0:=τ) (w0:=w) hfix hN (Q:=λ e' a' w'=>e'=Exit.normal/\∃ τ',Rl G N τ' fr' S' a' w'/\Ext τ S w τ' S' w')
  (λ τ' a' w' h1 h2=>⟨rfl,τ',h1,h2⟩) ops.size (List.range ops.size) (Array.replicate ops.size false) t u X fX τ a { w with drawn:=w.drawn+1 } (by simp) List.nodup_range (by simp) (λ i hi=>by simp [hi]) (λ i hi=>by simpa using hi) ?_
 have nD:∀ i,¬ (i < ops.size/\(Array.replicate ops.size false).getD i true=true):=λ i ⟨h1,h2⟩=>by rw [hlist i h1] at h2;cases h2
 refine { split:=htu,c1:=c1,c2:=c2,e1:=λ q hq he=>absurd he (hte q hq),e2:=λ q _ _ hd=>nD _ hd,hd:=hu,hr:=hHR.of_heap rfl,mk2:=λ q _ _ hd=>absurd hd (nD _),no:=?_,far:=?_, mk1:=λ q hq hm _=>hmk q hq hm,size:=?_,val:=?_,val0:=?_,defers:=hr.defers,ext:=?_,closed:=λ i o hd=>absurd hd (nD _) }
 ·intro q hq _ id h1 h2
  obtain ⟨w1,w2⟩:=hfix.within hq
  exact hr.no id (by omega) (by omega)
 ·intro id h1 h2;exact hr.no id (by omega) h2
 ·rw [j76 hchain]; exact hr.fr.size
 ·intro s hs
  have:=j77 (t:=s) hchain λ q hq hd=>nD _ (hs q hq hd)
  simp only [List.getD,this]
  cases hfs:fr[s]? with
  | none=>exact .top _
  | some v=>exact hr.fr.val s v hfs
 ·intro s hs
  simp only [List.getD]
  cases hfs:fr[s]? with
  | none=>exact .top _
  | some v=>exact hr.fr.val s v hfs
 ·exact { le:=.refl τ,keep:=λ _ _ h=>h,later:=λ _ _=>rfl,absent:=λ i hi _=>hold i hi,len:=by omega,fresh:=λ i b g h1 h2 ht=>(by have:=hr.no i h1 (by omega); rw [this] at ht;cases ht),conc:=λ _ _ _=>rfl,wlen:=Nat.le_refl _,os:=rfl,tape:=rfl,output:=rfl }
end
end Go.AM
namespace Go.AM
open Go
variable {P:Program}
def inA (x y c:Int):Bool:=decide (0<=x/\0<=y/\0<=c/\c<=1)
def zbl (x y c:Int):Int:=(x+y+c) % 18446744073709551616
def j6m (x y c:Int):Int:=(x+y+c) / 18446744073709551616
def inS (x y c:Int):Bool:=decide (0<=x/\x < 18446744073709551616/\0<=y/\y < 18446744073709551616/\0<=c/\c<=1)
def j9w (x y c:Int):Int:=(x-y-c) % 18446744073709551616
def j6c (x y c:Int):Int:=bif decide (x < y+c) then 1 else 0
def zhk (args:List Value):Option (Bool×Value):=
 match args with
 | [.int .u64 x, .int .u64 y, .int .u64 c] => some (inA x y c, .tuple ⟨[.int .u64 (zbl x y c), .int .u64 (j6m x y c)]⟩)
 | _ => none
def zhl (args:List Value):Option (Bool×Value):=
 match args with
 | [.int .u64 x, .int .u64 y, .int .u64 c] => some (inS x y c, .tuple ⟨[.int .u64 (j9w x y c), .int .u64 (j6c x y c)]⟩)
 | _ => none
def X1 (P:Program) (k:FuncId) (x:List Value->Option (Bool×Value)):Prop:=
 ∀ args v,x args=some (true,v)->jcp v=true/\∀ w,(callFunc k ⟨args⟩).run P w = .ok (.value v) w
theorem j24 {k : FuncId} {fn : Func} (hf : P.funcs[k]? = some fn) (hname : (fn.name == "runtime.NumGoroutine") = false)
 (hb:fn.body.isNone=true) (hn:Extern.findNext fn=none) (he:Extern.find fn=some add64Entry):X1 P k zhk:=by
 intro args v h
 unfold zhk at h
 split at h
 ·rename_i x y c
  injection h with h
  injection h with h1 h2
  have h1:=of_decide_eq_true h1
  obtain ⟨h3,h4,h5,h6⟩:=h1
  subst h2
  refine ⟨rfl,λ w=>?_⟩
  rw [run_callFunc_extern hf hname hb hn he,run_add64 x y c h3 h4 h5 h6]
  rfl
 ·cases h
theorem zbk {k : FuncId} {fn : Func} (hf : P.funcs[k]? = some fn) (hname : (fn.name == "runtime.NumGoroutine") = false)
 (hb:fn.body.isNone=true) (hn:Extern.findNext fn=none) (he:Extern.find fn=some Go.Proofs.sub64Entry):X1 P k zhl:=by
 intro args v h
 unfold zhl at h
 split at h
 ·rename_i x y c
  injection h with h
  injection h with h1 h2
  have h1:=of_decide_eq_true h1
  obtain ⟨h3,h3',h4,h4',h5,h6⟩:=h1
  subst h2
  refine ⟨rfl,λ w=>?_⟩
  obtain ⟨m,rfl⟩:=Int.eq_ofNat_of_zero_le h3
  obtain ⟨n,rfl⟩:=Int.eq_ofNat_of_zero_le h4
  obtain ⟨b,rfl⟩:=Int.eq_ofNat_of_zero_le h5
  have h:=Go.Proofs.run_sub64 (P:=P) (w:=w) m n b (by omega)
  have e1:(((m+18446744073709551616-n-b) % 18446744073709551616:Nat):Int)=((m:Int)-n-b) % 18446744073709551616:=by omega
  have e2:((if m < n+b then 1 else 0:Nat):Int)=(bif decide ((m:Int) < n+b) then 1 else 0):=by
   by_cases hh:m < n+b
   ·have : (m:Int) < n+b:=by omega
    simp [hh,this]
   ·have : ¬ (m:Int) < n+b:=by omega
    simp [hh,this]
  rw [e1,e2] at h
  rw [run_callFunc_extern hf hname hb hn he,h]
  rfl
 ·cases h
theorem jdk {G:List (Nat×Obj)} {k:FuncId} {g:List Value->M Value} (h:g=λ _=>M.fail):j0i P G k g:=by
 intro args S v S' h1
 rw [h] at h1
 cases h1
def jbv:M Value:=M.fail
def z5w (i:Nat) (l:List Value):M (Nat×List Value):=M.ret (i,l)
def jbu:M (Nat×List Value):=M.fail
def jw6:List (Nat×(List Value->Option (Bool×Value)))->FuncId->List Value->Option (Bool×Value)
 | [], _, _ => none
 | (q, a) :: l, p, args => match Nat.beq q p with
   | true=>a args
   | false=>jw6 l p args
def jsj:List (Nat×(List Value->Option (Bool×Value)))->FuncId->Bool
 | [], _ => false
 | (q, _) :: l, p => match Nat.beq q p with
   | true=>true
   | false=>jsj l p
def j07 (P:Program):List (Nat×(List Value->Option (Bool×Value)))->Prop
 | [] => True
 | (k, x) :: l => X1 P k x /\ j07 P l
theorem jw7:∀ {L:List (Nat×(List Value->Option (Bool×Value)))},j07 P L->XOK P (jw6 L)
 | [], _ => λ k args v h => by cases h
 | (q, a) :: l, hall => λ k args v h => by
   simp only [jw6] at h
   cases hb:Nat.beq q k with
   | true=>
     rw [hb] at h
     have:=Nat.eq_of_beq_eq_true hb
     subst this
     exact hall.1 args v h
   | false=>
     rw [hb] at h
     exact jw7 hall.2 k args v h
end Go.AM
namespace Go.AM
open Go Go.RowKit
variable {P:Program} {G:List (Nat×Obj)}
def z6e (e:TypeId) (r:List Value->Option (List Value×Value)):List Value->M Value:=λ args S=>
 match r args with
 | none => none
 | some ([], c) => some (.tuple ⟨[.slice none 0 0, c]⟩, S)
 | some (x :: xs, c) => some (.tuple ⟨[.slice (some ⟨S.length, 0, none⟩) (xs.length + 1) (xs.length + 1), c]⟩, S ++ [.cells (x :: xs) e (some 1)])
theorem HR.below {τ:Nat->Tag} {S:St} {w W:World} (h:HR G τ S w) (hb:Below w.heap.size w W):HR G τ S W where
 lt:=λ i b g hi=>Nat.lt_of_lt_of_le (h.lt i b g hi) hb.size
 inj:=h.inj
 live:=λ i b g o hi ho=>by rw [hb.block b (h.lt i b g hi)]; exact h.live i b g o hi ho
 dead:=h.dead
 zero:=h.zero
 glob:=λ p hp=>⟨by rw [hb.block _ (h.block_lt hp)]; exact (h.glob p hp).1,(h.glob p hp).2⟩
theorem Ext.below {τ:Nat->Tag} {S:St} {w W:World} (hb:Below w.heap.size w W):Ext τ S w τ S W where
 le:=.refl τ
 keep:=λ _ _ h=>h
 later:=λ _ _=>rfl
 absent:=λ _ _ _=>rfl
 len:=Nat.le_refl _
 fresh:=λ i _ _ h h' _=>by omega
 conc:=λ b h _=>hb.block b h
 wlen:=hb.size
 os:=hb.os
 tape:=hb.tape
 output:=hb.output
theorem Ext.takeB {τ:Nat->Tag} {S:St} {w W:World} (hn:τ S.length = .no) (hb:Below w.heap.size w W) {x:j00} {b:Nat} {g:Option (Nat×Nat)} (hg:w.heap.size<=b) :
 Ext τ S w (upd τ S.length (.live b g)) (S++[x]) W where
 le:=TLe.upd hn
 keep:=λ i hi h0=>by
  simp at hi
  rw [zer _ _ (by omega)]; exact h0
 later:=λ i hi=>by
  simp at hi
  rw [zer _ _ (by omega)]
 absent:=λ i hi _=>List.getElem?_append_left hi
 len:=by simp
 fresh:=λ i c g' hi hi' ht=>by
  simp at hi'
  have : i=S.length:=by omega
  subst this;rw [zes] at ht;cases ht;exact .inl hg
 conc:=λ b h _=>hb.block b h
 wlen:=hb.size
 os:=hb.os
 tape:=hb.tape
 output:=hb.output
theorem VRs.flats {τ:Nat->Tag}:∀ {l:List Value},l.all jcs=true->VRs τ l l
 | [], _ => .nil
 | a :: l, h => by
   simp at h
   exact .cons (.flat h.1) (VRs.flats (by simpa using h.2))
theorem z6f {k:FuncId} {e:TypeId} {r:List Value->Option (List Value×Value)} (hen:Enters P k)
 (h:∀ args xs c,r args=some (xs,c)->args.all jcs=true/\xs.all jcs=true/\jcs c=true/\∀ w,(∀ p∈G,w.heap[p.1]? = some p.2) ->
   Calls P k ⟨args⟩ w λ en W=>∃ v,en = .returned (.tuple #[v,c])/\W.ownsRow w.heap.size e 1 v xs.length xs/\Below w.heap.size w W/\(xs=[]->v = .slice none 0 0)) :
 j0i P G k (z6e e r):=by
 intro args S v S' h1
 unfold z6e at h1
 split at h1
 ·cases h1
 ·rename_i c hr
  cases h1
  obtain ⟨ha,_,hc,hcall⟩:=h _ _ _ hr
  refine ⟨hen,Nat.le_refl _,λ N τ w args' hN hno hv hr=>?_⟩
  rw [flats hv ha]
  refine (hcall w λ p hp=>(hr.glob p hp).1).mono ?_
  rintro en W ⟨v,rfl,_,hb,hnil⟩
  rw [hnil rfl]
  exact ⟨_,rfl,τ,.tuple (.cons (.flat rfl) (.cons (.flat hc) .nil)),hr.below hb,.below hb⟩
 ·rename_i x xs c hr
  cases h1
  obtain ⟨ha,hx,hc,hcall⟩:=h _ _ _ hr
  refine ⟨hen,by simp,λ N τ w args' hN hno hv hr=>?_⟩
  rw [flats hv ha]
  refine (hcall w λ p hp=>(hr.glob p hp).1).mono ?_
  rintro en W ⟨v,rfl,hown,hb,_⟩
  simp at hN
  have hn:τ S.length = .no:=hno _ (Nat.le_refl _) (by omega)
  obtain ⟨hlen,hv2 | ⟨b,cap,cur,rfl,hbase,hcell,hcap,hmax,hsz,htake⟩⟩:=hown
  ·exact absurd hv2.2 (by simp)
  ·have hcur:cur=⟨(x :: xs)++cur.toList.drop (xs.length+1)⟩:=by
    apply Array.toList_inj.1
    show cur.toList=(x :: xs)++cur.toList.drop (xs.length+1)
    simp only [List.length_cons,Nat.mul_one] at htake
    rw [<- htake,List.take_append_drop]
   have hcs:cur.toList.length=cap:=by simp [hsz]
   have ho:OR τ (some (1,cap)) (.cells (x :: xs) e (some 1)) (.cells cur e (0,0)):=by
    rw [hcur]
    refine OR.cells (g:=some (1,cap)) (VRs.flats hx) (λ h=>by cases h) λ p hp=>?_
    cases hp
    simp only [List.length_cons] at hcap
    simp only [List.length_cons,List.length_drop,hcs]
    omega
   have hbl:b < W.heap.size:=by
    rcases Nat.lt_or_ge b W.heap.size with h | h
    ·exact h
    ·rw [Array.getElem?_eq_none h] at hcell;cases hcell
   refine ⟨_,rfl,upd τ S.length (.live b (some (1,cap))),?_,?_,?_⟩
   ·refine .tuple (.cons ?_ (.cons (.flat hc) .nil))
    refine .slice (g:=some (1,cap)) (zes _ _ _) (λ h=>by cases h) (by simpa using hcap) λ p hp _=>?_
    cases hp
    simp
   ·exact (hr.below hb).take hn (λ i g' hi=>by have:=hr.lt i b g' hi;omega) (λ p hp=>by have:=hr.block_lt hp;omega) hbl ho hcell (λ _ _ _=>rfl) (Nat.le_refl _)
   ·exact .takeB hn hb hbase
end Go.AM
namespace Go.AM
open Go
variable {P:Program} {G:List (Nat×Obj)}
def jvv (L:List (Nat×(List Value->M Value))) (C:FuncId->List Value->M Value):FuncId->List Value->M Value:=λ p args=>
 match L with
 | [] => C p args
 | (q, a) :: l => match Nat.beq q p with
   | true=>a args
   | false=>jvv l C p args
def noC:FuncId->List Value->M Value:=λ _ _=>M.fail
theorem jy5:COK P G noC:=λ _ _ _ _ _ h=>by cases h
theorem jvx {C:FuncId->List Value->M Value} (hC:COK P G C):∀ {L:List (Nat×(List Value->M Value))},j02 P G L->COK P G (jvv L C)
 | [], _ => λ k args S v S' h => hC k args S v S' h
 | (q, a) :: l, hall => λ k args S v S' h => by
   simp only [jvv] at h
   cases hb:Nat.beq q k with
   | true=>
     rw [hb] at h
     have:=Nat.eq_of_beq_eq_true hb
     subst this
     exact hall.1 args S v S' h
   | false=>
     rw [hb] at h
     exact jvx hC hall.2 k args S v S' h
end Go.AM
namespace Go.AM
open Go Go.RowKit
variable {P:Program} {G:List (Nat×Obj)}
def jvh (G:List (Nat×Obj)) (b:Nat):Obj->Bool
 | .cells _ _ _ => !(G.any λ p => Nat.beq p.1 b)
 | _ => false
def jzh (w:World):List Value:=w.heap.toList.flatMap λ o=>match o with
 | .cells c _ _ => c.toList.filter λ v => !jcs v
 | _ => []
open Classical in
noncomputable def zdg (w:World) (v:Value):Value:=bif jcs v then v else .chan (some (w.heap.size+1+(jzh w).findIdx λ u=>decide (u=v)))
noncomputable def j1l (G:List (Nat×Obj)) (w:World) (b:Nat) (o:Obj):j00:=match jvh G b o,o with
 | true, .cells c e z => .ro (c.toList.map (zdg w)) e z
 | _, _ => .dead
noncomputable def S0 (G:List (Nat×Obj)) (w:World):St:=.dead :: (w.heap.toList.mapIdx (j1l G w)++(jzh w).map λ _=>.dead)
def T0 (G:List (Nat×Obj)) (w:World):Nat->Tag
 | 0 => .dead
 | b + 1 => match w.heap[b]? with
   | none=>match (jzh w)[b-w.heap.size]? with
     | none=>.no
     | some v=>.opq v
   | some o=>match jvh G b o with
     | true=>.live b none
     | false=>.dead
theorem j15 {w:World} {b:Nat} {o:Obj} (h:w.heap[b]? = some o):(S0 G w)[b+1]? = some (j1l G w b o):=by
 have hb:b < w.heap.size:=by
  rcases Nat.lt_or_ge b w.heap.size with h' | h'
  ·exact h'
  ·rw [Array.getElem?_eq_none h'] at h;cases h
 simp only [S0,List.getElem?_cons_succ]
 rw [List.getElem?_append_left (by simpa using hb)]
 simp only [List.getElem?_mapIdx,Array.getElem?_toList,h,Option.map_some]
theorem j16 (w:World):(S0 G w).length=w.heap.size+(jzh w).length+1:=by simp [S0]
theorem j1c {w:World} {i b:Nat} {g:Option (Nat×Nat)} (h:T0 G w i = .live b g):i=b+1/\g=none/\∃ c e z,w.heap[b]? = some (.cells c e z)/\jvh G b (.cells c e z)=true:=by
 cases i with
 | zero => cases h
 | succ j =>
   simp only [T0] at h
   split at h
   ·split at h <;> cases h
   ·rename_i o ho
    split at h
    ·rename_i hl
     cases h
     refine ⟨rfl,rfl,?_⟩
     unfold jvh at hl
     split at hl
     ·exact ⟨_,_,_,ho,by unfold jvh;exact hl⟩
     ·cases hl
    ·cases h
theorem j1d {w:World} {i:Nat} (h:(S0 G w).length<=i):T0 G w i = .no:=by
 rw [j16] at h
 cases i with
 | zero => omega
 | succ j =>
   have h1:w.heap[j]? = none:=Array.getElem?_eq_none (by omega)
   have h2:(jzh w)[j-w.heap.size]? = none:=List.getElem?_eq_none (by omega)
   simp only [T0,h1,h2]
theorem zdh {w:World} {b:Nat} {c:Array Value} {e:TypeId} {f:Nat×Nat} (hb:w.heap[b]? = some (.cells c e f)) {v:Value} (hv:v∈c.toList):VR (T0 G w) (zdg w v) v:=by
 unfold zdg
 cases h:jcs v with
 | true => exact .flat h
 | false =>
   have hm:v∈jzh w:=by
    unfold jzh
    rw [List.mem_flatMap]
    exact ⟨_,List.mem_of_getElem? (by rw [Array.getElem?_toList]; exact hb),by simp [List.mem_filter,h]; simpa using hv⟩
   classical
   have hlt:(jzh w).findIdx (λ u=>decide (u=v)) < (jzh w).length:=List.findIdx_lt_length_of_exists ⟨v,hm,by simp⟩
   have hget:=List.findIdx_getElem (w:=hlt)
   have hget:=of_decide_eq_true hget
   refine .opq ?_
   rw [Nat.add_right_comm]
   have h1:w.heap[w.heap.size+(jzh w).findIdx (λ u=>decide (u=v))]? = none:=Array.getElem?_eq_none (by omega)
   simp only [T0,h1,Nat.add_sub_cancel_left]
   rw [List.getElem?_eq_getElem hlt,hget]
theorem j1m {w:World} {b:Nat} {c:Array Value} {e:TypeId} {z:Nat×Nat} (hl:jvh G b (.cells c e z)=true):j1l G w b (.cells c e z) = .ro (c.toList.map (zdg w)) e z:=by
 unfold j1l;rw [hl]
theorem VRs.map_left {τ:Nat->Tag} {f:Value->Value}:∀ {l:List Value},(∀ v∈l,VR τ (f v) v)->VRs τ (l.map f) l
 | [], _ => .nil
 | a :: l, h => .cons (h a (by simp)) (VRs.map_left λ v hv => h v (by simp [hv]))
theorem HR0 {w:World} (hG:∀ p∈G,w.heap[p.1]? = some p.2):HR G (T0 G w) (S0 G w) w where
 lt:=λ i b g h=>by
  obtain ⟨_,_,c,e,z,hc,_⟩:=j1c h
  rcases Nat.lt_or_ge b w.heap.size with h | h
  ·exact h
  ·rw [Array.getElem?_eq_none h] at hc;cases hc
 inj:=λ i j b g g' h h'=>by rw [(j1c h).1,(j1c h').1]
 live:=λ i b g o h ho=>by
  obtain ⟨rfl,rfl,c,e,z,hc,hl⟩:=j1c h
  rw [j15 hc] at ho
  cases ho
  refine ⟨_,hc,?_⟩
  rw [j1m hl]
  exact OR.ro (c':=c.toList) (VRs.map_left λ v hv=>zdh hc hv)
 dead:=λ i o h ho=>by
  cases i with
  | zero=>simp [S0] at ho;exact ho.symm
  | succ j=>
    simp only [T0] at h
    split at h
    ·split at h <;> cases h
    ·rename_i o' ho'
     rw [j15 ho'] at ho
     cases ho
     split at h
     ·cases h
     ·rename_i hl
      unfold j1l;rw [hl]
 zero:=rfl
 glob:=λ p hp=>⟨hG p hp,λ i g h=>by
  obtain ⟨_,_,c,e,z,_,hl⟩:=j1c h
  simp only [jvh,Bool.not_eq_true',List.any_eq_false] at hl
  exact hl p hp (Nat.beq_refl _)⟩
theorem j9r {τ τ':Nat->Tag} (hle:TLe τ τ'):∀ {c l l':List Value},(∀ v∈c,jcs v=true\/∃ r,v = .chan (some r))->VRs τ c l->VRs τ' c l'->l=l'
 | [], _, _, _, .nil, .nil => rfl
 | v :: c, _, _, hc, .cons h1 h2, .cons h3 h4 => by
   rw [j9r hle (λ u hu=>hc u (by simp [hu])) h2 h4]
   congr 1
   rcases hc v (by simp) with hf | ⟨r,rfl⟩
   ·have e1:=Go.AM.flats (.cons h1 .nil) (by simpa using hf)
    have e2:=Go.AM.flats (.cons h3 .nil) (by simpa using hf)
    rw [List.cons.injEq] at e1 e2
    rw [e1.1,e2.1]
   ·cases h1 with
    | flat hf=>cases hf
    | opq h5=>
      cases h3 with
      | flat hf=>cases hf
      | opq h6=>
        have:=hle.opq h5
        rw [h6] at this
        cases this;rfl
theorem OR.det {τ τ':Nat->Tag} (hle:TLe τ τ') {c:List Value} {e:TypeId} {z:Nat×Nat} {o o':Obj} (hc:∀ v∈c,jcs v=true\/∃ r,v = .chan (some r)) (h:OR τ none (.ro c e z) o) (h':OR τ' none (.ro c e z) o'):o=o':=by
 generalize hx:j00.ro c e z=x at h
 generalize hy:j00.ro c e z=y at h'
 cases h with
 | map _ => cases hx
 | cells _ _ _ => cases hx
 | ro a1 =>
   cases h' with
   | map _=>cases hy
   | cells _ _ _=>cases hy
   | ro b1=>
     injection hx with x1 x2 x3
     injection hy with y1 y2 y3
     subst x1 x2 x3 y1 y2 y3
     rw [j9r hle hc a1 b1]
theorem jud {k:FuncId} {g:List Value->M Value} (hk:j0i P G k g) {w:World} (hG:∀ p∈G,w.heap[p.1]? = some p.2) {args args':List Value}
 (hargs:VRs (T0 G w) args args') (hrun:∃ S',g args (S0 G w)=some (.bool true,S')/\S0 G w <+: S') :
 Calls P k ⟨args'⟩ w λ en w'=>en = .returned (.bool true)/\Below w.heap.size w w':=by
 obtain ⟨S',hr,hp⟩:=hrun
 obtain ⟨_,hlen,hcall⟩:=hk _ _ _ _ hr
 have h0:=HR0 (w:=w) hG
 refine (hcall S'.length (T0 G w) w args' (Nat.le_refl _) (λ i hi _=>j1d hi) hargs h0).mono ?_
 rintro en w' ⟨v',rfl,τ',hv,hr',hx⟩
 refine ⟨by rw [hv.bool],hx.os,hx.tape,hx.output,hx.wlen,λ b hb=>?_⟩
 obtain ⟨o,ho⟩:∃ o,w.heap[b]? = some o:=⟨_,Array.getElem?_eq_getElem hb⟩
 cases hl:jvh G b o with
 | false =>
   refine hx.conc b hb λ i g hi ht=>?_
   obtain ⟨_,_,c,e,z,hc,hl'⟩:=j1c ht
   rw [ho] at hc;cases hc
   rw [hl] at hl'; cases hl'
 | true =>
   obtain ⟨c,e,z,rfl⟩:∃ c e z,o = .cells c e z:=by
    unfold jvh at hl
    split at hl
    ·exact ⟨_,_,_,rfl⟩
    ·cases hl
   have hfl:∀ v∈c.toList.map (zdg w),jcs v=true\/∃ r,v = .chan (some r):=by
    intro v hv
    obtain ⟨u,_,rfl⟩:=List.mem_map.1 hv
    unfold zdg
    cases h:jcs u with
    | true=>exact .inl h
    | false=>exact .inr ⟨_,rfl⟩
   have hS:=j15 (G:=G) ho
   rw [j1m hl] at hS
   have hlt:b+1 < (S0 G w).length:=by rw [j16]; omega
   have hS':S'[b+1]? = some (.ro (c.toList.map (zdg w)) e z):=by
    obtain ⟨t,rfl⟩:=hp
    rw [List.getElem?_append_left hlt]; exact hS
   have ht:T0 G w (b+1) = .live b none:=by simp only [T0,ho]; rw [hl]
   obtain ⟨o1,h1,h2⟩:=h0.live _ _ _ _ ht hS
   rcases hx.le.live ht with h3 | h3
   ·obtain ⟨o2,h4,h5⟩:=hr'.live _ _ _ _ h3 hS'
    rw [h1,h4,OR.det hx.le hfl h2 h5]
   ·have:=hr'.dead _ _ h3 hS'
    cases this
end Go.AM
namespace Go.AM
open Go Go.RowKit
variable {G:List (Nat×Obj)}
theorem j6q {w:World} {b o:Nat} {v:Value} (hc:w.cell? ⟨b,o,none⟩=some v) (hf:jcs v=true) (hG:∀ p∈G,p.1≠b):(S0 G w).cell ⟨b+1,o,none⟩=some v:=by
 unfold World.cell? at hc
 split at hc
 ·rename_i c e z hb
  have hl:jvh G b (.cells c e z)=true:=by
   simp only [jvh,Bool.not_eq_true',List.any_eq_false]
   intro p hp hq
   exact hG p hp (Nat.eq_of_beq_eq_true hq)
  have h1:=j15 (G:=G) hb
  rw [j1m hl] at h1
  simp only [St.cell,h1]
  simp only [Option.isSome_none,Bool.false_eq_true,if_false,List.getElem?_map,Array.getElem?_toList]
  simp at hc
  rw [hc]
  simp [zdg,hf]
 ·cases hc
def shA (A:Option Addr) (n:Nat):Option Addr:=match A with
 | none => none
 | some a => match n with
   | 0=>some ⟨0,0,none⟩
   | _+1=>some ⟨a.block+1,a.off,none⟩
theorem z99 {w:World} {A:Option Addr} {n c:Nat} (h:0 < n->∃ b o,A=some ⟨b,o,none⟩/\b < w.heap.size):VR (T0 G w) (.slice (shA A n) n c) (.slice A n c):=by
 cases A with
 | none => exact .flat rfl
 | some a =>
   cases n with
   | zero=>exact .sliceDead (a:=⟨0,0,none⟩) rfl (Nat.le_refl _)
   | succ n=>
     obtain ⟨b,o,e,hb⟩:=h (by omega)
     cases e
     obtain ⟨ob,ho⟩:∃ x,w.heap[b]? = some x:=⟨_,Array.getElem?_eq_getElem hb⟩
     have ht:T0 G w (b+1)=match jvh G b ob with
      | true=>.live b none
      | false=>.dead:=by simp only [T0,ho] <;> (cases jvh G b ob <;> rfl)
     cases hl:jvh G b ob with
     | true=>rw [hl] at ht;exact .slice ht (λ _=>rfl) (Nat.le_refl _) (λ p hp=>by cases hp)
     | false=>rw [hl] at ht;exact .sliceDead (a:=⟨b+1,o,none⟩) ht (Nat.le_refl _)
end Go.AM
namespace Go.AM
open Go Go.RowKit
variable {P:Program} {G:List (Nat×Obj)}
def zet (r:List Value->Option Value):List Value->M Value:=λ args S=>(r args).map λ v=>(v,S)
theorem zeu {k:FuncId} {r:List Value->Option Value} (hen:Enters P k)
 (h:∀ args v,r args=some v->args.all jcs=true/\jcs v=true/\∀ w,(∀ p∈G,w.heap[p.1]? = some p.2) ->
   Calls P k ⟨args⟩ w λ en W=>en = .returned v/\Below w.heap.size w W):j0i P G k (zet r):=by
 intro args S v S' h1
 unfold zet at h1
 cases hr:r args with
 | none => rw [hr] at h1; cases h1
 | some u =>
   rw [hr] at h1
   cases h1
   obtain ⟨ha,hv,hc⟩:=h _ _ hr
   refine ⟨hen,Nat.le_refl _,λ N τ w args' hN hno hva hr=>?_⟩
   rw [flats hva ha]
   refine (hc w λ p hp=>(hr.glob p hp).1).mono ?_
   rintro en W ⟨rfl,hb⟩
   exact ⟨_,rfl,τ,.flat hv,hr.below hb,.below hb⟩
end Go.AM
namespace Go.AM
open Go
abbrev vI (n:Int):Value:=.int .i64 n
abbrev vU (n:Int):Value:=.int .u64 n
abbrev vB (b:Bool):Value:=.bool b
abbrev vT (l:List Value):Value:=.tuple ⟨l⟩
abbrev vA (l:List Value):Value:=.agg ⟨l⟩
abbrev ar (l:List Value):Array Value:=⟨l⟩
abbrev ad (b o:Nat):Addr:=⟨b,o,none⟩
abbrev aI (v:Value):M Int:=asI .i64 v
abbrev aU (v:Value):M Int:=asI .u64 v
abbrev wI (n:Int):Int:=IntKind.i64.wrap n
abbrev wU (n:Int):Int:=IntKind.u64.wrap n
theorem z1a {k:IntKind} {n:Int} {z l:List Value} (h:z17 (.int k n :: z) l=true):∃ a l',l = .int k a :: l'/\z17 z l'=true:=by
 cases l with
 | nil => cases h
 | cons x l =>
   cases x <;> simp [z17] at h
   obtain ⟨rfl,h⟩:=h
   exact ⟨_,_,rfl,h⟩
theorem z1b {l:List Value} (h:z17 [] l=true):l=[]:=by
 cases l with
 | nil => rfl
 | cons x l => cases h
theorem jb6 {P:Program} {t:TypeId} (h:P.eqGuardType P.depth t=false) (l m:List Value) (w:World) (op:BinOp) (u v:Operand):(eqGuard op t u v (.agg ⟨l⟩) (.agg ⟨m⟩)).run P w = .ok () w:=by
 unfold eqGuard
 cases op <;> simp [h]
theorem jb7 {P:Program} {t:TypeId} {l m:List Value} {w:World} {b:Bool} (h:(binOp .eql t (.agg ⟨l⟩) (.agg ⟨m⟩)).run P w = .ok (.bool b) w) :
 (Op.equal t (.agg ⟨l⟩) (.agg ⟨m⟩)).run P w = .ok b w:=by
 have e:(binOp .eql t (.agg ⟨l⟩) (.agg ⟨m⟩)).run P w=((Op.equal t (.agg ⟨l⟩) (.agg ⟨m⟩)).run P w).andThen (λ b w=>.ok (.bool b) w):=by
  simp [binOp]
 rw [e] at h
 cases hq:(Op.equal t (.agg ⟨l⟩) (.agg ⟨m⟩)).run P w <;> rw [hq] at h <;> simp [Result.andThen] at h
 rw [h.1,h.2]
def jvy:List (Nat×List Value)->TypeId->Option (List Value)
 | [], _ => none
 | (q, a) :: l, p => match Nat.beq q p with
   | true=>some a
   | false=>jvy l p
def j03 (P:Program):List (Nat×List Value)->Prop
 | [] => True
 | (t, z) :: l => j0c P z t /\ j03 P l
theorem jvz {P:Program}:∀ {L:List (Nat×List Value)},j03 P L->∀ t z,jvy L t=some z->j0c P z t
 | [], _ => λ t z h => by cases h
 | (q, a) :: l, hall => λ t z h => by
   simp only [jvy] at h
   split at h
   ·rename_i hb
    have:=Nat.eq_of_beq_eq_true hb
    subst this
    cases h
    exact hall.1
   ·exact jvz hall.2 t z h
variable {α:Type}
abbrev vS (a:Option Addr) (n c:Nat):Value:=.slice a n c
abbrev vP (a:Option Addr):Value:=.pointer a
abbrev M.bI (m:M Value) (k:Int->M α):M α:=m.bind λ v=>(aI v).bind k
abbrev M.bU (m:M Value) (k:Int->M α):M α:=m.bind λ v=>(aU v).bind k
abbrev M.bB (m:M Value) (k:Bool->M α):M α:=m.bind λ v=>(asB v).bind k
abbrev M.bS (m:M Value) (k:Sl->M α):M α:=m.bind λ v=>(asS v).bind k
abbrev M.bP (m:M Value) (k:Option Addr->M α):M α:=m.bind λ v=>(asP v).bind k
abbrev M.bA (m:M Value) (k:List Value->M α):M α:=m.bind λ v=>(asA v).bind k
abbrev M.bT (m:M Value) (k:List Value->M α):M α:=m.bind λ v=>(asT v).bind k
abbrev M.bN (m:M Value) (n:Nat) (k:List Value->M α):M α:=m.bind λ v=>(asT v).bind λ vs=>jr0 (vs.length=n) (k vs)
abbrev gL (l:List Value) (n:Nat) (m:M α):M α:=jr0 (l.length=n) m
abbrev hI (l:List Value) (k:Int->M α):M α:=(aI (l.headD zdj)).bind k
abbrev hU (l:List Value) (k:Int->M α):M α:=(aU (l.headD zdj)).bind k
abbrev hB (l:List Value) (k:Bool->M α):M α:=(asB (l.headD zdj)).bind k
abbrev hS (l:List Value) (k:Sl->M α):M α:=(asS (l.headD zdj)).bind k
abbrev hP (l:List Value) (k:Option Addr->M α):M α:=(asP (l.headD zdj)).bind k
abbrev hA (l:List Value) (k:List Value->M α):M α:=(asA (l.headD zdj)).bind k
abbrev hT (l:List Value) (k:List Value->M α):M α:=(asT (l.headD zdj)).bind k
abbrev lI (b o:Nat) (k:Int->M α):M α:=(ld (ad b o)).bI k
abbrev lU (b o:Nat) (k:Int->M α):M α:=(ld (ad b o)).bU k
abbrev lB (b o:Nat) (k:Bool->M α):M α:=(ld (ad b o)).bB k
abbrev lS (b o:Nat) (k:Sl->M α):M α:=(ld (ad b o)).bS k
abbrev lP (b o:Nat) (k:Option Addr->M α):M α:=(ld (ad b o)).bP k
abbrev lA (b o:Nat) (k:List Value->M α):M α:=(ld (ad b o)).bA k
abbrev lT (b o:Nat) (k:List Value->M α):M α:=(ld (ad b o)).bT k
abbrev onX {β:Type} (n:Int) (l:Nat) (a:Option β) (k:β->M α):M α:=jr0 (0<=n/\n < (l:Int)) (jz2 a k)
def ax (a:Addr) (n:Int) (w:Nat):Addr:=a.add (n.toNat*w)
abbrev xI (a:Addr) (n:Int) (w:Nat) (k:Int->M α):M α:=(ld (ax a n w)).bI k
abbrev xU (a:Addr) (n:Int) (w:Nat) (k:Int->M α):M α:=(ld (ax a n w)).bU k
abbrev xB (a:Addr) (n:Int) (w:Nat) (k:Bool->M α):M α:=(ld (ax a n w)).bB k
abbrev xS (a:Addr) (n:Int) (w:Nat) (k:Sl->M α):M α:=(ld (ax a n w)).bS k
abbrev xP (a:Addr) (n:Int) (w:Nat) (k:Option Addr->M α):M α:=(ld (ax a n w)).bP k
abbrev xA (a:Addr) (n:Int) (w:Nat) (k:List Value->M α):M α:=(ld (ax a n w)).bA k
abbrev xT (a:Addr) (n:Int) (w:Nat) (k:List Value->M α):M α:=(ld (ax a n w)).bT k
abbrev dI (a:Addr) (k:Int->M α):M α:=(ld a).bI k
abbrev dU (a:Addr) (k:Int->M α):M α:=(ld a).bU k
abbrev dB (a:Addr) (k:Bool->M α):M α:=(ld a).bB k
abbrev dS (a:Addr) (k:Sl->M α):M α:=(ld a).bS k
abbrev dP (a:Addr) (k:Option Addr->M α):M α:=(ld a).bP k
abbrev nC (l:List Value) (t:TypeId):M Nat:=jxx (.cells l t none)
abbrev nB (l:List Value) (t:TypeId) (k:Nat->M α):M α:=(nC l t).bind k
abbrev sL (a:Addr) (l:List Value) (k:Unit->M α):M α:=(stL a l).bind k
end Go.AM
