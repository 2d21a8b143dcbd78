/-
  Part of the proof of a law: the translation of code into programs over an abstract store, and its soundness. Conditions: none.
-/
import Derived.Orders
import Derived.WalkKit
import Derived.Laws.CopyRow
import Derived.Laws.MakeOwn
import Derived.Laws.Tables
import Derived.Laws.AppendOwn
set_option linter.unusedVariables false
set_option linter.unusedSectionVars false
set_option linter.unusedSimpArgs false
set_option linter.deprecated false
namespace Go.AM
open Go
inductive Tag where
 | no
 | dead
 | live (b : Nat) (g : Option (Nat × Nat))
 | opq (v : Value)
def jcs:Value->Bool
 | .bool _ | .int _ _ | .string _ | .pointer none | .slice none _ _ | .map none | .nilFunc | .nilIface => true
 | _ => false
abbrev zdj:Value:=.chan none
mutual
inductive VR (τ:Nat->Tag):Value->Value->Prop
 | top (v : Value) : VR τ (.chan none) v
 | opq {r : Nat} {v : Value} : τ r = .opq v -> VR τ (.chan (some r)) v
 | flat {v : Value} : jcs v = true -> VR τ v v
 | ptr {b o c : Nat} {g : Option (Nat × Nat)} : τ b = .live c g -> VR τ (.pointer (some ⟨b, o, none⟩)) (.pointer (some ⟨c, o, none⟩))
 | ptrDead {a a' : Addr} : τ a.block = .dead -> VR τ (.pointer (some a)) (.pointer (some a'))
 | slice {b o c n k k' : Nat} {g : Option (Nat × Nat)} : τ b = .live c g -> (g = none -> k' = k) -> k <= k' -> (∀ p, g = some p -> o = 0 -> k' * p.1 <= p.2) ->
    VR τ (.slice (some ⟨b,o,none⟩) n k) (.slice (some ⟨c,o,none⟩) n k')
 | sliceDead {a a' : Addr} {n k k' : Nat} : τ a.block = .dead -> k <= k' -> VR τ (.slice (some a) n k) (.slice (some a') n k')
 | map {r c : Nat} {g : Option (Nat × Nat)} : τ r = .live c g -> VR τ (.map (some r)) (.map (some c))
 | mapDead {r r' : Nat} : τ r = .dead -> VR τ (.map (some r)) (.map (some r'))
 | iface {t : TypeId} {v v' : Value} : VR τ v v' -> VR τ (.iface t v) (.iface t v')
 | agg {l l' : List Value} : VRs τ l l' -> VR τ (.agg ⟨l⟩) (.agg ⟨l'⟩)
 | tuple {l l' : List Value} : VRs τ l l' -> VR τ (.tuple ⟨l⟩) (.tuple ⟨l'⟩)
 | func {fn : Fn} {f f' c c' : List Value} : VRs τ f f' -> VRs τ c c' -> VR τ (.func fn ⟨f⟩ ⟨c⟩) (.func fn ⟨f'⟩ ⟨c'⟩)
inductive VRs (τ:Nat->Tag):List Value->List Value->Prop
 | nil : VRs τ [] []
 | cons {v v' : Value} {l l' : List Value} : VR τ v v' -> VRs τ l l' -> VRs τ (v :: l) (v' :: l')
end
def TLe (τ τ':Nat->Tag):Prop:=∀ i,τ i = .no\/τ' i=τ i\/(∃ b g,τ i = .live b g)/\τ' i = .dead
theorem TLe.refl (τ:Nat->Tag):TLe τ τ:=λ _=>.inr (.inl rfl)
theorem TLe.dead {τ τ':Nat->Tag} (h:TLe τ τ') {i:Nat} (hi:τ i = .dead):τ' i = .dead:=by
 rcases h i with h | h | ⟨⟨b,g,h⟩,_⟩
 ·rw [h] at hi;cases hi
 ·rw [h,hi]
 ·rw [h] at hi;cases hi
theorem TLe.live {τ τ':Nat->Tag} (h:TLe τ τ') {i b:Nat} {g:Option (Nat×Nat)} (hi:τ i = .live b g):τ' i = .live b g\/τ' i = .dead:=by
 rcases h i with h | h | ⟨_,h⟩
 ·rw [h] at hi;cases hi
 ·exact .inl (h.trans hi)
 ·exact .inr h
theorem TLe.opq {τ τ':Nat->Tag} (h:TLe τ τ') {i:Nat} {v:Value} (hi:τ i = .opq v):τ' i = .opq v:=by
 rcases h i with h | h | ⟨⟨b,g,h⟩,_⟩
 ·rw [h] at hi;cases hi
 ·rw [h,hi]
 ·rw [h] at hi;cases hi
theorem TLe.trans {a b c:Nat->Tag} (h:TLe a b) (k:TLe b c):TLe a c:=by
 intro i
 rcases ha:a i with _ | _ | ⟨x,g⟩ | v
 ·exact .inl rfl
 ·exact .inr (.inl (k.dead (h.dead ha)))
 ·rcases h.live ha with hb | hb
  ·rcases k.live hb with hc | hc
   ·exact .inr (.inl hc)
   ·exact .inr (.inr ⟨⟨x,g,rfl⟩,hc⟩)
  ·exact .inr (.inr ⟨⟨x,g,rfl⟩,k.dead hb⟩)
 ·exact .inr (.inl (k.opq (h.opq ha)))
mutual
theorem VR.mono {τ τ':Nat->Tag} (h:TLe τ τ'):∀ {v v':Value},VR τ v v'->VR τ' v v'
 | _, _, .top v => .top v
 | _, _, .opq e => .opq (h.opq e)
 | _, _, .flat e => .flat e
 | _, _, .ptr e => by
   rcases h.live e with e' | e'
   ·exact .ptr e'
   ·exact .ptrDead e'
 | _, _, .ptrDead e => .ptrDead (h.dead e)
 | _, _, .slice e a b c => by
   rcases h.live e with e' | e'
   ·exact .slice e' a b c
   ·exact .sliceDead e' b
 | _, _, .sliceDead e b => .sliceDead (h.dead e) b
 | _, _, .map e => by
   rcases h.live e with e' | e'
   ·exact .map e'
   ·exact .mapDead e'
 | _, _, .mapDead e => .mapDead (h.dead e)
 | _, _, .iface e => .iface (VR.mono h e)
 | _, _, .agg e => .agg (VRs.mono h e)
 | _, _, .tuple e => .tuple (VRs.mono h e)
 | _, _, .func e f => .func (VRs.mono h e) (VRs.mono h f)
theorem VRs.mono {τ τ':Nat->Tag} (h:TLe τ τ'):∀ {l l':List Value},VRs τ l l'->VRs τ' l l'
 | _, _, .nil => .nil
 | _, _, .cons e f => .cons (VR.mono h e) (VRs.mono h f)
end
inductive j00 where
 | cells (c : List Value) (e : TypeId) (g : Option Nat)
 | ro (c : List Value) (e : TypeId) (z : Nat × Nat)
 | map (es : List (Value × Value × Nat)) (clock : Nat)
 | dead
 deriving Inhabited
abbrev St:=List j00
inductive ER (τ:Nat->Tag):List (Value×Value×Nat)->List MapEntry->Prop
 | nil : ER τ [] []
 | cons {k v : Value} {n : Nat} {v' : Value} {l : List (Value × Value × Nat)} {l' : List MapEntry} : VR τ v v' -> ER τ l l' ->
    ER τ ((k,v,n) :: l) ({ key:=k,val:=v',born:=n } :: l')
theorem ER.mono {τ τ':Nat->Tag} (h:TLe τ τ') {l:List (Value×Value×Nat)} {l':List MapEntry} (e:ER τ l l'):ER τ' l l':=by
 induction e with
 | nil => exact .nil
 | cons a _ ih => exact .cons (a.mono h) ih
inductive OR (τ:Nat->Tag):Option (Nat×Nat)->j00->Obj->Prop
 | cells {c c' m : List Value} {e : TypeId} {g : Option (Nat × Nat)} : VRs τ c c' -> (g = none -> m = []) -> (∀ p, g = some p -> c'.length + m.length = p.2) ->
    OR τ g (.cells c e (g.map (·.1))) (.cells ⟨c'++m⟩ e (0,0))
 | ro {c c' : List Value} {e : TypeId} {z : Nat × Nat} : VRs τ c c' -> OR τ none (.ro c e z) (.cells ⟨c'⟩ e z)
 | map {g : Option (Nat × Nat)} {es : List (Value × Value × Nat)} {es' : List MapEntry} {k : Nat} : ER τ es es' -> OR τ g (.map es k) (.map ⟨es'⟩ k)
theorem OR.mono {τ τ':Nat->Tag} (h:TLe τ τ') {g:Option (Nat×Nat)} {o:j00} {o':Obj} (e:OR τ g o o'):OR τ' g o o':=by
 cases e with
 | cells a b c => exact .cells (a.mono h) b c
 | ro a => exact .ro (a.mono h)
 | map a => exact .map (a.mono h)
structure HR (G:List (Nat×Obj)) (τ:Nat->Tag) (S:St) (w:World):Prop where
 lt:∀ i b g,τ i = .live b g->b < w.heap.size
 inj:∀ i j b g g',τ i = .live b g->τ j = .live b g'->i=j
 live:∀ i b g o,τ i = .live b g->S[i]? = some o->∃ o',w.heap[b]? = some o'/\OR τ g o o'
 dead:∀ i o,τ i = .dead->S[i]? = some o->o = .dead
 zero:τ 0 = .dead
 glob:∀ p∈G,w.heap[p.1]? = some p.2/\∀ i g,τ i≠.live p.1 g
structure j0d (L:Nat) (τ:Nat->Tag) (S:St) (w:World) (τ':Nat->Tag) (S':St) (w':World):Prop where
 le:TLe τ τ'
 keep:∀ i,i < S.length\/L<=i->τ i = .no->τ' i = .no
 later:∀ i,L<=i->τ' i=τ i
 absent:∀ i,i < S.length->τ i = .no->S'[i]? = S[i]?
 len:S.length<=L
 fresh:∀ i b g,S.length<=i->i < L->τ' i = .live b g->w.heap.size<=b\/∃ j g',j < S.length/\τ j = .live b g'
 conc:∀ b,b < w.heap.size->(∀ i g,i < S.length->τ i≠.live b g)->w'.heap[b]? = w.heap[b]?
 wlen:w.heap.size<=w'.heap.size
 os:w'.os=w.os
 tape:w'.tape=w.tape
 output:w'.output=w.output
abbrev Ext (τ:Nat->Tag) (S:St) (w:World) (τ':Nat->Tag) (S':St) (w':World):Prop:=j0d S'.length τ S w τ' S' w'
theorem Ext.refl (τ:Nat->Tag) (S:St) (w:World):Ext τ S w τ S w where
 le:=.refl τ
 keep:=λ _ _ h=>h
 later:=λ _ _=>rfl
 absent:=λ _ _ _=>rfl
 len:=Nat.le_refl _
 fresh:=λ i _ _ h h' _=>by omega
 conc:=λ _ _ _=>rfl
 wlen:=Nat.le_refl _
 os:=rfl
 tape:=rfl
 output:=rfl
theorem j0d.step {L:Nat} {τ τ₁ τ₂:Nat->Tag} {S S₁ S₂ S₃:St} {w w₁ w₂:World} (h:j0d L τ S w τ₁ S₁ w₁) (k:j0d S₂.length τ₁ S₁ w₁ τ₂ S₂ w₂)
 (h1:S.length<=S₁.length) (h2:S₂.length<=L) (h3:∀ i,i < S₂.length->S₃[i]? = S₂[i]?):j0d L τ S w τ₂ S₃ w₂ where
 le:=h.le.trans k.le
 keep:=λ i hi h0=>by
  have kl:=k.len
  rcases hi with hi | hi
  ·exact k.keep i (.inl (by omega)) (h.keep i (.inl hi) h0)
  ·exact k.keep i (.inr (by omega)) (h.keep i (.inr hi) h0)
 later:=λ i hi=>by rw [k.later i (by omega),h.later i hi]
 absent:=λ i hi h0=>by
  have kl:=k.len
  rw [h3 i (by omega),k.absent i (by omega) (h.keep i (.inl hi) h0),h.absent i hi h0]
 len:=h.len
 fresh:=λ i b g hi hi' ht=>by
  have hw:=h.wlen
  have back:∀ j g',j < S₁.length->τ₁ j = .live b g'->w.heap.size<=b\/∃ j g',j < S.length/\τ j = .live b g':=by
   intro j g' hj e
   have kl:=k.len
   by_cases hj':j < S.length
   ·refine .inr ⟨j,g',hj',?_⟩
    rcases h.le j with q | q | ⟨_,q⟩
    ·have:=h.keep j (.inl hj') q;rw [this] at e;cases e
    ·rw [<- q]; exact e
    ·rw [q] at e;cases e
   ·exact h.fresh j b g' (by omega) (by omega) e
  by_cases hc:i < S₁.length
  ·have h1':τ₁ i = .live b g:=by
    rcases k.le i with e | e | ⟨_,e⟩
    ·have:=k.keep i (.inl hc) e;rw [this] at ht;cases ht
    ·rw [<- e]; exact ht
    ·rw [e] at ht;cases ht
   exact back i g hc h1'
  ·by_cases hc2:i < S₂.length
   ·rcases k.fresh i b g (by omega) hc2 ht with e | ⟨j,g',hj,e⟩
    ·exact .inl (by omega)
    ·exact back j g' hj e
   ·rw [k.later i (by omega)] at ht
    exact h.fresh i b g hi hi' ht
 conc:=λ b hb hno=>by
  have hw:=h.wlen
  have kl:=k.len
  have h1':=h.conc b hb hno
  rw [k.conc b (by omega) ?_,h1']
  intro i g hi he
  by_cases hc:i < S.length
  ·rcases h.le i with q | q | ⟨_,q⟩
   ·have:=h.keep i (.inl hc) q;rw [this] at he;cases he
   ·exact hno i g hc (by rw [<- q]; exact he)
   ·rw [q] at he;cases he
  ·rcases h.fresh i b g (by omega) (by omega) he with e | ⟨j,g',hj,e⟩
   ·omega
   ·exact hno j g' hj e
 wlen:=Nat.le_trans h.wlen k.wlen
 os:=k.os.trans h.os
 tape:=k.tape.trans h.tape
 output:=k.output.trans h.output
theorem j0d.grow {L:Nat} {τ τ':Nat->Tag} {S S':St} {w w':World} (h:j0d S'.length τ S w τ' S' w') (hL:S'.length<=L) (hn:∀ i,S'.length<=i->i < L->τ i = .no) :
 j0d L τ S w τ' S' w' where
 le:=h.le
 keep:=λ i hi h0=>h.keep i (by omega) h0
 later:=λ i hi=>h.later i (by omega)
 absent:=h.absent
 len:=Nat.le_trans h.len hL
 fresh:=λ i b g h1 h2 ht=>by
  by_cases hc:i < S'.length
  ·exact h.fresh i b g h1 hc ht
  ·have:=h.later i (by omega)
   rw [this,hn i (by omega) h2] at ht;cases ht
 conc:=h.conc
 wlen:=h.wlen
 os:=h.os
 tape:=h.tape
 output:=h.output
theorem Ext.trans {τ τ₁ τ₂:Nat->Tag} {S S₁ S₂:St} {w w₁ w₂:World} (h:Ext τ S w τ₁ S₁ w₁) (k:Ext τ₁ S₁ w₁ τ₂ S₂ w₂)
 (hn:∀ i,S₁.length<=i->i < S₂.length->τ i = .no):Ext τ S w τ₂ S₂ w₂:=
 j0d.step (j0d.grow h k.len hn) k h.len (Nat.le_refl _) λ _ _=>rfl
def upd (τ:Nat->Tag) (n:Nat) (x:Tag):Nat->Tag:=λ i=>if i=n then x else τ i
theorem TLe.upd {τ:Nat->Tag} {n:Nat} {x:Tag} (h:τ n = .no):TLe τ (upd τ n x):=by
 intro i
 unfold AM.upd
 by_cases e:i=n
 ·subst e;exact .inl h
 ·rw [if_neg e]; exact .inr (.inl rfl)
theorem zes (τ:Nat->Tag) (n:Nat) (x:Tag):upd τ n x n=x:=if_pos rfl
theorem zer (τ:Nat->Tag) {n i:Nat} (x:Tag) (h:i≠n):upd τ n x i=τ i:=if_neg h
def zfm (w:World) (o:Obj):World:={ w with heap:=w.heap.push o }
theorem zfn {w:World} {o:Obj} {b:Nat} (h:b < w.heap.size):(zfm w o).heap[b]? = w.heap[b]?:=by
 show (w.heap.push o)[b]? = _
 rw [Array.getElem?_push,if_neg (by omega)]
theorem zfo (w:World) (o:Obj):(zfm w o).heap[w.heap.size]? = some o:=by
 show (w.heap.push o)[w.heap.size]? = _
 simp
theorem HR.block_lt {G:List (Nat×Obj)} {τ:Nat->Tag} {S:St} {w:World} (h:HR G τ S w) {p:Nat×Obj} (hp:p∈G):p.1 < w.heap.size:=by
 have:=(h.glob p hp).1
 rcases Nat.lt_or_ge p.1 w.heap.size with h | h
 ·exact h
 ·rw [Array.getElem?_eq_none h] at this;cases this
theorem HR.new {G:List (Nat×Obj)} {τ:Nat->Tag} {S:St} {w:World} (h:HR G τ S w) (hn:τ S.length = .no) {x:j00} {g:Option (Nat×Nat)} {o:Obj}
 (ho:OR τ g x o):HR G (upd τ S.length (.live w.heap.size g)) (S++[x]) (zfm w o):=by
 have hle:TLe τ (upd τ S.length (.live w.heap.size g)):=TLe.upd hn
 refine ⟨?_,?_,?_,?_,?_,?_⟩
 ·intro i b g' hi
  have hsz:(zfm w o).heap.size=w.heap.size+1:=by simp [zfm]
  by_cases e:i=S.length
  ·subst e;rw [zes] at hi;cases hi;omega
  ·rw [zer _ _ e] at hi;have:=h.lt i b g' hi;omega
 ·intro i j b g1 g2 hi hj
  by_cases e:i=S.length
  ·by_cases f:j=S.length
   ·rw [e,f]
   ·subst e;rw [zes] at hi;rw [zer _ _ f] at hj;cases hi
    have:=h.lt j _ g2 hj;omega
  ·by_cases f:j=S.length
   ·subst f;rw [zes] at hj;rw [zer _ _ e] at hi;cases hj
    have:=h.lt i _ g1 hi;omega
   ·rw [zer _ _ e] at hi;rw [zer _ _ f] at hj;exact h.inj i j b g1 g2 hi hj
 ·intro i b g' y hi hy
  by_cases e:i=S.length
  ·subst e;rw [zes] at hi;cases hi
   simp at hy;subst hy
   exact ⟨o,zfo w o,ho.mono hle⟩
  ·rw [zer _ _ e] at hi
   have hy':S[i]? = some y:=by
    rcases Nat.lt_or_ge i S.length with hl | hl
    ·rw [List.getElem?_append_left hl] at hy;exact hy
    ·have : (S++[x])[i]? = none:=List.getElem?_eq_none (by simp;omega)
     rw [this] at hy;cases hy
   obtain ⟨o',h1,h2⟩:=h.live i b g' y hi hy'
   exact ⟨o',by rw [zfn (h.lt i b g' hi)]; exact h1,h2.mono hle⟩
 ·intro i y hi hy
  by_cases e:i=S.length
  ·subst e;rw [zes] at hi;cases hi
  ·rw [zer _ _ e] at hi
   rcases Nat.lt_or_ge i S.length with hl | hl
   ·rw [List.getElem?_append_left hl] at hy;exact h.dead i y hi hy
   ·have : (S++[x])[i]? = none:=List.getElem?_eq_none (by simp;omega)
    rw [this] at hy;cases hy
 ·have : S.length≠0:=λ e=>by rw [e,h.zero] at hn;cases hn
  rw [zer _ _ (by omega)]; exact h.zero
 ·intro p hp
  have hlt:=h.block_lt hp
  refine ⟨by rw [zfn hlt]; exact (h.glob p hp).1,?_⟩
  intro i g' hi
  by_cases e:i=S.length
  ·subst e;rw [zes] at hi;injection hi with hb;omega
  ·rw [zer _ _ e] at hi;exact (h.glob p hp).2 i g' hi
theorem Ext.new {τ:Nat->Tag} {S:St} {w:World} (hn:τ S.length = .no) {x:j00} {g:Option (Nat×Nat)} {o:Obj} :
 Ext τ S w (upd τ S.length (.live w.heap.size g)) (S++[x]) (zfm w o) where
 le:=TLe.upd hn
 keep:=λ i hi h0=>by
  simp at hi
  rw [zer _ _ (by omega)]; exact h0
 later:=λ i hi=>by
  simp at hi
  rw [zer _ _ (by omega)]
 absent:=λ i hi _=>List.getElem?_append_left hi
 len:=by simp
 fresh:=λ i b g' hi hi' ht=>by
  simp at hi'
  have : i=S.length:=by omega
  subst this;rw [zes] at ht;cases ht;exact .inl (Nat.le_refl _)
 conc:=λ b hb _=>zfn hb
 wlen:=by simp [zfm]
 os:=rfl
 tape:=rfl
 output:=rfl
theorem HR.put {G:List (Nat×Obj)} {τ:Nat->Tag} {S:St} {w w':World} (h:HR G τ S w) {i b:Nat} {g:Option (Nat×Nat)} {x:j00} {o:Obj} (hi:τ i = .live b g)
 (ho:OR τ g x o) (hw:w'.heap[b]? = some o) (hne:∀ c,c≠b->w'.heap[c]? = w.heap[c]?) (hsz:w'.heap.size=w.heap.size):HR G τ (S.set i x) w':=by
 refine ⟨?_,h.inj,?_,?_,h.zero,?_⟩
 ·intro j c g' hj;rw [hsz]; exact h.lt j c g' hj
 ·intro j c g' y hj hy
  by_cases e:j=i
  ·subst e;rw [hi] at hj;cases hj
   have hy':y=x:=by
    rw [List.getElem?_set_self'] at hy
    cases hS:S[j]? with
    | none=>rw [hS] at hy;cases hy
    | some z=>rw [hS] at hy;simpa using hy.symm
   subst hy'
   exact ⟨o,hw,ho⟩
  ·rw [List.getElem?_set_ne (λ q=>e q.symm)] at hy
   have hcb:c≠b:=λ q=>e (h.inj j i b g' g (q ▸ hj) hi)
   obtain ⟨o',h1,h2⟩:=h.live j c g' y hj hy
   exact ⟨o',by rw [hne c hcb]; exact h1,h2⟩
 ·intro j y hj hy
  by_cases e:j=i
  ·subst e;rw [hi] at hj;cases hj
  ·rw [List.getElem?_set_ne (λ q=>e q.symm)] at hy;exact h.dead j y hj hy
 ·intro p hp
  refine ⟨?_,(h.glob p hp).2⟩
  rw [hne p.1 (λ e=>(h.glob p hp).2 i g (e ▸ hi))]
  exact (h.glob p hp).1
theorem Ext.put {τ:Nat->Tag} {S:St} {w w':World} {i b:Nat} {g:Option (Nat×Nat)} {x:j00} (hi:τ i = .live b g) (hl:i < S.length)
 (hne:∀ c,c≠b->w'.heap[c]? = w.heap[c]?) (hsz:w'.heap.size=w.heap.size) (hos:w'.os=w.os) (ht:w'.tape=w.tape) (hout:w'.output=w.output) :
 Ext τ S w τ (S.set i x) w' where
 le:=.refl τ
 keep:=λ _ _ h=>h
 later:=λ _ _=>rfl
 absent:=λ j _ h0=>by
  have e:i≠j:=λ e=>by rw [<- e,hi] at h0;cases h0
  rw [List.getElem?_set_ne e]
 len:=by simp
 fresh:=λ j c g' h1 h2 _=>by simp at h2;omega
 conc:=λ c _ hno=>hne c λ e=>hno i g hl (e ▸ hi)
 wlen:=by omega
 os:=hos
 tape:=ht
 output:=hout
abbrev M (α:Type):=St->Option (α×St)
def M.fail {α:Type}:M α:=λ _=>none
def M.ret {α:Type} (a:α):M α:=λ S=>some (a,S)
def M.bind {α β:Type} (m:M α) (k:α->M β):M β:=λ S=>
 match m S with
 | none => none
 | some (a, S') => k a S'
theorem M.bind_some {α β:Type} {m:M α} {k:α->M β} {S:St} {r:β×St} (h:M.bind m k S=some r) :
 ∃ a S',m S=some (a,S')/\k a S'=some r:=by
 unfold M.bind at h
 cases hm:m S with
 | none => rw [hm] at h; cases h
 | some p => rw [hm] at h; exact ⟨p.1, p.2, rfl, h⟩
def St.cell (S:St) (a:Addr):Option Value:=
 match S[a.block]? with
 | some (.cells c _ _) => if a.spot.isSome then none else c[a.off]?
 | some (.ro c _ _) => if a.spot.isSome then none else c[a.off]?
 | _ => none
def ld (a:Addr):M Value:=λ S=>
 match S.cell a with
 | some v => some (v, S)
 | none => none
structure Sl where
 a:Option Addr
 n:Nat
 c:Nat
def asI (k:IntKind):Value->M Int
 | .int k' n => if k' = k then M.ret n else M.fail
 | _ => M.fail
def asB:Value->M Bool
 | .bool b => M.ret b
 | _ => M.fail
def asS:Value->M Sl
 | .slice a n c => M.ret ⟨a, n, c⟩
 | _ => M.fail
def asP:Value->M (Option Addr)
 | .pointer a => M.ret a
 | _ => M.fail
def asM:Value->M (Option Nat)
 | .map a => M.ret a
 | _ => M.fail
variable {ρ:Type}
def prj:Value->Value->(Value->M ρ)->M ρ
 | .int k _, v, K => M.bind (asI k v) λ n => K (.int k n)
 | .bool _, v, K => M.bind (asB v) λ b => K (.bool b)
 | .slice _ _ _, v, K => M.bind (asS v) λ s => K (.slice s.a s.n s.c)
 | .pointer _, v, K => M.bind (asP v) λ p => K (.pointer p)
 | .map _, v, K => M.bind (asM v) λ p => K (.map p)
 | _, v, K => K v
theorem j57 {k:IntKind} {v:Value} {S:St} {n:Int} {S':St} (h:asI k v S=some (n,S')):v = .int k n/\S'=S:=by
 unfold asI at h
 split at h
 ·split at h
  ·rename_i e;subst e;cases h;exact ⟨rfl,rfl⟩
  ·cases h
 ·cases h
theorem j55 {v:Value} {S:St} {n:Bool} {S':St} (h:asB v S=some (n,S')):v = .bool n/\S'=S:=by
 unfold asB at h;split at h
 ·cases h;exact ⟨rfl,rfl⟩
 ·cases h
theorem j5b {v:Value} {S:St} {n:Sl} {S':St} (h:asS v S=some (n,S')):v = .slice n.a n.n n.c/\S'=S:=by
 unfold asS at h;split at h
 ·cases h;exact ⟨rfl,rfl⟩
 ·cases h
theorem j59 {v:Value} {S:St} {n:Option Addr} {S':St} (h:asP v S=some (n,S')):v = .pointer n/\S'=S:=by
 unfold asP at h;split at h
 ·cases h;exact ⟨rfl,rfl⟩
 ·cases h
theorem j58 {v:Value} {S:St} {n:Option Nat} {S':St} (h:asM v S=some (n,S')):v = .map n/\S'=S:=by
 unfold asM at h;split at h
 ·cases h;exact ⟨rfl,rfl⟩
 ·cases h
theorem z2o {z v:Value} {K:Value->M ρ} {S:St} {r:ρ×St} (h:prj z v K S=some r):K v S=some r:=by
 unfold prj at h
 split at h
 ·obtain ⟨n,S',h1,h2⟩:=M.bind_some h;obtain ⟨rfl,rfl⟩:=j57 h1;exact h2
 ·obtain ⟨n,S',h1,h2⟩:=M.bind_some h;obtain ⟨rfl,rfl⟩:=j55 h1;exact h2
 ·obtain ⟨n,S',h1,h2⟩:=M.bind_some h;obtain ⟨rfl,rfl⟩:=j5b h1;exact h2
 ·obtain ⟨n,S',h1,h2⟩:=M.bind_some h;obtain ⟨rfl,rfl⟩:=j59 h1;exact h2
 ·obtain ⟨n,S',h1,h2⟩:=M.bind_some h;obtain ⟨rfl,rfl⟩:=j58 h1;exact h2
 ·exact h
theorem z2m {z v:Value} {K:Value->M ρ} {S:St} {r:ρ×St} (h:prj z v K S=some r) {σ:Type} (L:Value->M σ):prj z v L S=L v S:=by
 cases z <;> simp only [prj] at h ⊢ <;>
  first
  | (obtain ⟨n,S',g1,g2⟩:=M.bind_some h
     simp only [M.bind,g1]
     first
      | (obtain ⟨e1,e2⟩:=j57 g1;rw [e1,e2])
      | (obtain ⟨e1,e2⟩:=j55 g1;rw [e1,e2])
      | (obtain ⟨e1,e2⟩:=j5b g1;rw [e1,e2])
      | (obtain ⟨e1,e2⟩:=j59 g1;rw [e1,e2])
      | (obtain ⟨e1,e2⟩:=j58 g1;rw [e1,e2]))
def z2i (p:Value->Value->(Value->M ρ)->M ρ):List Value->List Value->(List Value->M ρ)->M ρ
 | [], _, K => K []
 | z :: zs, vs, K => p z (vs.headD zdj) λ v' => z2i p zs vs.tail λ vs' => K (v' :: vs')
theorem z2j {p:Value->Value->(Value->M ρ)->M ρ} (hp:∀ {z v:Value} {K:Value->M ρ} {S:St} {r:ρ×St},p z v K S=some r->K v S=some r) :
 ∀ {zs vs:List Value} {K:List Value->M ρ} {S:St} {r:ρ×St},vs.length=zs.length->z2i p zs vs K S=some r->K vs S=some r
 | [], [], _, _, _, _, h => h
 | z :: zs, v :: vs, K, S, r, hl, h => z2j hp (zs := zs) (vs := vs) (K := λ vs' => K (v :: vs')) (by simpa using hl) (hp h)
 | [], _ :: _, _, _, _, hl, _ => by simp at hl
 | _ :: _, [], _, _, _, hl, _ => by simp at hl
def asA:Value->M (List Value)
 | .agg l => M.ret l.toList
 | _ => M.fail
def asT:Value->M (List Value)
 | .tuple l => M.ret l.toList
 | _ => M.fail
theorem j52 {v:Value} {S:St} {n:List Value} {S':St} (h:asA v S=some (n,S')):v = .agg ⟨n⟩/\S'=S:=by
 unfold asA at h;split at h
 ·cases h;exact ⟨rfl,rfl⟩
 ·cases h
theorem j5c {v:Value} {S:St} {n:List Value} {S':St} (h:asT v S=some (n,S')):v = .tuple ⟨n⟩/\S'=S:=by
 unfold asT at h;split at h
 ·cases h;exact ⟨rfl,rfl⟩
 ·cases h
def jr0 (c:Prop) [Decidable c] (m:M ρ):M ρ:=if c then m else M.fail
theorem jr1 {c:Prop} [Decidable c] {m:M ρ} {S:St} {r:ρ×St} (h:jr0 c m S=some r):c/\m S=some r:=by
 unfold jr0 at h;split at h
 ·exact ⟨‹_›,h⟩
 ·cases h
def z2p (zs vs:List Value) (K:List Value->M ρ):M ρ:=jr0 (vs.length=zs.length) (z2i prj zs vs K)
theorem z2q {zs vs:List Value} {K:List Value->M ρ} {S:St} {r:ρ×St} (h:z2p zs vs K S=some r):K vs S=some r:=by
 obtain ⟨hl,h⟩:=jr1 h
 exact z2j z2o hl h
def z2e:Value->Value->(Value->M ρ)->M ρ
 | .agg zs, v, K => M.bind (asA v) λ vs => z2p zs.toList vs λ l => K (.agg ⟨l⟩)
 | z, v, K => prj z v K
theorem z2f {z v:Value} {K:Value->M ρ} {S:St} {r:ρ×St} (h:z2e z v K S=some r):K v S=some r:=by
 unfold z2e at h
 split at h
 ·obtain ⟨n,S',h1,h2⟩:=M.bind_some h
  obtain ⟨rfl,rfl⟩:=j52 h1
  exact z2q h2
 ·exact z2o h
def z2g (zs vs:List Value) (K:List Value->M ρ):M ρ:=jr0 (vs.length=zs.length) (z2i z2e zs vs K)
theorem z2h {zs vs:List Value} {K:List Value->M ρ} {S:St} {r:ρ×St} (h:z2g zs vs K S=some r):K vs S=some r:=by
 obtain ⟨hl,h⟩:=jr1 h
 exact z2j z2f hl h
def asF (v:Value):M (TypeId×Value):=match v with
 | .iface t u => M.ret (t, u)
 | _ => M.fail
theorem j56 {v:Value} {S S':St} {q:TypeId×Value} (h:asF v S=some (q,S')):v = .iface q.1 q.2/\S'=S:=by
 unfold asF at h
 split at h
 ·cases h;exact ⟨rfl,rfl⟩
 ·cases h
def z2k:Value->Value->(Value->M ρ)->M ρ
 | .tuple zs, v, K => M.bind (asT v) λ vs => z2g zs.toList vs λ l => K (.tuple ⟨l⟩)
 | z, v, K => z2e z v K
theorem z2l {z v:Value} {K:Value->M ρ} {S:St} {r:ρ×St} (h:z2k z v K S=some r):K v S=some r:=by
 unfold z2k at h
 split at h
 ·obtain ⟨n,S',h1,h2⟩:=M.bind_some h
  obtain ⟨rfl,rfl⟩:=j5c h1
  exact z2h h2
 ·exact z2f h
theorem jut {a:Addr} {S:St} {v:Value} {S':St} (h:ld a S=some (v,S')):S.cell a=some v/\S'=S:=by
 unfold ld at h
 split at h
 ·rename_i e;cases h;exact ⟨e,rfl⟩
 ·cases h
def ldL:List Value->Addr->Nat->(List Value->M ρ)->M ρ
 | [], _, _, K => K []
 | z :: zs, a, i, K => M.bind (ld (a.add i)) λ v => prj z v λ v' => ldL zs a (i + 1) λ vs => K (v' :: vs)
theorem jur:∀ {zs:List Value} {a:Addr} {i:Nat} {K:List Value->M ρ} {S:St} {r:ρ×St},ldL zs a i K S=some r ->
 ∃ vs,vs.length=zs.length/\(∀ j,j < zs.length->S.cell (a.add (i+j))=vs[j]?)/\K vs S=some r/\∀ {σ:Type} (L:List Value->M σ),ldL zs a i L S=L vs S
 | [], _, _, _, _, _, h => ⟨[], rfl, λ _ h => by simp at h, h, λ _ => rfl⟩
 | z :: zs, a, i, K, S, r, h => by
   obtain ⟨v,S',h1,h2⟩:=M.bind_some h
   obtain ⟨hc,hS⟩:=jut h1
   subst hS
   obtain ⟨vs,hl,hv,hk,hall⟩:=jur (z2o h2)
   refine ⟨v :: vs,by simp [hl],?_,hk,λ L=>?_⟩
   ·intro j hj
    cases j with
    | zero=>exact hc
    | succ j=>have:=hv j (by simpa using hj); rw [Nat.add_right_comm] at this;exact this
   ·show M.bind (ld (a.add i)) (λ v=>prj z v λ v'=>ldL zs a (i+1) λ vs=>L (v' :: vs)) S'=_
    have e1:M.bind (ld (a.add i)) (λ v=>prj z v λ v'=>ldL zs a (i+1) λ vs=>L (v' :: vs)) S'=prj z v (λ v'=>ldL zs a (i+1) λ vs=>L (v' :: vs)) S':=by
     simp [M.bind,h1]
    rw [e1,z2m h2,hall]
def juu:Value->Bool
 | .agg _ | .tuple _ | .chan _ => false
 | _ => true
def splice (c:List Value) (o:Nat) (vs:List Value):List Value:=c.take o++vs++c.drop (o+vs.length)
def stL (a:Addr) (vs:List Value):M Unit:=λ S=>
 match S[a.block]? with
 | some (.cells c e g) => if a.spot = none /\ a.off + vs.length <= c.length /\ vs.all juu = true then some ((), S.set a.block (.cells (splice c a.off vs) e g)) else none
 | _ => none
def jxx (o:j00):M Nat:=λ S=>some (S.length,S++[o])
def j6x:Value->Option (List Value)
 | .agg l => some l.toList
 | .tuple _ | .chan _ => none
 | v => some [v]
def z33 (n:Nat):Value:=.pointer (some ⟨n,0,none⟩)
inductive TD where
 | scalar
 | bool
 | int (k : IntKind)
 | struct (fs : List (Nat × Nat × Bool))
 | array (n sz : Nat) (ag : Bool)
 | slice (e sz bytes : Nat) (zero : List Value)
 | map (key : TypeId) (zero : Value)
 | ptr (arr : Option (Nat × Nat))
 | iface
 | tuple
structure TI where
 size:Nat
 bytes:Nat
 zero:Value
 ag:Bool
 d:TD
def jsh:TypeDesc->Bool
 | .struct _ | .array _ _ => true
 | _ => false
def jca (P:Program) (f:Field):Option (Nat×Nat×Bool):=
 match P.info? f.type,P.underlying f.type with
 | some i, some d => if i.size = 0 then none else some (f.offset, i.size, jsh d)
 | _, _ => none
def zd5 (P:Program) (t:TypeId):Option TI:=
 match P.info? t,P.underlying t with
 | some i, some d =>
   match i.zero with
   | none=>none
   | some z=>
     let mk (x:TD):Option TI:=if z.cells.size=i.size then some { size:=i.size,bytes:=i.bytes,zero:=z,ag:=jsh d,d:=x } else none
     match d with
     | .struct fs=>match fs.toList.mapM (jca P) with
       | some l=>mk (.struct l)
       | none=>none
     | .array n e=>match P.info? e,P.underlying e with
       | some j,some de=>mk (.array n j.size (jsh de))
       | _,_=>none
     | .slice e=>match P.info? e with
       | some j=>match j.zero with
         | some ze=>if ze.cells.size=j.size/\j.size≠0 then mk (.slice e j.size j.bytes ze.cells.toList) else none
         | none=>none
       | none=>none
     | .map k e=>match P.info? e with
       | some j=>match j.zero with
         | some ze=>mk (.map k ze)
         | none=>none
       | none=>none
     | .pointer e=>match P.underlying e with
       | some (.array n e2)=>match P.info? e2 with
         | some j=>mk (.ptr (some (n,j.size)))
         | none=>none
       | _=>mk (.ptr none)
     | .interface _=>mk .iface
     | .bool=>mk .bool
     | .int k=>mk (.int k)
     | .tuple _=>some { size:=i.size,bytes:=i.bytes,zero:=z,ag:=false,d:=.tuple }
     | _=>mk .scalar
 | _, _ => none
def TOK (P:Program) (T:TypeId->Option TI):Prop:=∀ t i,T t=some i->zd5 P t=some i
end Go.AM
namespace Go.AM
open Go
def OS (P:Program) (o:Oper) (a:Act) (w:World) (R:Value->World->Prop):Prop:=
 ∀ K Q,(∀ v w',R v w'->K (a.put o.dst v) w')->o.wp P a w K Q
section
variable {P:Program} {o:Oper} {a:Act} {w:World} {R:Value->World->Prop}
theorem OS.value {v:Value} {w':World} (h:(execOp a.eval o).run P w = .ok (.value v) w') (r:R v w'):OS P o a w R:=by
 intro K Q hk
 unfold Oper.wp
 rw [h,Oper.upon_value]
 exact hk _ _ r
theorem OS.skip {w':World} (h:(execOp a.eval o).run P w = .ok .skip w') (r:R undef w'):OS P o a w R:=by
 intro K Q hk
 unfold Oper.wp
 rw [h,Oper.upon_skip]
 exact hk _ _ r
theorem OS.enter {f:FuncId} {args:Array Value} {w':World} (h:(execOp a.eval o).run P w = .ok (.enter f args) w')
 (c:Calls P f args w' λ e w''=>∃ v,e = .returned v/\R v w''):OS P o a w R:=by
 intro K Q hk
 unfold Oper.wp
 rw [h,Oper.upon_enter]
 exact c.mono λ e w'' ⟨v,he,hr⟩=>by subst he;exact hk _ _ hr
end
variable {P:Program} {G:List (Nat×Obj)}
structure j0t (P:Program) (G:List (Nat×Obj)) (o:Oper) (f:Operand->Value) (S:St) (v:Value) (S':St):Prop where
 len:S.length<=S'.length
 sim:∀ (N:Nat) (τ:Nat->Tag) (a:Act) (w:World),S'.length<=N->(∀ i,S.length<=i->i < N->τ i = .no)->(∀ x∈o.op.operands,VR τ (f x) (a.eval x))->HR G τ S w ->
  OS P o a w λ v' w'=>∃ τ',VR τ' v v'/\HR G τ' S' w'/\Ext τ S w τ' S' w'
def j0z (P:Program) (G:List (Nat×Obj)) (o:Oper) (f:Operand->Value) (S:St) (v:Value):Prop:=
 ∀ (τ:Nat->Tag) (a:Act) (w:World),(∀ x∈o.op.operands,VR τ (f x) (a.eval x))->HR G τ S w->∃ v',(execOp a.eval o).run P w = .ok (.value v') w/\VR τ v v'
structure j01 (P:Program) (o:Oper) (f:Operand->Value) (x:j00) (mk:Nat->Value):Prop where
 run:∀ (τ:Nat->Tag) (a:Act) (w:World),(∀ z∈o.op.operands,VR τ (f z) (a.eval z))->∃ o',OR τ none x o'/\(execOp a.eval o).run P w = .ok (.value (mk w.heap.size)) (zfm w o')
 val:∀ (τ:Nat->Tag) n b,τ n = .live b none->VR τ (mk n) (mk b)
theorem j0z.op {o:Oper} {f:Operand->Value} {S:St} {v:Value} (h:j0z P G o f S v):j0t P G o f S v S where
 len:=Nat.le_refl _
 sim:=λ N τ a w _ _ hv hr=>by
  obtain ⟨v',h1,h2⟩:=h τ a w hv hr
  exact OS.value h1 ⟨τ,h2,hr,.refl _ _ _⟩
theorem j01.op {o:Oper} {f:Operand->Value} {S:St} {x:j00} {mk:Nat->Value} (h:j01 P o f x mk):j0t P G o f S (mk S.length) (S++[x]) where
 len:=by simp
 sim:=λ N τ a w hN hno hv hr=>by
  obtain ⟨o',h1,h2⟩:=h.run τ a w hv
  have hn:τ S.length = .no:=hno _ (Nat.le_refl _) (by simp at hN;omega)
  exact OS.value h2 ⟨upd τ S.length (.live w.heap.size none),h.val _ _ _ (zes _ _ _),hr.new hn h1,.new hn⟩
section
variable {τ:Nat->Tag}
theorem VR.int {k:IntKind} {n:Int} {v:Value} (h:VR τ (.int k n) v):v = .int k n:=by cases h;rfl
theorem VR.bool {b:Bool} {v:Value} (h:VR τ (.bool b) v):v = .bool b:=by cases h;rfl
theorem VR.pnil {v:Value} (h:VR τ (.pointer none) v):v = .pointer none:=by cases h;rfl
theorem VR.mnil {v:Value} (h:VR τ (.map none) v):v = .map none:=by cases h;rfl
theorem VR.snil {n c:Nat} {v:Value} (h:VR τ (.slice none n c) v):v = .slice none n c:=by cases h;rfl
theorem VR.ptr_inv {x:Addr} {v:Value} (h:VR τ (.pointer (some x)) v) :
 ∃ y,v = .pointer (some y)/\(τ x.block = .dead\/∃ c g,τ x.block = .live c g/\x.spot=none/\y=⟨c,x.off,none⟩):=by
 cases h with
 | flat e => simp [jcs] at e
 | ptr e => exact ⟨_, rfl, .inr ⟨_, _, e, rfl, rfl⟩⟩
 | ptrDead e => exact ⟨_, rfl, .inl e⟩
theorem VR.slice_inv {x:Addr} {n k:Nat} {v:Value} (h:VR τ (.slice (some x) n k) v) :
 ∃ y k',v = .slice (some y) n k'/\k<=k'/\(τ x.block = .dead\/∃ c g,τ x.block = .live c g/\x.spot=none/\y=⟨c,x.off,none⟩/\(g=none->k'=k) /\
  ∀ p,g=some p->x.off=0->k'*p.1<=p.2):=by
 cases h with
 | flat e => simp [jcs] at e
 | slice e a b c => exact ⟨_, _, rfl, b, .inr ⟨_, _, e, rfl, rfl, a, c⟩⟩
 | sliceDead e b => exact ⟨_, _, rfl, b, .inl e⟩
theorem VR.map_inv {r:Nat} {v:Value} (h:VR τ (.map (some r)) v):∃ c,v = .map (some c)/\(τ r = .dead\/∃ g,τ r = .live c g):=by
 cases h with
 | flat e => simp [jcs] at e
 | map e => exact ⟨_, rfl, .inr ⟨_, e⟩⟩
 | mapDead e => exact ⟨_, rfl, .inl e⟩
theorem VR.agg_inv {l:List Value} {v:Value} (h:VR τ (.agg ⟨l⟩) v):∃ l',v = .agg ⟨l'⟩/\VRs τ l l':=by
 cases h with
 | flat e => simp [jcs] at e
 | agg e => exact ⟨_, rfl, e⟩
theorem VR.tuple_inv {l:List Value} {v:Value} (h:VR τ (.tuple ⟨l⟩) v):∃ l',v = .tuple ⟨l'⟩/\VRs τ l l':=by
 cases h with
 | flat e => simp [jcs] at e
 | tuple e => exact ⟨_, rfl, e⟩
theorem VR.iface_inv {t:TypeId} {x v:Value} (h:VR τ (.iface t x) v):∃ x',v = .iface t x'/\VR τ x x':=by
 cases h with
 | flat e => simp [jcs] at e
 | iface e => exact ⟨_, rfl, e⟩
theorem VR.func_inv {fn:Fn} {f c:List Value} {v:Value} (h:VR τ (.func fn ⟨f⟩ ⟨c⟩) v):∃ f' c',v = .func fn ⟨f'⟩ ⟨c'⟩/\VRs τ f f'/\VRs τ c c':=by
 cases h with
 | flat e => simp [jcs] at e
 | func e g => exact ⟨_, _, rfl, e, g⟩
theorem VRs.length {l l':List Value} (h:VRs τ l l'):l'.length=l.length:=by
 induction l generalizing l' with
 | nil => cases h; rfl
 | cons a l ih => cases h with | cons _ e => simp [ih e]
theorem VRs.get {l l':List Value} (h:VRs τ l l') {i:Nat} {v:Value} (hi:l[i]? = some v):∃ v',l'[i]? = some v'/\VR τ v v':=by
 induction l generalizing l' i with
 | nil => simp at hi
 | cons a l ih =>
   cases h with
   | cons d e=>
     cases i with
     | zero=>simp at hi;subst hi;exact ⟨_,rfl,d⟩
     | succ i=>simp at hi;simpa using ih e hi
theorem VRs.append {l l' m m':List Value} (h:VRs τ l l') (k:VRs τ m m'):VRs τ (l++m) (l'++m'):=by
 induction l generalizing l' with
 | nil => cases h; exact k
 | cons a l ih => cases h with | cons d e => exact .cons d (ih e)
theorem VRs.take {l l':List Value} (h:VRs τ l l') (n:Nat):VRs τ (l.take n) (l'.take n):=by
 induction l generalizing l' n with
 | nil => cases h; simp; exact .nil
 | cons a l ih =>
   cases h with
   | cons d e=>cases n with
     | zero=>exact .nil
     | succ n=>exact .cons d (ih e n)
theorem VRs.drop {l l':List Value} (h:VRs τ l l') (n:Nat):VRs τ (l.drop n) (l'.drop n):=by
 induction l generalizing l' n with
 | nil => cases h; simp; exact .nil
 | cons a l ih =>
   cases h with
   | cons d e=>cases n with
     | zero=>exact .cons d e
     | succ n=>exact ih e n
theorem VRs.of_get {l l':List Value} (hl:l'.length=l.length) (h:∀ (i:Nat) (v v':Value),l[i]? = some v->l'[i]? = some v'->VR τ v v'):VRs τ l l':=by
 induction l generalizing l' with
 | nil => cases l' with
   | nil=>exact .nil
   | cons _ _=>simp at hl
 | cons a l ih => cases l' with
   | nil=>simp at hl
   | cons b l'=>exact .cons (h 0 a b rfl rfl) (ih (by simpa using hl) λ i v v' e f=>h (i+1) v v' (by simpa using e) (by simpa using f))
theorem VRs.map_of {α:Type} {l:List α} {f g:α->Value} (h:∀ x∈l,VR τ (f x) (g x)):VRs τ (l.map f) (l.map g):=by
 induction l with
 | nil => exact .nil
 | cons a l ih => exact .cons (h a (by simp)) (ih λ x hx => h x (by simp [hx]))
theorem VRs.self {l:List Value} (h:∀ v∈l,VR τ v v):VRs τ l l:=by
 induction l with
 | nil => exact .nil
 | cons a l ih => exact .cons (h a (by simp)) (ih λ x hx => h x (by simp [hx]))
def jcp:Value->Bool
 | .agg l => l.toList.all jcs
 | .tuple l => l.toList.all jcs
 | .iface _ v => jcs v
 | .func _ f c => f.isEmpty && c.isEmpty
 | v => jcs v
theorem VR.of_flat {v:Value} (h:jcp v=true):VR τ v v:=by
 cases v with
 | agg l => exact .agg (VRs.self λ v hv => .flat (by have := List.all_eq_true.1 h v hv; exact this))
 | tuple l => exact .tuple (VRs.self λ v hv => .flat (by have := List.all_eq_true.1 h v hv; exact this))
 | iface t v => exact .iface (.flat h)
 | func fn f c =>
   simp [jcp] at h
   obtain ⟨rfl,rfl⟩:=h
   exact .func .nil .nil
 | _ => exact .flat h
end
theorem VR.cells {τ:Nat->Tag} {v v':Value} {l:List Value} (h:VR τ v v') (hc:j6x v=some l):∃ l',v'.cells=⟨l'⟩/\VRs τ l l':=by
 cases v with
 | agg l0 =>
   obtain ⟨l',rfl,hv⟩:=VR.agg_inv (l:=l0.toList) h
   simp [j6x] at hc;subst hc
   exact ⟨l',rfl,hv⟩
 | tuple _ => simp [j6x] at hc
 | chan _ => simp [j6x] at hc
 | _ =>
   simp [j6x] at hc;subst hc
   refine ⟨[v'],?_,.cons h .nil⟩
   cases h <;> rfl
theorem HR.cell {τ:Nat->Tag} {S:St} {w:World} (h:HR G τ S w) {x y:Addr} {v:Value} (hx:S.cell x=some v)
 (hv:τ x.block = .dead\/∃ c g,τ x.block = .live c g/\x.spot=none/\y=⟨c,x.off,none⟩) :
 ∃ v',w.cell? y=some v'/\VR τ v v':=by
 unfold St.cell at hx
 split at hx
 ·rename_i c e g hs
  split at hx
  ·cases hx
  rcases hv with hd | ⟨b,g',hl,_,rfl⟩
  ·have:=h.dead _ _ hd hs;cases this
  ·obtain ⟨o',ho,hor⟩:=h.live _ _ _ _ hl hs
   cases hor with
   | cells hvs hm hp=>
     rename_i c' m
     obtain ⟨v',h1,h2⟩:=hvs.get hx
     refine ⟨v',?_,h2⟩
     have hlt:x.off < c'.length:=by
      rcases Nat.lt_or_ge x.off c'.length with h | h
      ·exact h
      ·rw [List.getElem?_eq_none h] at h1;cases h1
     simp [World.cell?,ho,List.getElem?_append_left hlt,h1]
 ·rename_i c e z hs
  split at hx
  ·cases hx
  rcases hv with hd | ⟨b,g',hl,_,rfl⟩
  ·have:=h.dead _ _ hd hs;cases this
  ·obtain ⟨o',ho,hor⟩:=h.live _ _ _ _ hl hs
   cases hor with
   | ro hvs=>
     obtain ⟨v',h1,h2⟩:=hvs.get hx
     exact ⟨v',by simp [World.cell?,ho,h1],h2⟩
 ·cases hx
theorem Addr.add_none {b o:Nat} (n:Nat):(⟨b,o,none⟩:Addr).add n=⟨b,o+n,none⟩:=by
 unfold Addr.add;split
 ·rename_i h;subst h;rfl
 ·rfl
end Go.AM
namespace Go.AM
open Go
variable {P:Program} {T:TypeId->Option TI} {t:TypeId} {i:TI}
theorem zd7 (h:zd5 P t=some i):∃ info d,P.info? t=some info/\P.underlying t=some d/\info.zero=some i.zero/\info.size=i.size /\
 info.bytes=i.bytes/\i.ag=jsh d/\(i.d = .tuple/\i.ag=false\/i.zero.cells.size=i.size):=by
 unfold zd5 at h
 split at h
 ·rename_i info d h1 h2
  refine ⟨info,d,h1,h2,?_⟩
  split at h
  ·cases h
  ·rename_i z hz
   dsimp only at h
   split at h
   all_goals (repeat' split at h)
   all_goals first
    | (cases h;done)
    | (injection h with h;subst h;exact ⟨hz,rfl,rfl,rfl,.inr (by assumption)⟩)
    | (injection h with h;subst h;exact ⟨hz,rfl,rfl,rfl,.inl ⟨rfl,rfl⟩⟩)
 ·cases h
theorem zde {fs:List (Nat×Nat×Bool)} (h:zd5 P t=some i) (hd:i.d = .struct fs) :
 ∃ l,P.underlying t=some (.struct l)/\l.toList.mapM (jca P)=some fs:=by
 unfold zd5 at h
 split at h
 ·rename_i info d h1 h2
  split at h
  ·cases h
  ·rename_i z hz
   dsimp only at h
   split at h
   all_goals (repeat' split at h)
   all_goals first
    | (cases h;done)
    | (injection h with h;subst h;cases hd;exact ⟨_,h2,by assumption⟩)
    | (injection h with h;subst h;cases hd;done)
 ·cases h
theorem zd6 {n sz:Nat} {ag:Bool} (h:zd5 P t=some i) (hd:i.d = .array n sz ag) :
 ∃ e j de,P.underlying t=some (.array n e)/\P.info? e=some j/\P.underlying e=some de/\j.size=sz/\jsh de=ag:=by
 unfold zd5 at h
 split at h
 ·rename_i info d h1 h2
  split at h
  ·cases h
  ·rename_i z hz
   dsimp only at h
   split at h
   all_goals (repeat' split at h)
   all_goals first
    | (cases h;done)
    | (injection h with h;subst h;cases hd;exact ⟨_,_,_,h2,by assumption,by assumption,rfl,rfl⟩)
    | (injection h with h;subst h;cases hd;done)
 ·cases h
theorem zdd {e sz b:Nat} {z:List Value} (h:zd5 P t=some i) (hd:i.d = .slice e sz b z) :
 ∃ j ze,P.underlying t=some (.slice e)/\P.info? e=some j/\j.zero=some ze/\j.size=sz/\j.bytes=b/\ze.cells.toList=z/\z.length=sz/\sz≠0:=by
 unfold zd5 at h
 split at h
 ·rename_i info d h1 h2
  split at h
  ·cases h
  ·rename_i z hz
   dsimp only at h
   split at h
   all_goals (repeat' split at h)
   all_goals first
    | (cases h;done)
    | (rename_i hc _;injection h with h;subst h;cases hd;exact ⟨_,_,h2,by assumption,by assumption,rfl,rfl,rfl,by simpa using hc.1,hc.2⟩)
    | (injection h with h;subst h;cases hd;done)
 ·cases h
theorem zdb {k:TypeId} {z:Value} (h:zd5 P t=some i) (hd:i.d = .map k z) :
 ∃ e j,P.underlying t=some (.map k e)/\P.info? e=some j/\j.zero=some z:=by
 unfold zd5 at h
 split at h
 ·rename_i info d h1 h2
  split at h
  ·cases h
  ·rename_i z hz
   dsimp only at h
   split at h
   all_goals (repeat' split at h)
   all_goals first
    | (cases h;done)
    | (injection h with h;subst h;cases hd;exact ⟨_,_,h2,by assumption,by assumption⟩)
    | (injection h with h;subst h;cases hd;done)
 ·cases h
theorem zd9 (h:zd5 P t=some i) (hd:i.d≠.iface):∀ ms,P.underlying t≠some (.interface ms):=by
 intro ms hu
 unfold zd5 at h
 split at h
 ·rename_i info d h1 h2
  split at h
  ·cases h
  ·rename_i z hz
   rw [h2] at hu
   cases hu
   dsimp only at h
   split at h
   ·injection h with h;subst h;exact hd rfl
   ·cases h
 ·cases h
theorem zd8 (h:zd5 P t=some i) (hd:i.d = .bool):P.underlying t=some .bool:=by
 unfold zd5 at h
 split at h
 ·rename_i info d h1 h2
  split at h
  ·cases h
  ·rename_i z hz
   dsimp only at h
   split at h
   all_goals (repeat' split at h)
   all_goals first
    | (cases h;done)
    | assumption
    | (injection h with h;subst h;exact h2)
    | (injection h with h;subst h;simp at hd;done)
    | (injection h with h;subst h;exact absurd hd (by simp))
 ·cases h
theorem zda {k:IntKind} (h:zd5 P t=some i) (hd:i.d = .int k):P.underlying t=some (.int k):=by
 unfold zd5 at h
 split at h
 ·rename_i info d h1 h2
  split at h
  ·cases h
  ·rename_i z hz
   dsimp only at h
   split at h
   all_goals (repeat' split at h)
   all_goals first
    | (cases h;done)
    | (injection h with h;subst h;cases hd;exact h2)
    | (injection h with h;subst h;cases hd;done)
 ·cases h
theorem zdc {q:Option (Nat×Nat)} (h:zd5 P t=some i) (hd:i.d = .ptr q):∃ e,P.underlying t=some (.pointer e):=by
 unfold zd5 at h
 split at h
 ·rename_i info d h1 h2
  split at h
  ·cases h
  ·rename_i z hz
   dsimp only at h
   split at h
   all_goals (repeat' split at h)
   all_goals first
    | (cases h;done)
    | (injection h with h;subst h;cases hd;exact ⟨_,h2⟩)
    | (injection h with h;subst h;cases hd;done)
 ·cases h
section
variable {ρ:Type} {S:St} {r:ρ×St}
def jz8 (T:TypeId->Option TI) (t:TypeId) (K:TI->M ρ):M ρ:=match T t with
 | some i => K i
 | none => M.fail
theorem jz9 {T:TypeId->Option TI} {t:TypeId} {K:TI->M ρ} (h:jz8 T t K S=some r):∃ i,T t=some i/\K i S=some r:=by
 unfold jz8 at h
 cases hx:T t with
 | none => rw [hx] at h; cases h
 | some i => rw [hx] at h; exact ⟨i, rfl, h⟩
def jyk (x:TD) (K:M ρ):M ρ:=match x with
 | .bool => K
 | _ => M.fail
theorem jyl {x:TD} {K:M ρ} (h:jyk x K S=some r):x = .bool/\K S=some r:=by
 cases x <;> first | (cases h;done) | exact ⟨rfl,h⟩
def jyq (x:TD) (K:M ρ):M ρ:=match x with
 | .ptr _ => K
 | _ => M.fail
theorem jyr {x:TD} {K:M ρ} (h:jyq x K S=some r):(∃ q,x = .ptr q)/\K S=some r:=by
 cases x <;> first | (cases h;done) | exact ⟨⟨_,rfl⟩,h⟩
def jym (x:TD) (K:IntKind->M ρ):M ρ:=match x with
 | .int k => K k
 | _ => M.fail
theorem jyn {x:TD} {K:IntKind->M ρ} (h:jym x K S=some r):∃ k,x = .int k/\K k S=some r:=by
 cases x <;> first | (cases h;done) | exact ⟨_,rfl,h⟩
def jys (x:TD) (K:Nat->Nat->Nat->List Value->M ρ):M ρ:=match x with
 | .slice e s b z => K e s b z
 | _ => M.fail
theorem jyt {x:TD} {K:Nat->Nat->Nat->List Value->M ρ} (h:jys x K S=some r):∃ e s b z,x = .slice e s b z/\K e s b z S=some r:=by
 cases x <;> first | (cases h;done) | exact ⟨_,_,_,_,rfl,h⟩
def jyo (x:TD) (K:TypeId->Value->M ρ):M ρ:=match x with
 | .map k z => K k z
 | _ => M.fail
theorem jyp {x:TD} {K:TypeId->Value->M ρ} (h:jyo x K S=some r):∃ k z,x = .map k z/\K k z S=some r:=by
 cases x <;> first | (cases h;done) | exact ⟨_,_,rfl,h⟩
def jyi (x:TD) (K:Nat->Nat->Bool->M ρ):M ρ:=match x with
 | .array n s b => K n s b
 | _ => M.fail
theorem jyj {x:TD} {K:Nat->Nat->Bool->M ρ} (h:jyi x K S=some r):∃ n s b,x = .array n s b/\K n s b S=some r:=by
 cases x <;> first | (cases h;done) | exact ⟨_,_,_,rfl,h⟩
def jyu (x:TD) (K:List (Nat×Nat×Bool)->M ρ):M ρ:=match x with
 | .struct l => K l
 | _ => M.fail
theorem jyv {x:TD} {K:List (Nat×Nat×Bool)->M ρ} (h:jyu x K S=some r):∃ l,x = .struct l/\K l S=some r:=by
 cases x <;> first | (cases h;done) | exact ⟨_,rfl,h⟩
def jz2 {α:Type} (x:Option α) (K:α->M ρ):M ρ:=match x with
 | some a => K a
 | none => M.fail
theorem jz3 {α:Type} {x:Option α} {K:α->M ρ} (h:jz2 x K S=some r):∃ a,x=some a/\K a S=some r:=by
 cases x with
 | none => cases h
 | some a => exact ⟨a, rfl, h⟩
def jz4 (x:Value) (K:Addr->M ρ):M ρ:=match x with
 | .pointer p => jz2 p K
 | _ => M.fail
theorem jz5 {x:Value} {K:Addr->M ρ} (h:jz4 x K S=some r):∃ a,x = .pointer (some a)/\K a S=some r:=by
 unfold jz4 at h;split at h
 ·obtain ⟨a,rfl,h⟩:=jz3 h;exact ⟨_,rfl,h⟩
 ·cases h
def jyy (x:Value) (K:IntKind->Int->M ρ):M ρ:=match x with
 | .int k n => K k n
 | _ => M.fail
theorem jyz {x:Value} {K:IntKind->Int->M ρ} (h:jyy x K S=some r):∃ k n,x = .int k n/\K k n S=some r:=by
 unfold jyy at h;split at h
 ·exact ⟨_,_,rfl,h⟩
 ·cases h
def jyg (x:Value) (K:Bool->M ρ):M ρ:=match x with
 | .bool b => K b
 | _ => M.fail
theorem jyh {x:Value} {K:Bool->M ρ} (h:jyg x K S=some r):∃ b,x = .bool b/\K b S=some r:=by
 unfold jyg at h;split at h
 ·exact ⟨_,rfl,h⟩
 ·cases h
def jz6 (x:Value) (K:Option Addr->Nat->Nat->M ρ):M ρ:=match x with
 | .slice a n c => K a n c
 | _ => M.fail
theorem jz7 {x:Value} {K:Option Addr->Nat->Nat->M ρ} (h:jz6 x K S=some r):∃ a n c,x = .slice a n c/\K a n c S=some r:=by
 unfold jz6 at h;split at h
 ·exact ⟨_,_,_,rfl,h⟩
 ·cases h
def jyc (x:Value) (K:List Value->M ρ):M ρ:=match x with
 | .agg l => K l.toList
 | _ => M.fail
theorem jyd {x:Value} {K:List Value->M ρ} (h:jyc x K S=some r):∃ l,x = .agg ⟨l⟩/\K l S=some r:=by
 unfold jyc at h;split at h
 ·exact ⟨_,rfl,h⟩
 ·cases h
def jza (x:Value) (K:List Value->M ρ):M ρ:=match x with
 | .tuple l => K l.toList
 | _ => M.fail
theorem jzb {x:Value} {K:List Value->M ρ} (h:jza x K S=some r):∃ l,x = .tuple ⟨l⟩/\K l S=some r:=by
 unfold jza at h;split at h
 ·exact ⟨_,rfl,h⟩
 ·cases h
abbrev jyw (c:Prop) [Decidable c] (m:M ρ):M ρ:=jr0 c m
theorem jyx {c:Prop} [Decidable c] {m:M ρ} (h:jyw c m S=some r):c/\m S=some r:=jr1 h
theorem j61 {b:Bool} {x y:M ρ} (h:(bif b then x else y) S=some r):b=true/\x S=some r\/b=false/\y S=some r:=by
 cases b
 ·exact .inr ⟨rfl,h⟩
 ·exact .inl ⟨rfl,h⟩
end
section
variable (w:World)
theorem z75 {info:TypeInfo} (h:P.info? t=some info):(sizeOf t).run P w = .ok info.size w:=by
 simp [sizeOf,typeInfo,h]
theorem z72 {d:TypeDesc} (h:P.underlying t=some d):(isAgg t).run P w = .ok (jsh d) w:=by
 unfold isAgg
 rw [Sem.run_bind,run_underlying h]
 cases d <;> rfl
theorem z77 {info:TypeInfo} {z:Value} (h:P.info? t=some info) (hz:info.zero=some z):(zeroValue t).run P w = .ok z w:=by
 simp [zeroValue,typeInfo,h,hz]
end
end Go.AM
namespace Go.AM
open Go
variable {P:Program} {G:List (Nat×Obj)} {ρ:Type}
theorem HR.run_cells {τ:Nat->Tag} {S:St} {w:World} (h:HR G τ S w) {x y:Addr} {vs:List Value}
 (hx:∀ j,j < vs.length->S.cell (x.add j)=vs[j]?)
 (hv:τ x.block = .dead\/∃ c g,τ x.block = .live c g/\x.spot=none/\y=⟨c,x.off,none⟩) :
 ∃ vs',(∀ w':World,w'.heap=w.heap->(loadCells y vs.length).run P w' = .ok ⟨vs'⟩ w')/\VRs τ vs vs':=by
 have hb:∀ j,(x.add j).block=x.block:=λ j=>by unfold Addr.add;split <;> rfl
 have key:∀ j v,vs[j]? = some v->∃ v',w.cell? (y.add j)=some v'/\VR τ v v':=by
  intro j v hj
  have hlt:j < vs.length:=by
   rcases Nat.lt_or_ge j vs.length with h | h
   ·exact h
   ·rw [List.getElem?_eq_none h] at hj;cases hj
  have hc:=(hx j hlt).trans hj
  obtain ⟨v',h1,h2⟩:=h.cell (y:=y.add j) hc (by
   rw [hb]
   rcases hv with hd | ⟨c,g,hl,hs,rfl⟩
   ·exact .inl hd
   ·obtain ⟨b,o,s⟩:=x
    cases hs
    exact .inr ⟨c,g,hl,by rw [Addr.add_none],by rw [Addr.add_none,Addr.add_none]⟩)
  exact ⟨v',h1,h2⟩
 have : ∃ vs':List Value,vs'.length=vs.length/\∀ j v,vs[j]? = some v->∃ v',vs'[j]? = some v'/\w.cell? (y.add j)=some v'/\VR τ v v':=by
  clear hx hv
  clear h
  refine ⟨(List.range vs.length).map λ j=>(w.cell? (y.add j)).getD undef,by simp,?_⟩
  intro j v hj
  obtain ⟨v',h1,h2⟩:=key j v hj
  have hlt:j < vs.length:=by
   rcases Nat.lt_or_ge j vs.length with h | h
   ·exact h
   ·rw [List.getElem?_eq_none h] at hj;cases hj
  exact ⟨v',by simp [hlt,h1],h1,h2⟩
 obtain ⟨vs',hl,hk⟩:=this
 refine ⟨vs',λ w' hw'=>?_,VRs.of_get hl λ i v v' h1 h2=>?_⟩
 ·rw [<- hl]
  have hcw:∀ z,w'.cell? z=w.cell? z:=λ z=>by simp [World.cell?,hw']
  refine run_loadCells_list w' y vs' λ j v hj=>?_
  rw [hcw]
  have hlt:j < vs.length:=by
   rcases Nat.lt_or_ge j vs'.length with h | h
   ·omega
   ·rw [List.getElem?_eq_none h] at hj;cases hj
  obtain ⟨v',h1,h2,_⟩:=hk j _ (List.getElem?_eq_getElem hlt)
  rw [hj] at h1;cases h1
  exact h2
 ·obtain ⟨u,h3,_,h4⟩:=hk i v h1
  rw [h2] at h3;cases h3
  exact h4
theorem leaf_one {τ:Nat->Tag} {v v':Value} (h:VR τ v v') (hl:juu v=true):v'.oneCell'=true:=by
 cases h <;> first | rfl | (simp [juu] at hl;done) | skip
 rename_i e
 cases v <;> first | rfl | (simp [juu] at hl;done)
theorem VRs.leaf_one {τ:Nat->Tag} {l l':List Value} (h:VRs τ l l') (hl:l.all juu=true):∀ v∈l',v.oneCell'=true:=by
 induction l generalizing l' with
 | nil => cases h; simp
 | cons a l ih =>
   cases h with
   | cons d e=>
     simp at hl
     intro v hv
     rcases List.mem_cons.1 hv with rfl | hv
     ·exact AM.leaf_one d hl.1
     ·exact ih e (by simpa using hl.2) v hv
theorem z9u {c l:List Value} {o:Nat} (h:o+l.length<=c.length):(splice c o l).length=c.length:=by
 simp [splice]; omega
theorem VRs.splice {τ:Nat->Tag} {c c' m vs vs':List Value} (h:VRs τ c c') (k:VRs τ vs vs') {o:Nat} (ho:o+vs.length<=c.length) :
 ∃ d',VRs τ (splice c o vs) d'/\(c'++m).take o++vs'++(c'++m).drop (o+vs'.length)=d'++m:=by
 have hc:=h.length
 have hk:=k.length
 refine ⟨c'.take o++vs'++c'.drop (o+vs.length),((h.take o).append k).append (h.drop _),?_⟩
 rw [List.take_append_of_le_length (by omega),List.drop_append_of_le_length (by omega),hk]
 simp
theorem HR.store {τ:Nat->Tag} {S S':St} {w:World} (h:HR G τ S w) {x y:Addr} {vs vs':List Value} (hs:stL x vs S=some ((),S')) (hv:VRs τ vs vs')
 (hx:τ x.block = .dead\/∃ c g,τ x.block = .live c g/\x.spot=none/\y=⟨c,x.off,none⟩) :
 ∃ w',(storeCells y vs').run P w = .ok () w'/\HR G τ S' w'/\Ext τ S w τ S' w':=by
 unfold stL at hs
 split at hs
 ·rename_i c e g hS
  split at hs
  ·rename_i hc
   obtain ⟨_,hlen,hleaf⟩:=hc
   injection hs with hs
   injection hs with _ hs
   subst hs
   rcases hx with hd | ⟨b,g',hl,_,rfl⟩
   ·have:=h.dead _ _ hd hS;cases this
   ·obtain ⟨o',ho,hor⟩:=h.live _ _ _ _ hl hS
    cases hor with
    | cells hvs hm hp=>
      rename_i c' m
      have hc':=hvs.length
      have hvl:=hv.length
      obtain ⟨d',hd,hde⟩:=hvs.splice (m:=m) hv hlen
      have hrun:=run_storeCells_at (P:=P) b x.off e vs' 0 ⟨c'++m⟩ w ho (by simp;omega) (hv.leaf_one hleaf)
      refine ⟨_,hrun,?_,?_⟩
      ·refine h.put hl (o:=.cells ⟨d'++m⟩ e (0,0)) (.cells hd hm λ p q=>by rw [<- hp p q,hd.length,z9u hlen,hc']) ?_ ?_ (by simp)
       ·rw [setRow_heap w b _ _ e _ ho]
        congr 2
        simpa using hde
       ·intro k hk;exact setRow_other w b k _ hk
      ·exact Ext.put hl (by
        rcases Nat.lt_or_ge x.block S.length with q | q
        ·exact q
        ·rw [List.getElem?_eq_none q] at hS;cases hS) (λ k hk=>setRow_other w b k _ hk) (by simp) rfl rfl rfl
  ·cases hs
 ·cases hs
def j94 (T:TypeId->Option TI) (t:TypeId) (x:Value) (K:Value->M ρ):M ρ:=
 jz8 T t λ i=>jz4 x λ a=>bif i.ag then ldL i.zero.cells.toList a 0 λ vs=>K (.agg ⟨vs⟩) else M.bind (ld a) λ v=>prj i.zero v K
section
variable {T:TypeId->Option TI} (hT:TOK P T) {t:TypeId} {x:Operand} {d:Option Tmp} {ty:TypeId} {ps:String} {ed:Array Edge} {gd:Option (Nat×Bool)}
 {f:Operand->Value} {K:Value->M ρ} {S:St} {r:ρ×St}
include hT
theorem z8s (h:j94 T t (f x) K S=some r):∃ v,K v S=some r/\j0z P G ⟨d,.load t x,ty,ps,ed,gd⟩ f S v /\
 ∀ {σ:Type} (L:Value->M σ),j94 T t (f x) L S=L v S:=by
 obtain ⟨i,hi,h⟩:=jz9 h
 obtain ⟨a,hx,h⟩:=jz5 h
 obtain ⟨info,ds,h1,h2,hz,hs,hb,hag,hd⟩:=zd7 (hT t i hi)
 have hop:∀ {τ:Nat->Tag} {a':Act},(∀ z∈(Op.load t x).operands,VR τ (f z) (a'.eval z))->VR τ (.pointer (some a)) (a'.eval x):=by
  intro τ a' hv
  have:=hv x (by simp [Op.operands])
  rw [hx] at this;exact this
 rcases j61 h with ⟨ht,h⟩ | ⟨ht,h⟩
 ·rcases hd with ⟨_,hd⟩ | hd
  ·rw [ht] at hd;cases hd
  obtain ⟨vs,hl,hc,hk,hall⟩:=jur h
  refine ⟨_,hk,λ τ a' w hv hr=>?_,λ L=>by simp only [j94,jz8,hi,jz4,jz2,hx,ht,cond_true,hall]⟩
  obtain ⟨y,hy,hlv⟩:=(hop hv).ptr_inv
  have hsz:vs.length=info.size:=by rw [hl,hs,<- hd]; simp
  obtain ⟨vs',hrun,hvs⟩:=hr.run_cells (P:=P) (x:=a) (y:=y) (vs:=vs) (λ j hj=>by rw [<- hc j (by omega)]; simp) hlv
  refine ⟨.agg ⟨vs'⟩,?_,.agg hvs⟩
  rw [hsz] at hrun
  simp [execOp,Instr.loadAt,hy,Instr.sureAddr,loadVar,z72 w h2,<- hag,ht,z75 w h1,hrun w rfl]
 ·obtain ⟨v,S',hl,hk⟩:=M.bind_some h
  obtain ⟨hc,rfl⟩:=jut hl
  refine ⟨v,z2o hk,λ τ a' w hv hr=>?_,λ L=>by
   have:=z2m hk L
   simp only [j94,jz8,hi,jz4,jz2,hx,ht,cond_false,M.bind,hl,this]⟩
  obtain ⟨y,hy,hlv⟩:=(hop hv).ptr_inv
  obtain ⟨v',h3,h4⟩:=hr.cell hc hlv
  refine ⟨v',?_,h4⟩
  simp [execOp,Instr.loadAt,hy,Instr.sureAddr,loadVar,z72 w h2,<- hag,ht,h3]
omit hT in
theorem za7 {a:Addr} {vs:List Value} {S S':St} (h:stL a vs S=some ((),S')):S'.length=S.length:=by
 unfold stL at h
 split at h
 ·split at h
  ·injection h with h;injection h with _ h;subst h;simp
  ·cases h
 ·cases h
def j9o (T:TypeId->Option TI) (t:TypeId) (x v:Value) (K:Value->M ρ):M ρ:=
 jz8 T t λ i=>jz4 x λ a=>jz2 (j6x v) λ l=>jyw (l.length=i.size) (M.bind (stL a l) λ _=>K undef)
theorem z95 {y:Operand} (h:j9o T t (f x) (f y) K S=some r):∃ v S',K v S'=some r/\j0t P G ⟨d,.store t x y,ty,ps,ed,gd⟩ f S v S':=by
 obtain ⟨i,hi,h⟩:=jz9 h
 obtain ⟨a,hx,h⟩:=jz5 h
 obtain ⟨l,hc,h⟩:=jz3 h
 obtain ⟨hl,h⟩:=jyx h
 obtain ⟨⟨⟩,S',hs,hk⟩:=M.bind_some h
 obtain ⟨info,ds,h1,h2,hz,hsz,hb,hag,hd⟩:=zd7 (hT t i hi)
 refine ⟨_,S',hk,⟨by rw [za7 hs]; exact Nat.le_refl _,λ N τ a' w hN hno hv hr=>?_⟩⟩
 have hvx:=hv x (by simp [Op.operands])
 have hvy:=hv y (by simp [Op.operands])
 rw [hx] at hvx
 obtain ⟨z,hz',hlv⟩:=hvx.ptr_inv
 obtain ⟨l',hl',hvl⟩:=hvy.cells hc
 obtain ⟨w',hrun,hr',he⟩:=hr.store (P:=P) hs hvl hlv
 refine OS.skip (w':=w') ?_ ⟨τ,.tuple .nil,hr',he⟩
 have hlen:=hvl.length
 simp [execOp,Instr.storeAt,hz',Instr.sureAddr,storeVar,z75 w h1,hl',hlen,hl,hsz,hrun]
omit hT in
/-- A new block, and its address. -/
theorem j01.ptr {o:Oper} {e:TypeId} {l:List Value}
 (h:∀ (τ:Nat->Tag) (a:Act) (w:World),(∀ x∈o.op.operands,VR τ (f x) (a.eval x)) ->
   ∃ l',VRs τ l l'/\(execOp a.eval o).run P w = .ok (.value (z33 w.heap.size)) (zfm w (.cells ⟨l'⟩ e))) :
 j01 P o f (.cells l e none) z33 where
 run:=λ τ a w hv=>by
  obtain ⟨l',h1,h2⟩:=h τ a w hv
  have:=OR.cells (e:=e) (m:=[]) (g:=none) h1 (λ _=>rfl) (λ _ q=>by cases q)
  exact ⟨_,by simpa using this,h2⟩
 val:=λ τ n b h=>.ptr h
def j8f (T:TypeId->Option TI) (t:TypeId) (K:Value->M ρ):M ρ:=
 jz8 T t λ i=>jyw (i.zero.cells.toList.all jcs=true) (M.bind (jxx (.cells i.zero.cells.toList t none)) λ n=>K (z33 n))
theorem z88 (h:j8f T t K S=some r):∃ x mk,K (mk S.length) (S++[x])=some r/\j01 P ⟨d,.alloc t,ty,ps,ed,gd⟩ f x mk:=by
 obtain ⟨i,hi,h⟩:=jz9 h
 obtain ⟨hf,h⟩:=jyx h
 obtain ⟨n,S',hn,hk⟩:=M.bind_some h
 injection hn with hn
 injection hn with hn1 hn2
 subst hn1 hn2
 obtain ⟨info,ds,h1,h2,hz,hsz,hb,hag,hd⟩:=zd7 (hT t i hi)
 refine ⟨_,_,hk,.ptr λ τ a w hv=>⟨i.zero.cells.toList,VRs.self λ v hv=>.flat (List.all_eq_true.1 hf v hv),?_⟩⟩
 simp [execOp,Instr.alloc,z77 w h1 hz,newVar,newRow,z33,zfm]
def j8l (t:TypeId) (v:Value) (K:Value->M ρ):M ρ:=
 jz2 (j6x v) λ l=>M.bind (jxx (.cells l t none)) λ n=>K (z33 n)
omit hT in
theorem z8c (h:j8l t (f x) K S=some r):∃ o mk,K (mk S.length) (S++[o])=some r/\j01 P ⟨d,.box t x,ty,ps,ed,gd⟩ f o mk:=by
 obtain ⟨l,hc,h⟩:=jz3 h
 obtain ⟨n,S',hn,hk⟩:=M.bind_some h
 injection hn with hn
 injection hn with hn1 hn2
 subst hn1 hn2
 refine ⟨_,_,hk,.ptr λ τ a w hv=>?_⟩
 obtain ⟨l',hl',hvl⟩:=(hv x (by simp [Op.operands])).cells hc
 refine ⟨l',hvl,?_⟩
 simp [execOp,Instr.box,newVar,newRow,z33,zfm,hl']
end
end Go.AM
namespace Go.AM
open Go
variable {P:Program} {G:List (Nat×Obj)} {ρ:Type}
variable {T:TypeId->Option TI} {t:TypeId} {x y:Operand} {d:Option Tmp} {ty:TypeId} {ps:String} {ed:Array Edge} {gd:Option (Nat×Bool)}
 {f:Operand->Value} {K:Value->M ρ} {S:St} {r:ρ×St}
theorem z8z (h:K (f x) S=some r):∃ v,K v S=some r/\∀ S,j0z P G ⟨d,.move x,ty,ps,ed,gd⟩ f S v:=
 ⟨_,h,λ _ τ a w hv _=>⟨a.eval x,by simp [execOp],hv x (by simp [Op.operands])⟩⟩
theorem z8a (h:K (f x) S=some r):∃ v,K v S=some r/\∀ S,j0z P G ⟨d,.assign x,ty,ps,ed,gd⟩ f S v:=
 ⟨_,h,λ _ τ a w hv _=>⟨a.eval x,by simp [execOp],hv x (by simp [Op.operands])⟩⟩
def j9d (c a b:Value) (K:Value->M ρ):M ρ:=
 jyg c λ t=>
  match a,b with
  | .int k m,.int k' n=>jyw (k=k') (K (.int k (bif t then m else n)))
  | .bool m,.bool n=>K (.bool (bif t then m else n))
  | a,b=>bif t then K a else K b
theorem j9e {c a b:Value} (h:j9d c a b K S=some r):∃ t v,c = .bool t/\v=(if t then a else b)/\K v S=some r:=by
 obtain ⟨t,hc,h⟩:=jyh h
 refine ⟨t,_,hc,rfl,?_⟩
 split at h
 ·obtain ⟨e,h'⟩:=jyx h
  subst e
  cases t <;> exact h'
 ·cases t <;> exact h
 ·cases t <;> exact h
theorem z92 {c:Operand} (h:j9d (f c) (f x) (f y) K S=some r):∃ v,K v S=some r/\∀ S,j0z P G ⟨d,.pick c x y,ty,ps,ed,gd⟩ f S v:=by
 obtain ⟨t,v,hc,rfl,hk⟩:=j9e h
 refine ⟨_,hk,λ _ τ a w hv _=>?_⟩
 have h1:=hv c (by simp [Op.operands])
 rw [hc] at h1
 refine ⟨if t then a.eval x else a.eval y,by simp [execOp,h1.bool,asBool],?_⟩
 cases t
 ·exact hv y (by simp [Op.operands])
 ·exact hv x (by simp [Op.operands])
def j9b (x:Value) (K:Value->M ρ):M ρ:=
 match x with
 | .pointer p => jz2 p λ a => K (.pointer (some a))
 | .func (.func g) a b => K (.func (.func g) a b)
 | _ => M.fail
theorem z91 (h:j9b (f x) K S=some r):∃ v,K v S=some r/\∀ S,j0z P G ⟨d,.nilCheck x,ty,ps,ed,gd⟩ f S v:=by
 generalize hx:f x=u at h
 unfold j9b at h
 split at h
 ·rename_i p
  obtain ⟨a,rfl,h⟩:=jz3 h
  refine ⟨_,h,λ _ τ a w hv _=>?_⟩
  have h1:=hv x (by simp [Op.operands])
  rw [hx] at h1
  obtain ⟨y,hy,_⟩:=h1.ptr_inv
  exact ⟨a.eval x,by simp [execOp,hy],h1⟩
 ·rename_i g u v
  refine ⟨_,h,λ _ τ a w hv _=>?_⟩
  have h1:=hv x (by simp [Op.operands])
  rw [hx] at h1
  obtain ⟨f',c',hy,_,_⟩:=VR.func_inv (f:=u.toList) (c:=v.toList) h1
  exact ⟨a.eval x,by simp [execOp,hy],h1⟩
 ·cases h
def dUn (op:UnOp) (x:Value) (K:Value->M ρ):M ρ:=
 match op,x with
 | .neg, .int k n => K (.int k (k.wrap (0 - n)))
 | .xor, .int k n => K (.int k (k.wrap (BitVec.ofInt k.bits (if k.signed then -1 else k.max) ^^^ BitVec.ofInt k.bits n).toNat))
 | .not, .bool b => K (.bool !b)
 | _, _ => M.fail
theorem z96 {op:UnOp} (h:dUn op (f x) K S=some r):∃ v,K v S=some r/\∀ S,j0z P G ⟨d,.unOp op t x,ty,ps,ed,gd⟩ f S v:=by
 generalize hx:f x=u at h
 unfold dUn at h
 split at h
 ·refine ⟨_,h,λ _ τ a w hv _=>?_⟩
  have h1:=hv x (by simp [Op.operands])
  rw [hx] at h1
  exact ⟨_,by simp [execOp,h1.int,Op.unary,Op.intArith],.flat rfl⟩
 ·refine ⟨_,h,λ _ τ a w hv _=>?_⟩
  have h1:=hv x (by simp [Op.operands])
  rw [hx] at h1
  exact ⟨_,by simp [execOp,h1.int,Op.unary,Op.intBits],.flat rfl⟩
 ·refine ⟨_,h,λ _ τ a w hv _=>?_⟩
  have h1:=hv x (by simp [Op.operands])
  rw [hx] at h1
  exact ⟨_,by simp [execOp,h1.bool,Op.unary],.flat rfl⟩
 ·cases h
def j8h (op:BinOp) (k:IntKind) (a b:Int) (K:Value->M ρ):M ρ:=
 match op with
 | .add => K (.int k (k.wrap (a + b)))
 | .sub => K (.int k (k.wrap (a - b)))
 | .mul => K (.int k (k.wrap (a * b)))
 | .quo => jyw (b ≠ 0) (K (.int k (k.wrap (a.tdiv b))))
 | .rem => jyw (b ≠ 0) (K (.int k (a.tmod b)))
 | .and => K (.int k (k.wrap (BitVec.ofInt k.bits a &&& BitVec.ofInt k.bits b).toNat))
 | .or => K (.int k (k.wrap (BitVec.ofInt k.bits a ||| BitVec.ofInt k.bits b).toNat))
 | .xor => K (.int k (k.wrap (BitVec.ofInt k.bits a ^^^ BitVec.ofInt k.bits b).toNat))
 | .andNot => K (.int k (k.wrap (BitVec.ofInt k.bits a &&& ~~~ BitVec.ofInt k.bits b).toNat))
 | .eql => K (.bool (a == b))
 | .neq => K (.bool (a != b))
 | .lss => K (.bool (a < b))
 | .leq => K (.bool (a <= b))
 | .gtr => K (.bool (b < a))
 | .geq => K (.bool (b <= a))
 | _ => M.fail
def j9k (op:BinOp) (k:IntKind) (a b:Int) (K:Value->M ρ):M ρ:=
 match op with
 | .shl => jyw (0 <= b) (K (.int k (k.wrap (a * 2 ^ (min b.toNat k.bits)))))
 | .shr => jyw (0 <= b) (K (.int k (a.fdiv (2 ^ (min b.toNat k.bits)))))
 | _ => M.fail
theorem j8i {op:BinOp} {k:IntKind} {a b:Int} (h:j8h op k a b K S=some r) (t:TypeId) (u v:Operand) :
 ∃ z,K z S=some r/\jcs z=true/\∀ w,(do eqGuard op t u v (.int k a) (.int k b); binOp op t (.int k a) (.int k b):Sem Value).run P w = .ok z w:=by
 unfold j8h at h
 split at h
 all_goals first
  | (cases h;done)
  | (obtain ⟨hb,h⟩:=jyx h;exact ⟨_,h,rfl,λ w=>by simp [eqGuard,binOp,Op.intDiv,hb]⟩)
  | (refine ⟨_,h,rfl,λ w=>?_⟩; simp [eqGuard,binOp,Op.intArith,Op.intBits,Op.intCmp]; done)
theorem j9l {op:BinOp} {k q:IntKind} {a b:Int} (h:j9k op k a b K S=some r) (t:TypeId) (u v:Operand) :
 ∃ z,K z S=some r/\jcs z=true/\∀ w,(do eqGuard op t u v (.int k a) (.int q b); binOp op t (.int k a) (.int q b):Sem Value).run P w = .ok z w:=by
 unfold j9k at h
 split at h
 all_goals first
  | (cases h;done)
  | (obtain ⟨hb,h⟩:=jyx h;exact ⟨_,h,rfl,λ w=>by simp [eqGuard,binOp,Op.shift,Int.not_lt.2 hb]⟩)
def eqL:List Value->List Value->Bool
 | [], [] => true
 | .int _ a :: l, .int _ b :: m => (a == b) && eqL l m
 | .bool a :: l, .bool b :: m => (a == b) && eqL l m
 | _, _ => false
def z17:List Value->List Value->Bool
 | [], [] => true
 | .int k _ :: z, .int q _ :: l => decide (k = q) && z17 z l
 | .bool _ :: z, .bool _ :: l => z17 z l
 | _, _ => false
def j0c (P:Program) (z:List Value) (t:TypeId):Prop:=
 ∀ (l m:List Value),z17 z l=true->z17 z m=true->∀ w,(Op.equal t (.agg ⟨l⟩) (.agg ⟨m⟩)).run P w = .ok (eqL l m) w /\
  ∀ (op:BinOp) (u v:Operand),(eqGuard op t u v (.agg ⟨l⟩) (.agg ⟨m⟩)).run P w = .ok () w
def ngB (neg b:Bool):Bool:=match neg with
 | true => !b
 | false => b
def j9h (T:TypeId->Option TI) (eq:TypeId->Option (List Value)) (t:TypeId) (neg:Bool) (x y:Value) (K:Value->M ρ):M ρ:=
 match x,y with
 | .bool a, .bool b => jz8 T t λ i => jyk i.d (K (.bool (ngB neg (a == b))))
 | .pointer a, .pointer none => jz8 T t λ i => jyq i.d (K (.bool (ngB neg a.isNone)))
 | .slice a _ _, .slice none _ _ => jz8 T t λ i => jys i.d λ _ _ _ _ => K (.bool (ngB neg a.isNone))
 | .map a, .map none => jz8 T t λ i => jyo i.d λ _ _ => K (.bool (ngB neg a.isNone))
 | .agg l, .agg m => jz2 (eq t) λ z => jyw (z17 z l.toList = true /\ z17 z m.toList = true) (K (.bool (ngB neg (eqL l.toList m.toList))))
 | _, _ => M.fail
def j8k (T:TypeId->Option TI) (eq:TypeId->Option (List Value)) (op:BinOp) (t:TypeId) (x y:Value) (K:Value->M ρ):M ρ:=
 match op,x,y with
 | .shl, .int k a, .int _ b => j9k .shl k a b K
 | .shr, .int k a, .int _ b => j9k .shr k a b K
 | .eql, .int k a, .int k' b => jyw (k = k') (j8h .eql k a b K)
 | .neq, .int k a, .int k' b => jyw (k = k') (j8h .neq k a b K)
 | .eql, x, y => j9h T eq t false x y K
 | .neq, x, y => j9h T eq t true x y K
 | op, .int k a, .int k' b => jyw (k = k') (j8h op k a b K)
 | _, _, _ => M.fail
section
variable (w:World) (dd:Nat)
theorem jau (h:P.underlying t=some .bool) (a b:Bool):(Op.equalIn (dd+1) t (.bool a) (.bool b)).run P w = .ok (a == b) w:=by
 simp [Op.equalIn,run_underlying h]
theorem jaw {e:TypeId} (h:P.underlying t=some (.pointer e)) (a:Option Addr):(Op.equalIn (dd+1) t (.pointer a) (.pointer none)).run P w = .ok a.isNone w:=by
 cases a <;> simp [Op.equalIn,run_underlying h]
theorem jax {e:TypeId} (h:P.underlying t=some (.slice e)) (a:Option Addr) (n c n' c':Nat) :
 (Op.equalIn (dd+1) t (.slice a n c) (.slice none n' c')).run P w = .ok a.isNone w:=by
 cases a <;> simp [Op.equalIn,run_underlying h]
theorem jav {k e:TypeId} (h:P.underlying t=some (.map k e)) (a:Option Nat):(Op.equalIn (dd+1) t (.map a) (.map none)).run P w = .ok a.isNone w:=by
 cases a <;> simp [Op.equalIn,run_underlying h]
end
theorem j28 {τ:Nat->Tag}:∀ {z l l':List Value},z17 z l=true->VRs τ l l'->l'=l
 | [], [], _, _, .nil => rfl
 | .int k _ :: z, .int q _ :: l, _, hp, .cons e h => by
   simp [z17] at hp
   rw [j28 hp.2 h,e.int]
 | .bool _ :: z, .bool _ :: l, _, hp, .cons e h => by
   simp [z17] at hp
   rw [j28 hp h,e.bool]
theorem j9i (hT:TOK P T) {eq:TypeId->Option (List Value)} (hE:∀ t z,eq t=some z->j0c P z t) {neg:Bool} {u v:Value}
 (h:j9h T eq t neg u v K S=some r):∃ b:Bool,K (.bool (ngB neg b)) S=some r/\∀ τ u' v' w (op:BinOp) (o q:Operand),VR τ u u'->VR τ v v' ->
   (eqGuard op t o q u' v').run P w = .ok () w/\(Op.equal t u' v').run P w = .ok b w/\(∀ k a,u'≠.int k a)/\(∀ s,u'≠.string s)/\(∀ k a,u'≠.float k a)/\(∀ k a b,u'≠.complex k a b):=by
 unfold j9h at h
 split at h
 ·obtain ⟨i,hi,h⟩:=jz9 h
  obtain ⟨hd,h⟩:=jyl h
  ·refine ⟨_,h,λ τ u' v' w op o q h1 h2=>?_⟩
   rw [h1.bool,h2.bool]
   have:=zd8 (hT t i hi) hd
   refine ⟨by simp [eqGuard],?_,by simp,by simp,by simp,by simp⟩
   exact jau w 9999 this _ _
 ·rename_i a
  obtain ⟨i,hi,h⟩:=jz9 h
  obtain ⟨⟨_,hd⟩,h⟩:=jyr h
  ·refine ⟨_,h,λ τ u' v' w op o q h1 h2=>?_⟩
   obtain ⟨e,he⟩:=zdc (hT t i hi) hd
   rw [h2.pnil]
   cases a with
   | none=>
     rw [h1.pnil]
     refine ⟨by simp [eqGuard],?_,by simp,by simp,by simp,by simp⟩
     exact jaw w 9999 he _
   | some a=>
     obtain ⟨y,rfl,_⟩:=h1.ptr_inv
     refine ⟨by simp [eqGuard],?_,by simp,by simp,by simp,by simp⟩
     exact jaw w 9999 he _
 ·rename_i a _ _ _ _
  obtain ⟨i,hi,h⟩:=jz9 h
  obtain ⟨_,_,_,_,hd,h⟩:=jyt h
  ·refine ⟨_,h,λ τ u' v' w op o q h1 h2=>?_⟩
   obtain ⟨j,ze,he,_⟩:=zdd (hT t i hi) hd
   rw [h2.snil]
   cases a with
   | none=>
     rw [h1.snil]
     refine ⟨by simp [eqGuard],?_,by simp,by simp,by simp,by simp⟩
     exact jax w 9999 he _ _ _ _ _
   | some a=>
     obtain ⟨y,k',rfl,_⟩:=h1.slice_inv
     refine ⟨by simp [eqGuard],?_,by simp,by simp,by simp,by simp⟩
     exact jax w 9999 he _ _ _ _ _
 ·rename_i a
  obtain ⟨i,hi,h⟩:=jz9 h
  obtain ⟨_,_,hd,h⟩:=jyp h
  ·refine ⟨_,h,λ τ u' v' w op o q h1 h2=>?_⟩
   obtain ⟨e,j,he,_⟩:=zdb (hT t i hi) hd
   rw [h2.mnil]
   cases a with
   | none=>
     rw [h1.mnil]
     refine ⟨by simp [eqGuard],?_,by simp,by simp,by simp,by simp⟩
     exact jav w 9999 he _
   | some a=>
     obtain ⟨y,rfl,_⟩:=h1.map_inv
     refine ⟨by simp [eqGuard],?_,by simp,by simp,by simp,by simp⟩
     exact jav w 9999 he _
 ·rename_i l m
  obtain ⟨z,hz,h⟩:=jz3 h
  obtain ⟨⟨hl,hm⟩,h⟩:=jyx h
  refine ⟨_,h,λ τ u' v' w op o q h1 h2=>?_⟩
  obtain ⟨l',rfl,hl'⟩:=VR.agg_inv (l:=l.toList) h1
  obtain ⟨m',rfl,hm'⟩:=VR.agg_inv (l:=m.toList) h2
  rw [j28 hl hl',j28 hm hm']
  obtain ⟨e1,e2⟩:=hE t z hz _ _ hl hm w
  exact ⟨e2 op o q,e1,by simp,by simp,by simp,by simp⟩
 ·cases h
end Go.AM
namespace Go.AM
open Go
variable {P:Program} {G:List (Nat×Obj)} {ρ:Type}
variable {T:TypeId->Option TI} {t:TypeId} {x y:Operand} {d:Option Tmp} {ty:TypeId} {ps:String} {ed:Array Edge} {gd:Option (Nat×Bool)}
 {f:Operand->Value} {K:Value->M ρ} {S:St} {r:ρ×St}
theorem j2u {α β:Type} (g:α->β) (p:Array α):p.map g=⟨p.toList.map g⟩:=by
 apply Array.toList_inj.1;simp
theorem binOp_eql {u v:Value} (h1:∀ k a,u≠.int k a) (h2:∀ s,u≠.string s) (h3:∀ k a,u≠.float k a) (h4:∀ k a b,u≠.complex k a b) :
 binOp .eql t u v=(do pure (.bool (<- Op.equal t u v)))/\binOp .neq t u v=(do pure (.bool (!(<- Op.equal t u v)))):=by
 cases u <;> first
  | (exact absurd rfl (h1 _ _)) | (exact absurd rfl (h2 _)) | (exact absurd rfl (h3 _ _)) | (exact absurd rfl (h4 _ _ _))
  | (constructor <;> (cases v <;> rfl))
theorem z8b (hT:TOK P T) {eq:TypeId->Option (List Value)} (hE:∀ t z,eq t=some z->j0c P z t) {op:BinOp} {yt:TypeId}
 (h:j8k T eq op t (f x) (f y) K S=some r):∃ v,K v S=some r/\∀ S,j0z P G ⟨d,.binOp op t x y yt,ty,ps,ed,gd⟩ f S v:=by
 generalize hx:f x=u at h
 generalize hy:f y=v at h
 have hxy:∀ {τ:Nat->Tag} {a:Act},(∀ z∈(Op.binOp op t x y yt).operands,VR τ (f z) (a.eval z))->VR τ u (a.eval x)/\VR τ v (a.eval y):=by
  intro τ a hv
  have h1:=hv x (by simp [Op.operands])
  have h2:=hv y (by simp [Op.operands])
  rw [hx] at h1;rw [hy] at h2
  exact ⟨h1,h2⟩
 have ints:∀ (k q:IntKind) (a b:Int),u = .int k a->v = .int q b ->
  (∃ z,K z S=some r/\jcs z=true/\∀ w,(do eqGuard op t x y (.int k a) (.int q b); binOp op t (.int k a) (.int q b):Sem Value).run P w = .ok z w) ->
  ∃ z,K z S=some r/\∀ S,j0z P G ⟨d,.binOp op t x y yt,ty,ps,ed,gd⟩ f S z:=by
  rintro k q a b rfl rfl ⟨z,hk,hz,hrun⟩
  refine ⟨z,hk,λ _ τ a' w hv _=>?_⟩
  obtain ⟨h1,h2⟩:=hxy hv
  refine ⟨z,?_,.flat hz⟩
  have:=hrun w
  simp only [execOp,h1.int,h2.int,Sem.run_bind] at this ⊢
  rw [this]
  rfl
 have sames:∀ (neg:Bool),op=(if neg then .neq else .eql)->j9h T eq t neg u v K S=some r ->
  ∃ z,K z S=some r/\∀ S,j0z P G ⟨d,.binOp op t x y yt,ty,ps,ed,gd⟩ f S z:=by
  intro neg ho hs
  obtain ⟨b,hk,hall⟩:=j9i hT hE hs
  refine ⟨_,hk,λ _ τ a' w hv _=>?_⟩
  obtain ⟨h1,h2⟩:=hxy hv
  obtain ⟨g1,g2,g3,g4,g5,g6⟩:=hall τ _ _ w op x y h1 h2
  obtain ⟨e1,e2⟩:=binOp_eql (t:=t) (v:=a'.eval y) g3 g4 g5 g6
  refine ⟨.bool (ngB neg b),?_,.flat rfl⟩
  cases neg
  ·simp at ho
   subst ho
   simp [execOp,g1,e1,g2,ngB]
  ·simp at ho
   subst ho
   simp [execOp,g1,e2,g2,ngB]
 unfold j8k at h
 split at h
 ·exact ints _ _ _ _ rfl rfl (j9l h t x y)
 ·exact ints _ _ _ _ rfl rfl (j9l h t x y)
 ·obtain ⟨e,h'⟩:=jyx h;subst e
  exact ints _ _ _ _ rfl rfl (j8i h' t x y)
 ·obtain ⟨e,h'⟩:=jyx h;subst e
  exact ints _ _ _ _ rfl rfl (j8i h' t x y)
 ·exact sames false rfl h
 ·exact sames true rfl h
 ·obtain ⟨e,h'⟩:=jyx h;subst e
  exact ints _ _ _ _ rfl rfl (j8i h' t x y)
 ·cases h
def j8q (T:TypeId->Option TI) (s t:TypeId) (x:Value) (K:Value->M ρ):M ρ:=
 jz8 T s λ _=>jz8 T t λ i=>jym i.d λ k=>jyy x λ _ n=>K (.int k (k.wrap n))
theorem z8h (hT:TOK P T) {s:TypeId} (h:j8q T s t (f x) K S=some r):∃ v,K v S=some r/\∀ S,j0z P G ⟨d,.convert s t x,ty,ps,ed,gd⟩ f S v:=by
 obtain ⟨j,hj,h⟩:=jz9 h
 obtain ⟨i,hi,h⟩:=jz9 h
 obtain ⟨k,hk,h⟩:=jyn h
 obtain ⟨q,n,hx,h⟩:=jyz h
 have h1:=zda (hT t i hi) hk
 obtain ⟨_,ds,_,h2,_⟩:=zd7 (hT s j hj)
 refine ⟨_,h,λ _ τ a w hv _=>⟨.int k (k.wrap n),?_,.flat rfl⟩⟩
 have hvx:=hv x (by simp [Op.operands])
 rw [hx] at hvx
 simp [execOp,hvx.int,convert,run_underlying h1,run_underlying h2,Conv.intToInt]
def TD.noIface:TD->Bool
 | .iface => false
 | _ => true
def j9a (T:TypeId->Option TI) (t:TypeId) (x:Value) (K:Value->M ρ):M ρ:=jz8 T t λ i=>jyw (i.d.noIface=true) (K (.iface t x))
theorem z8y (hT:TOK P T) (h:j9a T t (f x) K S=some r):∃ v,K v S=some r/\∀ S,j0z P G ⟨d,.makeInterface t x,ty,ps,ed,gd⟩ f S v:=by
 obtain ⟨i,hi,h⟩:=jz9 h
 obtain ⟨hn,h⟩:=jyx h
 refine ⟨_,h,λ _ τ a w hv _=>⟨.iface t (a.eval x),?_,.iface (hv x (by simp [Op.operands]))⟩⟩
 obtain ⟨info,ds,h1,h2,_⟩:=zd7 (hT t i hi)
 have hne:∀ ms,ds≠.interface ms:=λ ms e=>zd9 (hT t i hi) (by intro q;rw [q] at hn;cases hn) ms (by rw [h2,e])
 simp only [execOp,Instr.makeInterface,Sem.run_bind,run_underlying h2,Result.andThen_ok]
 cases ds <;> first | rfl | exact absurd rfl (hne _)
theorem z8x {fn:Fn} {p q:Array Operand} (h:K (.func fn ⟨p.toList.map f⟩ ⟨q.toList.map f⟩) S=some r) :
 ∃ v,K v S=some r/\∀ S,j0z P G ⟨d,.makeFunc fn p q,ty,ps,ed,gd⟩ f S v:=by
 refine ⟨_,h,λ _ τ a w hv _=>⟨.func fn ⟨p.toList.map a.eval⟩ ⟨q.toList.map a.eval⟩,?_,.func ?_ ?_⟩⟩
 ·rw [<- j2u,<- j2u]; simp [execOp,Instr.makeFunc]
 ·exact VRs.map_of λ z hz=>hv z (by simp [Op.operands]; exact .inl (by simpa using hz))
 ·exact VRs.map_of λ z hz=>hv z (by simp [Op.operands]; exact .inr (by simpa using hz))
def j8x (T:TypeId->Option TI) (t:TypeId) (x:Value) (n:Nat) (K:Value->M ρ):M ρ:=
 jz8 T t λ i=>jyu i.d λ fs=>jz2 fs[n]? λ q=>jz4 x λ a=>K (.pointer (some (a.add q.1)))
theorem jwg {α β:Type} {g:α->Option β}:∀ {l:List α} {m:List β},l.mapM g=some m->∀ {n:Nat} {b:β},m[n]? = some b->∃ a,l[n]? = some a/\g a=some b
 | [], m, h, n, b, hb => by simp at h; subst h; simp at hb
 | a :: l, m, h, n, b, hb => by
   simp only [List.mapM_cons] at h
   cases hg:g a with
   | none=>rw [hg] at h;cases h
   | some c=>
     rw [hg] at h
     cases hl:l.mapM g with
     | none=>rw [hl] at h;cases h
     | some m'=>
       rw [hl] at h
       cases h
       cases n with
       | zero=>simp at hb;subst hb;exact ⟨a,rfl,hg⟩
       | succ n=>exact jwg hl (by simpa using hb)
theorem jcb {fl:Field} {q:Nat×Nat×Bool} (h:jca P fl=some q):∃ i d,P.info? fl.type=some i/\P.underlying fl.type=some d/\i.size≠0/\q=(fl.offset,i.size,jsh d):=by
 unfold jca at h
 split at h
 ·split at h
  ·cases h
  ·cases h;exact ⟨_,_,by assumption,by assumption,by assumption,rfl⟩
 ·cases h
theorem VR.ptr_add {τ:Nat->Tag} {a:Addr} {v:Value} (h:VR τ (.pointer (some a)) v) (n:Nat) :
 ∃ y,v = .pointer (some y)/\VR τ (.pointer (some (a.add n))) (.pointer (some (y.add n))):=by
 obtain ⟨y,hy,hd⟩:=h.ptr_inv
 refine ⟨y,hy,?_⟩
 have hb:(a.add n).block=a.block:=by unfold Addr.add;split <;> rfl
 rcases hd with hd | ⟨c,g,hl,hs,rfl⟩
 ·exact .ptrDead (by rw [hb]; exact hd)
 ·obtain ⟨b,o,s⟩:=a
  cases hs
  rw [Addr.add_none,Addr.add_none]
  exact .ptr hl
theorem z8m (hT:TOK P T) {n:Nat} (h:j8x T t (f x) n K S=some r):∃ v,K v S=some r/\∀ S,j0z P G ⟨d,.fieldAddr t x n,ty,ps,ed,gd⟩ f S v:=by
 obtain ⟨i,hi,h⟩:=jz9 h
 obtain ⟨fs,hfs,h⟩:=jyv h
 obtain ⟨q,hq,h⟩:=jz3 h
 obtain ⟨a,hx,h⟩:=jz5 h
 obtain ⟨l,hu,hm⟩:=zde (hT t i hi) hfs
 obtain ⟨fl,hfl,hfi⟩:=jwg hm hq
 obtain ⟨fi,fd,h1,h2,h3,rfl⟩:=jcb hfi
 refine ⟨_,h,λ _ τ a' w hv _=>?_⟩
 have hvx:=hv x (by simp [Op.operands])
 rw [hx] at hvx
 obtain ⟨y,hy,hr⟩:=hvx.ptr_add fl.offset
 refine ⟨_,?_,hr⟩
 have hfl':l[n]? = some fl:=by simpa using hfl
 simp [execOp,Instr.fieldAt,run_underlying hu,hfl',hy,Instr.sureAddr,fieldPlace,z75 w h1,h3]
def z07 (ag:Bool) (l:List Value) (off sz:Nat):Option Value:=match ag with
 | true => some (.agg ⟨(l.drop off).take sz⟩)
 | false => l[off]?
theorem z73 {e:TypeId} {j:TypeInfo} {de:TypeDesc} (h1:P.info? e=some j) (h2:P.underlying e=some de) {τ:Nat->Tag} {l l':List Value} (hv:VRs τ l l')
 {off:Nat} {v:Value} (hp:z07 (jsh de) l off j.size=some v) (w:World):∃ v',(part e ⟨l'⟩ off).run P w = .ok v' w/\VR τ v v':=by
 unfold z07 at hp
 cases hag:jsh de with
 | true =>
   rw [hag] at hp
   cases hp
   refine ⟨.agg ⟨(l'.drop off).take j.size⟩,?_,.agg ((hv.drop off).take _)⟩
   simp only [part,Sem.run_bind,z72 w h2,Result.andThen_ok,hag,if_true,z75 w h1,Sem.run_pure]
   congr 2
   apply Array.toList_inj.1
   simp [List.extract_eq_take_drop]
 | false =>
   rw [hag] at hp
   obtain ⟨v',h3,h4⟩:=hv.get hp
   refine ⟨v',?_,h4⟩
   simp [part,z72 w h2,hag,h3]
def j8w (T:TypeId->Option TI) (t:TypeId) (x:Value) (n:Nat) (K:Value->M ρ):M ρ:=
 jz8 T t λ i=>jyu i.d λ fs=>jz2 fs[n]? λ q=>jyc x λ l=>jz2 (z07 q.2.2 l q.1 q.2.1) K
theorem z8l (hT:TOK P T) {n:Nat} (h:j8w T t (f x) n K S=some r):∃ v,K v S=some r/\∀ S,j0z P G ⟨d,.field t x n,ty,ps,ed,gd⟩ f S v:=by
 obtain ⟨i,hi,h⟩:=jz9 h
 obtain ⟨fs,hfs,h⟩:=jyv h
 obtain ⟨q,hq,h⟩:=jz3 h
 obtain ⟨m,hx,h⟩:=jyd h
 obtain ⟨v,hp,h⟩:=jz3 h
 obtain ⟨l,hu,hm⟩:=zde (hT t i hi) hfs
 obtain ⟨fl,hfl,hfi⟩:=jwg hm hq
 obtain ⟨fi,fd,h1,h2,h3,hqe⟩:=jcb hfi
 rw [hqe] at hp
 refine ⟨_,h,λ _ τ a' w hv _=>?_⟩
 have hvx:=hv x (by simp [Op.operands])
 rw [hx] at hvx
 obtain ⟨m',hy,hvm⟩:=hvx.agg_inv
 obtain ⟨v',hrun,hr⟩:=z73 h1 h2 hvm hp w
 refine ⟨v',?_,hr⟩
 have hfl':l[n]? = some fl:=by simpa using hfl
 simp [execOp,Instr.field,run_underlying hu,hfl',hy,asAgg,hrun]
end Go.AM
namespace Go.AM
open Go
variable {P:Program} {G:List (Nat×Obj)} {ρ:Type}
variable {T:TypeId->Option TI} {t:TypeId} {x y:Operand} {d:Option Tmp} {ty:TypeId} {ps:String} {ed:Array Edge} {gd:Option (Nat×Bool)}
 {f:Operand->Value} {K:Value->M ρ} {S:St} {r:ρ×St}
def TD.isSl:TD->Bool
 | .slice _ _ _ _ => true
 | _ => false
def j90 (T:TypeId->Option TI) (t:TypeId) (x ix:Value) (K:Value->M ρ):M ρ:=
 jz8 T t λ i=>jyy ix λ _ j=>bif i.d.isSl
  then jys i.d λ _ sz _ _=>jz6 x λ a n _=>jyw (0<=j/\j < n) (jz2 a λ a=>K (.pointer (some (a.add (j.toNat*sz)))))
  else jyi i.d λ n sz _=>jz4 x λ a=>jyw (0<=j/\j < n) (K (.pointer (some (a.add (j.toNat*sz)))))
theorem z8o (hT:TOK P T) (h:j90 T t (f x) (f y) K S=some r):∃ v,K v S=some r/\∀ S,j0z P G ⟨d,.indexAddr t x y,ty,ps,ed,gd⟩ f S v:=by
 obtain ⟨i,hi,h⟩:=jz9 h
 obtain ⟨k,j,hy,h⟩:=jyz h
 rcases j61 h with ⟨_,h⟩ | ⟨_,h⟩
 ·obtain ⟨e,sz,b,z,hd,h⟩:=jyt h
  obtain ⟨a,n,c,hx,h⟩:=jz7 h
  obtain ⟨hj,h⟩:=jyx h
  obtain ⟨a,ha,h⟩:=jz3 h
  obtain ⟨q,ze,hu,h1,_,h2,_⟩:=zdd (hT t i hi) hd
  subst ha
  refine ⟨_,h,λ _ τ a' w hv _=>?_⟩
  have hvx:=hv x (by simp [Op.operands])
  have hvy:=hv y (by simp [Op.operands])
  rw [hx] at hvx;rw [hy] at hvy
  obtain ⟨y',k',hy',_,hr⟩:=hvx.slice_inv
  have hp:VR τ (.pointer (some a)) (.pointer (some y')):=by
   rcases hr with hr | ⟨c',g,hl,hs,rfl,_⟩
   ·exact .ptrDead hr
   ·obtain ⟨_,_,_⟩:=a;cases hs;exact .ptr hl
  obtain ⟨y2,e2,hr2⟩:=hp.ptr_add (j.toNat*sz)
  cases e2
  refine ⟨_,?_,hr2⟩
  simp [execOp,Instr.indexAt,run_underlying hu,hy',hvy.int,asIntOf,hj,z75 w h1,h2]
 ·obtain ⟨n,sz,ag,hd,h⟩:=jyj h
  obtain ⟨a,hx,h⟩:=jz5 h
  obtain ⟨hj,h⟩:=jyx h
  obtain ⟨e,q,de,hu,h1,h2,h3,_⟩:=zd6 (hT t i hi) hd
  refine ⟨_,h,λ _ τ a' w hv _=>?_⟩
  have hvx:=hv x (by simp [Op.operands])
  have hvy:=hv y (by simp [Op.operands])
  rw [hx] at hvx;rw [hy] at hvy
  obtain ⟨y2,e2,hr2⟩:=hvx.ptr_add (j.toNat*sz)
  refine ⟨_,?_,hr2⟩
  simp [execOp,Instr.indexAt,run_underlying hu,e2,hvy.int,asIntOf,hj,z75 w h1,h3,Instr.sureAddr]
def j8z (T:TypeId->Option TI) (t:TypeId) (x ix:Value) (K:Value->M ρ):M ρ:=
 jz8 T t λ i=>jyy ix λ _ j=>jyi i.d λ n sz ag=>jyc x λ l=>jyw (0<=j/\j < n) (jz2 (z07 ag l (j.toNat*sz) sz) λ v=>z2e ((z07 ag l 0 sz).getD zdj) v K)
theorem z8n (hT:TOK P T) (h:j8z T t (f x) (f y) K S=some r):∃ v,K v S=some r/\∀ S,j0z P G ⟨d,.index t x y,ty,ps,ed,gd⟩ f S v:=by
 obtain ⟨i,hi,h⟩:=jz9 h
 obtain ⟨k,j,hy,h⟩:=jyz h
 obtain ⟨n,sz,ag,hd,h⟩:=jyj h
 obtain ⟨l,hx,h⟩:=jyd h
 obtain ⟨hj,h⟩:=jyx h
 obtain ⟨v,hp,h⟩:=jz3 h
 obtain ⟨e,q,de,hu,h1,h2,h3,h4⟩:=zd6 (hT t i hi) hd
 refine ⟨_,z2f h,λ _ τ a' w hv _=>?_⟩
 have hvx:=hv x (by simp [Op.operands])
 have hvy:=hv y (by simp [Op.operands])
 rw [hx] at hvx;rw [hy] at hvy
 obtain ⟨l',hl',hvl⟩:=hvx.agg_inv
 subst h3 h4
 obtain ⟨v',hrun,hr⟩:=z73 h1 h2 hvl hp w
 refine ⟨v',?_,hr⟩
 simp [execOp,Instr.index,run_underlying hu,hl',hvy.int,asIntOf,hj,z75 w h1,hrun]
def j8v (x:Value) (n:Nat) (K:Value->M ρ):M ρ:=jza x λ l=>jz2 l[n]? K
theorem z8k {n:Nat} (h:j8v (f x) n K S=some r):∃ v,K v S=some r/\∀ S,j0z P G ⟨d,.extract x n,ty,ps,ed,gd⟩ f S v:=by
 obtain ⟨l,hx,h⟩:=jzb h
 obtain ⟨v,hn,h⟩:=jz3 h
 refine ⟨_,h,λ _ τ a' w hv _=>?_⟩
 have hvx:=hv x (by simp [Op.operands])
 rw [hx] at hvx
 obtain ⟨l',hl',hvl⟩:=hvx.tuple_inv
 obtain ⟨v',h1,h2⟩:=hvl.get hn
 exact ⟨v',by simp [execOp,Instr.extract,hl',h1],h2⟩
def bnd (v:Option Value) (dflt:Nat) (K:Int->M ρ):M ρ:=match v with
 | none => K dflt
 | some v => jyy v λ _ n => K n
theorem j6b {v:Option Value} {dflt:Nat} {K:Int->M ρ} (h:bnd v dflt K S=some r) :
 ∃ n:Int,(v=none/\n=(dflt:Int)\/∃ k,v=some (.int k n))/\K n S=some r:=by
 cases v with
 | none => exact ⟨_, .inl ⟨rfl, rfl⟩, h⟩
 | some v => obtain ⟨k, n, rfl, h⟩ := jyz h; exact ⟨n, .inr ⟨k, rfl⟩, h⟩
def jbm (a:Addr):M Unit:=λ S=>match S[a.block]? with
 | some (.cells _ _ none) => some ((), S)
 | _ => none
theorem jbn {a:Addr} {S S':St} {u:Unit} (h:jbm a S=some (u,S')):S'=S/\∀ τ w b g,HR G τ S w->τ a.block = .live b g->g=none:=by
 unfold jbm at h
 split at h
 ·rename_i c e hc
  cases h
  refine ⟨rfl,λ τ w b g hr hl=>?_⟩
  obtain ⟨o',_,hor⟩:=hr.live _ _ _ _ hl hc
  generalize hx:j00.cells c e none=xx at hor
  cases hor with
  | cells _ _ _=>
    injection hx with _ _ hx
    cases g with
    | none=>rfl
    | some _=>cases hx
  | ro _=>cases hx
  | map _=>cases hx
 ·cases h
def j8c (ok rest:Bool) (sz:Nat) (a:Option Addr) (c:Nat) (l h m:Int):M Sl:=
 jr0 (ok=true/\0<=l/\l<=h/\h<=m/\m<=c) (M.ret (bif decide (l=m) && rest then ⟨a.map λ _=>⟨0,0,none⟩,0,0⟩
  else ⟨bif decide (l=m) then a else a.map (·.add (l.toNat*sz)),h.toNat-l.toNat,m.toNat-l.toNat⟩))
theorem j8d {ok rest:Bool} {sz:Nat} {a:Option Addr} {c:Nat} {l h m:Int} {S S':St} {s:Sl} (e:j8c ok rest sz a c l h m S=some (s,S')) :
 S'=S/\(ok=true/\0<=l/\l<=h/\h<=m/\m<=c)/\s=(bif decide (l=m) && rest then ⟨a.map λ _=>⟨0,0,none⟩,0,0⟩
 else ⟨bif decide (l=m) then a else a.map (·.add (l.toNat*sz)),h.toNat-l.toNat,m.toNat-l.toNat⟩):=by
 unfold j8c jr0 at e
 split at e
 ·cases e;exact ⟨rfl,‹_›,rfl⟩
 ·cases e
def j9n (T:TypeId->Option TI) (t:TypeId) (x:Value) (lo hi mx:Option Value) (K:Value->M ρ):M ρ:=
 jz8 T t λ i=>jys i.d λ _ sz _ _=>jz6 x λ a n c=>bnd mx c λ m=>bnd hi n λ h=>bnd lo 0 λ l=>
  M.bind (j8c (!mx.isSome || hi.isSome) mx.isNone sz a c l h m) λ s=>K (.slice s.a s.n s.c)
def j9m (T:TypeId->Option TI) (t:TypeId) (x:Value) (lo hi mx:Option Value) (K:Value->M ρ):M ρ:=
 jz8 T t λ i=>jyi i.d λ n sz _=>jz4 x λ a=>M.bind (jbm a) λ _=>bnd mx n λ m=>bnd hi n λ h=>bnd lo 0 λ l=>
  jyw ((mx.isSome=true->hi.isSome=true)/\0<=l/\l<=h/\h<=m/\m<=n) (K (.slice (some (bif decide (l=m) then a else a.add (l.toNat*sz))) (h.toNat-l.toNat) (m.toNat-l.toNat)))
theorem z71 {isSl:Bool} {n c:Nat} {lo hi mx:Option Value} {l h m:Int} (hl:lo=none/\l=0\/∃ k,lo=some (.int k l))
 (hh:hi=none/\h=n\/∃ k,hi=some (.int k h)) (hm:mx=none/\m=c\/∃ k,mx=some (.int k m)) (hx:mx.isSome=true->hi.isSome=true)
 (hb:0<=l/\l<=h/\h<=m/\m<=c) (w:World):(Instr.sliceBounds isSl n c lo hi mx).run P w = .ok (l.toNat,h.toNat,m.toNat) w:=by
 obtain ⟨b1,b2,b3,b4⟩:=hb
 have c1:0<=h:=by omega
 have c2:0<=m:=by omega
 have c3:h<=(m.toNat:Int):=by omega
 have c4:l<=(h.toNat:Int):=by omega
 rcases hl with ⟨rfl,rfl⟩ | ⟨kl,rfl⟩ <;> rcases hh with ⟨rfl,rfl⟩ | ⟨kh,rfl⟩ <;> rcases hm with ⟨rfl,rfl⟩ | ⟨km,rfl⟩ <;>
  first
  | (simp at hx;done)
  | (simp_all [Instr.sliceBounds,Instr.sliceBound,asIntOf]; done)
  | (have c5:h<=(c:Int):=by omega
     simp_all [Instr.sliceBounds,Instr.sliceBound,asIntOf]; done)
theorem j6a {τ:Nat->Tag} {a:Act} {v:Option Operand} {dflt:Nat} {n:Int} (h:v.map f=none/\n=(dflt:Int)\/∃ k,v.map f=some (.int k n))
 (hv:∀ z∈v,VR τ (f z) (a.eval z)) (dflt':Nat) (hd:v=none->n=(dflt':Int)) :
 v.map a.eval=none/\n=(dflt':Int)\/∃ k,v.map a.eval=some (.int k n):=by
 cases v with
 | none => exact .inl ⟨rfl, hd rfl⟩
 | some z =>
   rcases h with ⟨h,_⟩ | ⟨k,h⟩
   ·cases h
   ·simp at h
    have:=hv z rfl
    rw [h] at this
    exact .inr ⟨k,by simp [this.int]⟩
theorem z9a {lo hi mx:Option Operand} {τ:Nat->Tag} {a:Act} (hv:∀ z∈(Op.slice t x lo hi mx).operands,VR τ (f z) (a.eval z)) :
 VR τ (f x) (a.eval x)/\(∀ z∈lo,VR τ (f z) (a.eval z))/\(∀ z∈hi,VR τ (f z) (a.eval z))/\(∀ z∈mx,VR τ (f z) (a.eval z)):=by
 refine ⟨hv x (by simp [Op.operands]),?_,?_,?_⟩ <;> (intro z hz;cases hz;exact hv z (by simp [Op.operands]))
theorem z94 (hT:TOK P T) {lo hi mx:Option Operand} (h:j9n T t (f x) (lo.map f) (hi.map f) (mx.map f) K S=some r) :
 ∃ v,K v S=some r/\∀ S,j0z P G ⟨d,.slice t x lo hi mx,ty,ps,ed,gd⟩ f S v:=by
 obtain ⟨i,hi',h⟩:=jz9 h
 obtain ⟨e,sz,b,z,hd,h⟩:=jyt h
 obtain ⟨a,n,c,hx,h⟩:=jz7 h
 obtain ⟨m,hm,h⟩:=j6b h
 obtain ⟨u,hu,h⟩:=j6b h
 obtain ⟨l,hl,h⟩:=j6b h
 obtain ⟨s9,S9,e9,h⟩:=M.bind_some h
 obtain ⟨q9,⟨hmx,b1,b2,b3,b4⟩,rfl⟩:=j8d e9
 rw [q9] at h
 clear q9
 clear e9
 have hmx:(mx.map f).isSome=true->(hi.map f).isSome=true:=by
  intro e;rw [e] at hmx;simpa using hmx
 have h:(bif decide (l=m) && (mx.map f).isNone then K (.slice (a.map λ _=>⟨0,0,none⟩) 0 0)
  else K (.slice (bif decide (l=m) then a else a.map (·.add (l.toNat*sz))) (u.toNat-l.toNat) (m.toNat-l.toNat))) S=some r:=by
  cases hq:decide (l=m) && (mx.map f).isNone <;> (rw [hq] at h;exact h)
 obtain ⟨q,ze,hty,h1,_,h2,_⟩:=zdd (hT t i hi') hd
 have hmx':∀ (a:Act),(mx.map a.eval).isSome=true->(hi.map a.eval).isSome=true:=by intro a;simpa using hmx
 rcases j61 h with ⟨hc,h⟩ | ⟨hc,h⟩
 ·simp at hc
  obtain ⟨hc,hmn⟩:=hc
  have hmc:m=(c:Int):=by
   rcases hm with ⟨_,hm⟩ | ⟨k,hm⟩
   ·exact hm
   ·rw [hmn] at hm;cases hm
  have hul:u=l:=by omega
  refine ⟨_,h,λ _ τ a' w hv hr=>?_⟩
  obtain ⟨o1,o2,o3,_⟩:=z9a hv
  rw [hx] at o1
  have hl2:=j6a hl o2 0 (λ e=>by subst e;simpa using hl)
  have hu2:=j6a hu o3 n (λ e=>by subst e;simpa using hu)
  subst hmn
  cases a with
  | none=>
    have hy:=o1.snil
    refine ⟨.slice none 0 0,?_,.flat rfl⟩
    have hb:=z71 (isSl:=true) (n:=n) (c:=c) (mx:=none) (m:=(c:Int)) hl2 hu2 (.inl ⟨rfl,rfl⟩)
     (by simp) ⟨by omega,by omega,by omega,by omega⟩ (P:=P) w
    have e1:u.toNat-l.toNat=0:=by omega
    have e2:c-l.toNat=0:=by omega
    simp [execOp,Instr.sliceAt,Instr.slice,run_underlying hty,hy,hb,z75 w h1,e1,e2]
  | some a=>
    obtain ⟨y',k',hy,hck,hrel⟩:=o1.slice_inv
    have hb:=z71 (isSl:=true) (n:=n) (c:=k') (mx:=none) (m:=(k':Int)) hl2 hu2 (.inl ⟨rfl,rfl⟩)
     (by simp) ⟨by omega,by omega,by omega,by omega⟩ (P:=P) w
    have e1:u.toNat-l.toNat=0:=by omega
    refine ⟨.slice (some (if k'=l.toNat then y' else y'.add (l.toNat*sz))) 0 (k'-l.toNat),?_,.sliceDead hr.zero (by omega)⟩
    simp [execOp,Instr.sliceAt,Instr.slice,run_underlying hty,hy,hb,z75 w h1,e1,h2]
    split <;> simp
 ·have hlm:l.toNat=m.toNat↔l=m:=by omega
  refine ⟨_,h,λ _ τ a' w hv hr=>?_⟩
  obtain ⟨o1,o2,o3,o4⟩:=z9a hv
  rw [hx] at o1
  have hl2:=j6a hl o2 0 (λ e=>by subst e;simpa using hl)
  have hu2:=j6a hu o3 n (λ e=>by subst e;simpa using hu)
  cases a with
  | none=>
    have hy:=o1.snil
    have hm2:=j6a hm o4 c (λ e=>by subst e;simpa using hm)
    have hb:=z71 (isSl:=true) hl2 hu2 hm2 (hmx' a') ⟨b1,b2,b3,b4⟩ (P:=P) w
    refine ⟨.slice none (u.toNat-l.toNat) (m.toNat-l.toNat),?_,?_⟩
    ·simp only [Option.map_none] at *
     simp [execOp,Instr.sliceAt,Instr.slice,run_underlying hty,hy,hb,z75 w h1]
    ·cases decide (l=m) <;> exact .flat rfl
  | some a=>
    obtain ⟨y',k',hy,hck,hrel⟩:=o1.slice_inv
    obtain ⟨m',hm2,hmm⟩:∃ m':Int,(mx.map a'.eval=none/\m'=(k':Int)\/∃ k,mx.map a'.eval=some (.int k m')) /\
     (mx=none/\m=c/\m'=k'\/mx.isSome=true/\m'=m):=by
     cases mx with
     | none=>
       rcases hm with ⟨_,hm⟩ | ⟨k,hm⟩
       ·exact ⟨k',.inl ⟨rfl,rfl⟩,.inl ⟨rfl,hm,rfl⟩⟩
       ·cases hm
     | some z=>
       exact ⟨m,j6a hm o4 k' (λ e=>by cases e),.inr ⟨rfl,rfl⟩⟩
    have hlem:m<=m':=by rcases hmm with ⟨_,p,q⟩ | ⟨_,p⟩ <;> omega
    have hb:=z71 (isSl:=true) hl2 hu2 hm2 (hmx' a') ⟨b1,b2,by omega,by rcases hmm with ⟨_,p,q⟩ | ⟨_,p⟩ <;> omega⟩ (P:=P) w
    refine ⟨.slice (some (if m'=l then y' else y'.add (l.toNat*sz))) (u.toNat-l.toNat) (m'.toNat-l.toNat),?_,?_⟩
    ·have : m'.toNat=l.toNat↔m'=l:=by omega
     simp [execOp,Instr.sliceAt,Instr.slice,run_underlying hty,hy,hb,z75 w h1,h2,this]
     split <;> simp
    ·have hdec:m'=l↔l=m:=by
      constructor
      ·intro e;omega
      ·intro e
       rcases hmm with ⟨p,q,q'⟩ | ⟨p,q⟩
       ·subst p;simp [e] at hc
       ·omega
     have key:VR τ (.slice (some (if l=m then a else a.add (l.toNat*sz))) (u.toNat-l.toNat) (m.toNat-l.toNat))
      (.slice (some (if m'=l then y' else y'.add (l.toNat*sz))) (u.toNat-l.toNat) (m'.toNat-l.toNat)):=by
      have hb:∀ j,(a.add j).block=a.block:=λ j=>by unfold Addr.add;split <;> rfl
      rcases hrel with hrel | ⟨c',g,hlv,hs,rfl,hg,hgp⟩
      ·refine .sliceDead ?_ (by omega)
       split
       ·exact hrel
       ·rw [hb]; exact hrel
      ·obtain ⟨ab,ao,as⟩:=a
       cases hs
       have hkk:g=none->m'.toNat-l.toNat=m.toNat-l.toNat:=by
        intro e
        have:=hg e
        rcases hmm with ⟨_,p,q⟩ | ⟨_,p⟩ <;> omega
       have hm'k:m'.toNat<=k':=by rcases hmm with ⟨_,p,q⟩ | ⟨_,p⟩ <;> omega
       have hle:∀ p:Nat×Nat,k'*p.1<=p.2->(m'.toNat-l.toNat)*p.1<=p.2:=λ p hp=>
        Nat.le_trans (Nat.mul_le_mul_right _ (by omega)) hp
       by_cases e:l=m
       ·rw [if_pos e,if_pos (hdec.2 e)]
        exact .slice hlv hkk (by omega) λ p hp ho=>hle p (hgp p hp ho)
       ·rw [if_neg e,if_neg (λ q=>e (hdec.1 q)),Addr.add_none,Addr.add_none]
        exact .slice hlv hkk (by omega) λ p hp ho=>hle p (hgp p hp (by dsimp only;omega))
     have hid:(bif decide (l=m) then some a else Option.map (λ x=>x.add (l.toNat*sz)) (some a))=some (if l=m then a else a.add (l.toNat*sz)):=by
      by_cases e:l=m <;> simp [e]
     rw [hid]
     exact key
theorem z93 (hT:TOK P T) {lo hi mx:Option Operand} (h:j9m T t (f x) (lo.map f) (hi.map f) (mx.map f) K S=some r) :
 ∃ v,K v S=some r/\j0z P G ⟨d,.slice t x lo hi mx,ty,ps,ed,gd⟩ f S v:=by
 obtain ⟨i,hi',h⟩:=jz9 h
 obtain ⟨n,sz,ag,hd,h⟩:=jyj h
 obtain ⟨a,hx,h⟩:=jz5 h
 obtain ⟨_,S9,hex,h9⟩:=M.bind_some h
 clear h
 obtain ⟨hS9,hex⟩:=jbn (G:=G) hex
 subst hS9
 obtain ⟨m,hm,h⟩:=j6b h9
 obtain ⟨u,hu,h⟩:=j6b h
 obtain ⟨l,hl,h⟩:=j6b h
 obtain ⟨⟨hmx,b1,b2,b3,b4⟩,h⟩:=jyx h
 obtain ⟨e,q,de,hty,h1,h2,h3,h4⟩:=zd6 (hT t i hi') hd
 have hmx':∀ (a:Act),(mx.map a.eval).isSome=true->(hi.map a.eval).isSome=true:=by intro a;simpa using hmx
 refine ⟨_,h,λ τ a' w hv hr=>?_⟩
 obtain ⟨o1,o2,o3,o4⟩:=z9a hv
 rw [hx] at o1
 have hl2:=j6a hl o2 0 (λ e=>by subst e;simpa using hl)
 have hu2:=j6a hu o3 n (λ e=>by subst e;simpa using hu)
 have hm2:=j6a hm o4 n (λ e=>by subst e;simpa using hm)
 have hb:=z71 (isSl:=false) hl2 hu2 hm2 (hmx' a') ⟨b1,b2,b3,b4⟩ (P:=P) w
 obtain ⟨y',hy,hrel⟩:=o1.ptr_inv
 refine ⟨.slice (some (if m=l then y' else y'.add (l.toNat*sz))) (u.toNat-l.toNat) (m.toNat-l.toNat),?_,?_⟩
 ·have : m.toNat=l.toNat↔m=l:=by omega
  simp [execOp,Instr.sliceAt,run_underlying hty,hy,Instr.sureAddr,hb,z75 w h1,h3,this]
 ·have hbl:∀ j,(a.add j).block=a.block:=λ j=>by unfold Addr.add;split <;> rfl
  have hid:(bif decide (l=m) then a else a.add (l.toNat*sz))=(if l=m then a else a.add (l.toNat*sz)):=by
   by_cases e:l=m <;> simp [e]
  rw [hid]
  rcases hrel with hrel | ⟨c',g,hlv,hs,rfl⟩
  ·refine .sliceDead ?_ (by omega)
   split
   ·exact hrel
   ·rw [hbl]; exact hrel
  ·have hg:=hex _ _ _ _ hr hlv
   have hpt:∀ {o k:Nat} (p:Nat×Nat),g=some p->o=0->k*p.1<=p.2:=λ p hp=>by rw [hg] at hp;cases hp
   obtain ⟨ab,ao,as⟩:=a
   cases hs
   by_cases e:l=m
   ·rw [if_pos e,if_pos e.symm]
    exact .slice hlv (λ _=>rfl) (Nat.le_refl _) hpt
   ·rw [if_neg e,if_neg (λ q=>e q.symm),Addr.add_none,Addr.add_none]
    exact .slice hlv (λ _=>rfl) (Nat.le_refl _) hpt
end Go.AM
namespace Go.AM
open Go
variable {P:Program} {G:List (Nat×Obj)} {ρ:Type}
variable {T:TypeId->Option TI} {t:TypeId} {x y:Operand} {d:Option Tmp} {ty:TypeId} {ps:String} {ed:Array Edge} {gd:Option (Nat×Bool)}
 {f:Operand->Value} {K:Value->M ρ} {S:St} {r:ρ×St}
def zht (n:Nat) (z:List Value):List Value:=(List.range (n*z.length)).map λ i=>z.getD (i % z.length) undef
theorem zhw {n:Nat} {z:List Value} (h:z.all jcs=true) (hz:z.length≠0):∀ v∈zht n z,jcs v=true:=by
 intro v hv
 simp [zht] at hv
 obtain ⟨i,hi,rfl⟩:=hv
 have : i % z.length < z.length:=Nat.mod_lt _ (by omega)
 rw [List.getElem?_eq_getElem this]
 exact List.all_eq_true.1 h _ (List.getElem_mem this)
theorem zhu {n m:Nat} {z:Array Value} (hm:z.size=m):madeCells z (n*m)=⟨zht n z.toList⟩:=by
 subst hm
 unfold madeCells
 apply Array.toList_inj.1
 simp only [Array.toList_map,Array.toList_range,zht,Array.length_toList]
 apply List.map_congr_left
 intro i hi
 simp at hi
 have h0:z.size≠0:=by
  intro e;rw [e] at hi;simp at hi
 have : i % z.size < z.size:=Nat.mod_lt _ (by omega)
 simp [this]
def slN (n c:Nat) (b:Nat):Value:=.slice (some ⟨b,0,none⟩) n c
theorem j01.sl {o:Oper} {e:TypeId} {l:List Value} {n c:Nat}
 (h:∀ (τ:Nat->Tag) (a:Act) (w:World),(∀ x∈o.op.operands,VR τ (f x) (a.eval x)) ->
   ∃ l',VRs τ l l'/\(execOp a.eval o).run P w = .ok (.value (.slice (some ⟨w.heap.size,0,none⟩) n c)) (zfm w (.cells ⟨l'⟩ e))) :
 j01 P o f (.cells l e none) (slN n c) where
 run:=λ τ a w hv=>by
  obtain ⟨l',h1,h2⟩:=h τ a w hv
  have:=OR.cells (e:=e) (m:=[]) (g:=none) h1 (λ _=>rfl) (λ _ q=>by cases q)
  exact ⟨_,by simpa using this,h2⟩
 val:=λ τ m b h=>.slice h (λ _=>rfl) (Nat.le_refl _) (λ _ q=>by cases q)
def j98 (T:TypeId->Option TI) (t:TypeId) (l c:Value) (K:Value->M ρ):M ρ:=
 jz8 T t λ i=>jys i.d λ e _ b z=>jyy l λ _ l=>jyy c λ _ c=>
  jyw (0<=l/\l<=c/\c<=281474976710656/\b*c<=281474976710656/\z.all jcs=true)
   (M.bind (jxx (.cells (zht c.toNat z) e none)) λ n=>K (slN l.toNat c.toNat n))
theorem z8v (hT:TOK P T) (h:j98 T t (f x) (f y) K S=some r):∃ o mk,K (mk S.length) (S++[o])=some r/\j01 P ⟨d,.makeSlice t x y,ty,ps,ed,gd⟩ f o mk:=by
 obtain ⟨i,hi,h⟩:=jz9 h
 obtain ⟨e,sz,b,z,hd,h⟩:=jyt h
 obtain ⟨k1,l,hx,h⟩:=jyz h
 obtain ⟨k2,c,hy,h⟩:=jyz h
 obtain ⟨⟨h0,hlc,hc,hbc,hf⟩,h⟩:=jyx h
 obtain ⟨n,S',hn,hk⟩:=M.bind_some h
 injection hn with hn
 injection hn with hn1 hn2
 subst hn1 hn2
 obtain ⟨q,ze,hu,h1,h2,h3,h4,h5,h6,h7⟩:=zdd (hT t i hi) hd
 refine ⟨_,_,hk,.sl λ τ a w hv=>⟨zht c.toNat z,VRs.self λ v hv=>.flat (zhw hf (by omega) v hv),?_⟩⟩
 have hvx:=hv x (by simp [Op.operands])
 have hvy:=hv y (by simp [Op.operands])
 rw [hx] at hvx;rw [hy] at hvy
 have hzs:ze.cells.size=sz:=by rw [<- Array.length_toList,h5,h6]
 have hrun:=run_make (P:=P) w t e q ze hu h1 h2 k1 k2 l c h0 hlc (by rw [h4]; exact hbc) (by omega)
 simp only [execOp,hvx.int,hvy.int,Sem.run_bind,hrun,Result.andThen_ok,Sem.run_pure,h3]
 have : madeCells ze.cells (c.toNat*sz)=⟨zht c.toNat z⟩:=by
  rw [<- h5,<- zhu hzs]
 rw [this]; rfl
def jc2 (place:Nat->Option (Nat×Nat)):List Value->List (Nat×Value)->Option (List Value)
 | cells, [] => some cells
 | cells, (i, v) :: rest =>
   match place i,j6x v with
   | some (off,size),some l=>if l.length=size/\off+size<=cells.length then jc2 place (splice cells off l) rest else none
   | _,_=>none
theorem z9t {c l:List Value} {o j:Nat} (h:o+l.length<=c.length) :
 (splice c o l)[j]? = if j < o then c[j]? else if j < o+l.length then l[j-o]? else c[j]?:=by
 unfold splice
 have h1:min o c.length=o:=by omega
 by_cases a:j < o
 ·rw [if_pos a,List.append_assoc,List.getElem?_append_left (by simp;omega),List.getElem?_take,if_pos a]
 ·rw [if_neg a,List.append_assoc,List.getElem?_append_right (by simp;omega),List.length_take,h1]
  by_cases b:j < o+l.length
  ·rw [if_pos b,List.getElem?_append_left (by omega)]
  ·rw [if_neg b,List.getElem?_append_right (by omega),List.getElem?_drop]
   congr 1;omega
theorem jdd:∀ (l:List Value) (k:Nat) (c:Array Value) (off:Nat),off+k+l.length<=c.size ->
 (l.zipIdx k).foldl (λ (cs:Array Value) (x:Value×Nat)=>cs.setIfInBounds (off+x.2) x.1) c=⟨splice c.toList (off+k) l⟩
 | [], k, c, off, h => by
   apply Array.toList_inj.1
   simp [splice]
 | v :: l, k, c, off, h => by
   simp only [List.zipIdx_cons,List.foldl_cons]
   simp only [List.length_cons] at h
   rw [jdd l (k+1) _ off (by simp;omega)]
   apply Array.toList_inj.1
   apply List.ext_getElem?
   intro j
   dsimp only
   rw [z9t (by simp;omega),z9t (by simp;omega)]
   simp only [Array.toList_setIfInBounds,List.getElem?_set,List.length_cons,Array.length_toList]
   by_cases h1:j < off+k
   ·rw [if_pos (by omega),if_pos h1,if_neg (by omega)]
   ·rw [if_neg h1]
    by_cases h2:j=off+k
    ·subst h2
     rw [if_pos (by omega),if_pos rfl,if_pos (by omega),if_pos (by omega)]
     simp
    ·rw [if_neg (by omega)]
     by_cases h3:j < off+k+(l.length+1)
     ·rw [if_pos (by omega),if_pos h3]
      have : j-(off+k)=(j-(off+(k+1)))+1:=by omega
      rw [this,List.getElem?_cons_succ]
     ·rw [if_neg (by omega),if_neg h3,if_neg (by omega)]
theorem jc3 {place:Nat->Option (Nat×Nat)} {τ:Nat->Tag}:∀ {ps:List (Nat×Value)} {ps':List (Nat×Value)} {c c':List Value} {m:List Value},
 jc2 place c ps=some m->VRs τ c c'->ps.length=ps'.length->(∀ (n:Nat) p p',ps[n]? = some p->ps'[n]? = some p'->p.1=p'.1/\VR τ p.2 p'.2) ->
 ∃ m',Instr.fill place ⟨c'⟩ ps'=some ⟨m'⟩/\VRs τ m m'
 | [], [], c, c', m, h, hv, _, _ => by
   cases h;exact ⟨c',rfl,hv⟩
 | [], _ :: _, _, _, _, _, _, hl, _ => by simp at hl
 | _ :: _, [], _, _, _, _, _, hl, _ => by simp at hl
 | (i, v) :: ps, (i', v') :: ps', c, c', m, h, hv, hl, hp => by
   unfold jc2 at h
   split at h
   ·rename_i off size l hpl hc
    split at h
    ·rename_i hcond
     obtain ⟨e,hvv⟩:=hp 0 _ _ rfl rfl
     dsimp only at e hvv
     subst e
     obtain ⟨l',hl',hvl⟩:=hvv.cells hc
     have hlen:=hvl.length
     have hclen:=hv.length
     obtain ⟨d',hd',hde⟩:=hv.splice (m:=[]) hvl (o:=off) (by omega)
     obtain ⟨m',h1,h2⟩:=jc3 (ps:=ps) (ps':=ps') h hd' (by simpa using hl) λ n p p' a b=>hp (n+1) p p' a b
     refine ⟨m',?_,h2⟩
     have hsz:v'.cells.size=size:=by rw [hl']; simp;omega
     unfold Instr.fill
     simp only [hpl]
     rw [if_neg (by rw [hsz]; simp;omega)]
     have hfold:=jdd l' 0 ⟨c'⟩ off (by simp;omega)
     have : v'.cells.zipIdx.foldl (λ (cs:Array Value) (x:Value×Nat)=>cs.setIfInBounds (off+x.2) x.1) (⟨c'⟩:Array Value)=⟨d'⟩:=by
      rw [hl',<- Array.foldl_toList,Array.toList_zipIdx]
      have e2:splice c' (off+0) l'=d':=by simpa [splice] using hde
      rw [<- e2]
      exact hfold
     rw [this]
     exact h1
    ·cases h
   ·cases h
def j8m (T:TypeId->Option TI) (t:TypeId) (parts:List (Nat×Value)) (K:Value->M ρ):M ρ:=
 jz8 T t λ i=>jyw (i.zero.cells.toList.all jcs=true/\i.ag=true) (match i.d with
  | .struct fs=>jz2 (jc2 (λ n=>(fs[n]?).map λ q=>(q.1,q.2.1)) i.zero.cells.toList parts) λ l=>K (.agg ⟨l⟩)
  | .array _ sz _=>jz2 (jc2 (λ n=>some (n*sz,sz)) i.zero.cells.toList parts) λ l=>K (.agg ⟨l⟩)
  | _=>M.fail)
theorem z08 {τ:Nat->Tag} {a:Act} {ps:List (Nat×Operand)} (hv:∀ z∈ps.map (·.2),VR τ (f z) (a.eval z)) (n:Nat) (p p':Nat×Value)
 (h:(ps.map λ (q:Nat×Operand)=>(q.1,f q.2))[n]? = some p) (h':(ps.map λ (q:Nat×Operand)=>(q.1,a.eval q.2))[n]? = some p'):p.1=p'.1/\VR τ p.2 p'.2:=by
 simp at h h'
 obtain ⟨i,o,h1,rfl⟩:=h
 obtain ⟨i',o',h2,rfl⟩:=h'
 rw [h1] at h2
 cases h2
 refine ⟨rfl,hv o ?_⟩
 have:=List.mem_of_getElem? h1
 exact List.mem_map.2 ⟨(i,o),this,rfl⟩
theorem z16:∀ {L:List Field} {fs:List (Nat×Nat×Bool)},L.mapM (jca P)=some fs ->
 L.mapM (λ f=>(P.info? f.type).map λ i=>(f.offset,i.size))=some (fs.map λ q=>(q.1,q.2.1))
 | [], fs, hm => by simp at hm; subst hm; rfl
 | u :: L, fs, hm => by
   simp only [List.mapM_cons] at hm ⊢
   cases hg:jca P u with
   | none=>rw [hg] at hm;cases hm
   | some c=>
     rw [hg] at hm
     cases hl:L.mapM (jca P) with
     | none=>rw [hl] at hm;cases hm
     | some m'=>
       rw [hl] at hm
       cases hm
       obtain ⟨fi,fd,g1,_,_,hq⟩:=jcb hg
       rw [z16 hl]
       simp [g1,hq]
theorem z8d (hT:TOK P T) {ps':Array (Nat×Operand)} (h:j8m T t (ps'.toList.map λ q=>(q.1,f q.2)) K S=some r) :
 ∃ v,K v S=some r/\∀ S,j0z P G ⟨d,.build t ps',ty,ps,ed,gd⟩ f S v:=by
 obtain ⟨i,hi,h⟩:=jz9 h
 obtain ⟨⟨hf,hag⟩,h⟩:=jyx h
 obtain ⟨info,ds,h1,h2,hz,hsz,hb,hag',hd⟩:=zd7 (hT t i hi)
 have hz0:∀ τ,VRs τ i.zero.cells.toList i.zero.cells.toList:=λ τ=>VRs.self λ v hv=>.flat (List.all_eq_true.1 hf v hv)
 have hops:∀ {τ:Nat->Tag} {a:Act},(∀ z∈(Op.build t ps').operands,VR τ (f z) (a.eval z))->∀ z∈ps'.toList.map (·.2),VR τ (f z) (a.eval z):=
  λ hv z hz=>hv z (by simpa [Op.operands] using hz)
 have harr:∀ a:Act,(ps'.map λ (i,x)=>(i,a.eval x)).toList=ps'.toList.map λ q=>(q.1,a.eval q.2):=λ a=>by simp
 generalize hdd:i.d=dd at h
 cases dd with
 | struct fs =>
   obtain ⟨l,hl,h⟩:=jz3 h
   obtain ⟨fl,hu,hm⟩:=zde (hT t i hi) hdd
   refine ⟨_,h,λ _ τ a w hv _=>?_⟩
   obtain ⟨l',h3,h4⟩:=jc3 (ps':=ps'.toList.map λ q=>(q.1,a.eval q.2)) hl (hz0 τ) (by simp) (z08 (hops hv))
   refine ⟨.agg ⟨l'⟩,?_,.agg h4⟩
   have hpl:=z16 hm
   have hrun:=run_build (P:=P) w t (ps'.map λ (i,x)=>(i,a.eval x)) ⟨l'⟩ (by
    unfold Program.built
    simp only [h1,hu,hz,hpl,harr]
    rw [<- h3]
    congr 1
    funext n
    simp [List.getElem?_map])
   simp only [execOp,Sem.run_bind,hrun,Result.andThen_ok,Sem.run_pure]
 | array n sz ag =>
   obtain ⟨l,hl,h⟩:=jz3 h
   obtain ⟨e,q,de,hu,g1,g2,g3,g4⟩:=zd6 (hT t i hi) hdd
   refine ⟨_,h,λ _ τ a w hv _=>?_⟩
   obtain ⟨l',h3,h4⟩:=jc3 (ps':=ps'.toList.map λ q=>(q.1,a.eval q.2)) hl (hz0 τ) (by simp) (z08 (hops hv))
   refine ⟨.agg ⟨l'⟩,?_,.agg h4⟩
   have hrun:=run_build (P:=P) w t (ps'.map λ (i,x)=>(i,a.eval x)) ⟨l'⟩ (by
    unfold Program.built
    simp only [h1,hu,hz,g1,harr]
    rw [<- h3,g3])
   simp only [execOp,Sem.run_bind,hrun,Result.andThen_ok,Sem.run_pure]
 | _ => cases h
def j8n (T:TypeId->Option TI) (t:TypeId) (n:Nat) (parts:List (Nat×Value)) (K:Value->M ρ):M ρ:=
 jz8 T t λ i=>jys i.d λ e sz _ z=>jyw (n*sz<=16777216/\z.all jcs=true)
  (jz2 (jc2 (λ k=>some (k*sz,sz)) (zht n z) parts) λ l=>M.bind (jxx (.cells l e none)) λ b=>K (slN n n b))
theorem z8e (hT:TOK P T) {n:Nat} {ps':Array (Nat×Operand)} (h:j8n T t n (ps'.toList.map λ q=>(q.1,f q.2)) K S=some r) :
 ∃ o mk,K (mk S.length) (S++[o])=some r/\j01 P ⟨d,.buildSlice t n ps',ty,ps,ed,gd⟩ f o mk:=by
 obtain ⟨i,hi,h⟩:=jz9 h
 obtain ⟨e,sz,b,z,hd,h⟩:=jyt h
 obtain ⟨⟨hc,hf⟩,h⟩:=jyx h
 obtain ⟨l,hl,h⟩:=jz3 h
 obtain ⟨bn,S',hn,hk⟩:=M.bind_some h
 injection hn with hn
 injection hn with hn1 hn2
 subst hn1 hn2
 obtain ⟨q,ze,hu,h1,h2,h3,h4,h5,h6,h7⟩:=zdd (hT t i hi) hd
 refine ⟨_,_,hk,.sl λ τ a w hv=>?_⟩
 obtain ⟨l',g3,g4⟩:=jc3 (ps':=ps'.toList.map λ q=>(q.1,a.eval q.2)) hl (VRs.self λ v hv=>.flat (zhw hf (by omega) v hv):VRs τ _ _) (by simp)
  (z08 λ z hz=>hv z (by simpa [Op.operands] using hz))
 refine ⟨l',g4,?_⟩
 have hzs:ze.cells.size=sz:=by rw [<- Array.length_toList,h5,h6]
 have harr:(ps'.map λ (i,x)=>(i,a.eval x)).toList=ps'.toList.map λ q=>(q.1,a.eval q.2):=by simp
 have hc':¬ (n*sz > 2 ^ 24):=by omega
 have key:(Instr.buildSlice t n (ps'.map λ (i,x)=>(i,a.eval x))).run P w = .ok (.slice (some ⟨w.heap.size,0,none⟩) n n) (zfm w (.cells ⟨l'⟩ e)):=by
  by_cases e0:n*sz=0
  ·have en:n=0:=by
    rcases Nat.mul_eq_zero.1 e0 with h | h
    ·exact h
    ·omega
   subst en
   have hz0:zht 0 z=[]:=by simp [zht]
   rw [hz0] at g3
   have g3':Instr.fill (λ i=>some (i*sz,sz)) #[] (ps'.toList.map λ q=>(q.1,a.eval q.2))=some ⟨l'⟩:=g3
   have ha:∀ g:Nat->Value,Array.map g (Array.range 0) = #[]:=λ g=>by simp
   simp only [Instr.buildSlice,Sem.run_bind,run_underlying hu,Result.andThen_ok,z75 w h1,h3,Nat.zero_mul,if_true,harr,ha,g3']
   simp [zfm,newRow]
  ·have hmc:=zhu (n:=n) hzs
   rw [h5] at hmc
   have g3':Instr.fill (λ i=>some (i*sz,sz)) ((Array.range (n*sz)).map (ze.cells[· % ze.cells.size]!)) (ps'.toList.map λ q=>(q.1,a.eval q.2))=some ⟨l'⟩:=by
    rw [<- g3,<- hmc]; rfl
   simp only [Instr.buildSlice,Sem.run_bind,run_underlying hu,Result.andThen_ok,z75 w h1,h3,if_neg hc',if_neg e0,z77 w h1 h2,Sem.run_pure,harr,g3',newRow,run_newObj]
   simp [zfm]
 simp only [execOp,Sem.run_bind,key,Result.andThen_ok,Sem.run_pure]
def j97 (K:Value->M ρ):M ρ:=M.bind (jxx (.map [] 0)) λ n=>K (.map (some n))
def jwh (n:Nat):Value:=.map (some n)
theorem z8u (h:j97 K S=some r):∃ o mk,K (mk S.length) (S++[o])=some r/\j01 P ⟨d,.makeMap t none,ty,ps,ed,gd⟩ f o mk:=by
 obtain ⟨n,S',hn,hk⟩:=M.bind_some h
 injection hn with hn
 injection hn with hn1 hn2
 subst hn1 hn2
 refine ⟨_,jwh,hk,λ τ a w hv=>⟨.map #[] 0,OR.map .nil,?_⟩,λ τ n b h=>.map h⟩
 simp [execOp,Instr.makeMap,zfm,jwh]
def dTA (T:TypeId->Option TI) (x:Value) (t:TypeId) (ok:Bool) (K:Value->M ρ):M ρ:=
 jz8 T t λ i=>jyw (i.d.noIface=true/\jcp i.zero=true) (M.bind (asF x) λ q=>
  bif decide (q.1=t) then z2k i.zero q.2 λ v=>(bif ok then K (.tuple ⟨[v,.bool true]⟩) else K v) else (bif ok then K (.tuple ⟨[i.zero,.bool false]⟩) else M.fail))
theorem z87 (hT:TOK P T) {xt:TypeId} {ok:Bool} (h:dTA T (f x) t ok K S=some r):∃ v,K v S=some r/\∀ S,j0z P G ⟨d,.typeAssert x xt t ok,ty,ps,ed,gd⟩ f S v:=by
 obtain ⟨i,hi,h⟩:=jz9 h
 obtain ⟨⟨hn,hf⟩,h⟩:=jyx h
 obtain ⟨info,ds,h1,h2,hz,_⟩:=zd7 (hT t i hi)
 have hne:∀ ms,ds≠.interface ms:=λ ms e=>zd9 (hT t i hi) (by intro q;rw [q] at hn;cases hn) ms (by rw [h2,e])
 obtain ⟨⟨t',v⟩,S',hq,h3⟩:=M.bind_some h
 obtain ⟨hx,rfl⟩:=j56 hq
 clear h
 dsimp only at hx h3
 have hvx:∀ {τ:Nat->Tag} {a:Act},(∀ z∈(Op.typeAssert x xt t ok).operands,VR τ (f z) (a.eval z))->VR τ (.iface t' v) (a.eval x):=by
  intro τ a hv
  have:=hv x (by simp [Op.operands])
  rw [hx] at this;exact this
 rcases j61 h3 with ⟨he,h⟩ | ⟨he,h⟩
 ·simp at he
  have h:=z2l h
  rcases j61 h with ⟨ho,h9⟩ | ⟨ho,h9⟩ <;> subst he ho
  ·refine ⟨_,h9,λ _ τ a w hv _=>?_⟩
   obtain ⟨v',hv',hr⟩:=(hvx hv).iface_inv
   refine ⟨.tuple ⟨[v',.bool true]⟩,?_,.tuple (.cons hr (.cons (.flat rfl) .nil))⟩
   simp only [execOp,Instr.typeAssert,Sem.run_bind,run_underlying h2,hv',Result.andThen_ok]
   cases ds <;> first | exact absurd rfl (hne _) | simp
  ·refine ⟨_,h9,λ _ τ a w hv _=>?_⟩
   obtain ⟨v',hv',hr⟩:=(hvx hv).iface_inv
   refine ⟨v',?_,hr⟩
   simp only [execOp,Instr.typeAssert,Sem.run_bind,run_underlying h2,hv',Result.andThen_ok]
   cases ds <;> first | exact absurd rfl (hne _) | simp
 ·simp at he
  rcases j61 h with ⟨ho,h⟩ | ⟨ho,h⟩
  ·subst ho
   refine ⟨_,h,λ _ τ a w hv _=>?_⟩
   obtain ⟨v',hv',hr⟩:=(hvx hv).iface_inv
   refine ⟨.tuple ⟨[i.zero,.bool false]⟩,?_,.tuple (.cons (.of_flat hf) (.cons (.flat rfl) .nil))⟩
   simp only [execOp,Instr.typeAssert,Sem.run_bind,run_underlying h2,hv',Result.andThen_ok]
   cases ds <;> first | exact absurd rfl (hne _) | simp [he,z77 w h1 hz]
  ·cases h
end Go.AM
namespace Go.AM
open Go
variable {P:Program} {G:List (Nat×Obj)} {ρ:Type}
variable {T:TypeId->Option TI} {t:TypeId} {x y:Operand} {d:Option Tmp} {ty:TypeId} {ps:String} {ed:Array Edge} {gd:Option (Nat×Bool)}
 {f:Operand->Value} {K:Value->M ρ} {S:St} {r:ρ×St}
theorem HR.of_heap {τ:Nat->Tag} {w w':World} (h:HR G τ S w) (e:w'.heap=w.heap):HR G τ S w':=
 ⟨λ i b g hi=>by rw [e]; exact h.lt i b g hi,h.inj,λ i b g o hi ho=>by rw [e]; exact h.live i b g o hi ho,h.dead,h.zero,
   λ p hp=>by rw [e]; exact h.glob p hp⟩
def rdN (a:Option Addr) (k:Nat):M (List Value):=λ S=>
 if k=0 then some ([],S) else
 match a with
 | none => none
 | some a => match S[a.block]? with
   | some (.cells c _ _)=>if a.spot=none/\a.off+k<=c.length then some ((c.drop a.off).take k,S) else none
   | some (.ro c _ _)=>if a.spot=none/\a.off+k<=c.length then some ((c.drop a.off).take k,S) else none
   | _=>none
theorem z4z {a:Option Addr} {k:Nat} {S S':St} {xs:List Value} (h:rdN a k S=some (xs,S')):S'=S/\xs.length=k /\
 (k≠0->∃ b,a=some b/\∀ j,j < k->S.cell (b.add j)=xs[j]?):=by
 unfold rdN at h
 split at h
 ·cases h;exact ⟨rfl,by simp_all,λ h=>absurd ‹_› h⟩
 ·split at h
  ·cases h
  ·rename_i b
   split at h
   ·rename_i c e g hc
    split at h
    ·rename_i hl
     cases h
     refine ⟨rfl,by simp;omega,λ _=>⟨b,rfl,λ j hj=>?_⟩⟩
     obtain ⟨bb,bo,bs⟩:=b
     obtain ⟨h1,h2⟩:=hl
     cases h1
     rw [Addr.add_none]
     dsimp only at hc h2 ⊢
     simp only [St.cell,hc]
     simp [hj]
    ·cases h
   ·rename_i c e g hc
    split at h
    ·rename_i hl
     cases h
     refine ⟨rfl,by simp;omega,λ _=>⟨b,rfl,λ j hj=>?_⟩⟩
     obtain ⟨bb,bo,bs⟩:=b
     obtain ⟨h1,h2⟩:=hl
     cases h1
     rw [Addr.add_none]
     dsimp only at hc h2 ⊢
     simp only [St.cell,hc]
     simp [hj]
    ·cases h
   ·cases h
theorem HR.run_first {τ:Nat->Tag} {w:World} (h:HR G τ S w) {a:Option Addr} {n c k sz:Nat} {xs:List Value} {S':St} {v:Value}
 (hx:rdN a k S=some (xs,S')) (hv:VR τ (.slice a n c) v) {m:Nat} (hk:k=m*sz) :
 ∃ xs',VRs τ xs xs'/\∀ w',w'.heap=w.heap->(Builtin.firstCells sz m v).run P w' = .ok ⟨xs'⟩ w':=by
 obtain ⟨_,hl,hc⟩:=z4z hx
 by_cases e:k=0
 ·have : xs=[]:=by rw [e] at hl;exact List.eq_nil_of_length_eq_zero hl
  subst this
  refine ⟨[],.nil,λ w' _=>?_⟩
  cases a with
  | none=>rw [hv.snil]; simp [Builtin.firstCells]
  | some a=>
    obtain ⟨y,k',rfl,_⟩:=hv.slice_inv
    have e0:m*sz=0:=by rw [<- hk,e]
    simp [Builtin.firstCells,e0,loadCells,loadCellsFrom]
 ·obtain ⟨b,rfl,hcell⟩:=hc e
  obtain ⟨y,k',rfl,_,hrel⟩:=hv.slice_inv
  have hlv:τ b.block = .dead\/∃ c g,τ b.block = .live c g/\b.spot=none/\y=⟨c,b.off,none⟩:=by
   rcases hrel with h | ⟨c,g,h1,h2,h3,_⟩
   ·exact .inl h
   ·exact .inr ⟨c,g,h1,h2,h3⟩
  obtain ⟨vs',hrun,hvs⟩:=h.run_cells (P:=P) (x:=b) (y:=y) (vs:=xs) (λ j hj=>hcell j (by omega)) hlv
  refine ⟨vs',hvs,λ w' hw'=>?_⟩
  have:=hrun w' hw'
  rw [hl,hk] at this
  simp [Builtin.firstCells,this]
def j33 (e sz b:Nat) (a:Option Addr) (n c m:Nat) (xs:List Value):M Sl:=
 if n+m<=c then
  match a with
  | none=>M.ret ⟨none,n+m,c⟩
  | some a=>M.bind (stL (a.add (n*sz)) xs) λ _=>M.ret ⟨some a,n+m,c⟩
 else if (n+m)*b<=140737488355328/\n+m<=9223372036854775807 then
  match a with
  | none=>if n=0 then λ S=>some (⟨some ⟨S.length,0,none⟩,n+m,n+m⟩,S++[.cells xs e (some sz)]) else M.fail
  | some a=>M.bind (rdN (some a) (n*sz)) λ os=>λ S=>
    match S[a.block]? with
    | some (.cells _ _ none)=>some (⟨some ⟨S.length,0,none⟩,n+m,n+m⟩,S++[.cells (os++xs) e (some sz)])
    | some (.cells _ e' (some sz'))=>if sz'=sz/\a.off=0/\e'=e/\xs.all juu=true then some (⟨some ⟨S.length,0,none⟩,n+m,n+m⟩,S.set a.block .dead++[.cells (os++xs) e (some sz)]) else none
    | _=>none
 else M.fail
def TD.isI:TD->Bool
 | .int _ => true
 | _ => false
def j8g (T:TypeId->Option TI) (t t1:TypeId) (s x:Value) (K:Value->M ρ):M ρ:=
 jz8 T t λ i=>jz8 T t1 λ i1=>bif i1.d.isI
  then (jys i.d λ e sz b z=>jz6 s λ a n c=>jyy x λ _ m=>
   jyw (0<=m/\m<=140737488355328/\b*m<=140737488355328/\z.all jcs=true) (M.bind (j33 e sz b a n c m.toNat (zht m.toNat z)) λ q=>K (.slice q.a q.n q.c)))
  else jyw (i1.d.isSl=true) (jys i.d λ e sz b _=>jz6 s λ a n c=>jz6 x λ a2 m _=>
   M.bind (rdN a2 (m*sz)) λ xs=>M.bind (j33 e sz b a n c m xs) λ q=>K (.slice q.a q.n q.c))
theorem HR.kill {τ:Nat->Tag} {w:World} (h:HR G τ S w) {i b:Nat} {g:Option (Nat×Nat)} (hi:τ i = .live b g) (hl:i < S.length) :
 HR G (upd τ i .dead) (S.set i .dead) w:=by
 have hle:TLe τ (upd τ i .dead):=by
  intro j
  by_cases e:j=i
  ·subst e;exact .inr (.inr ⟨⟨b,g,hi⟩,zes _ _ _⟩)
  ·exact .inr (.inl (zer _ _ e))
 refine ⟨?_,?_,?_,?_,?_,?_⟩
 ·intro j c g' hj
  by_cases e:j=i
  ·subst e;rw [zes] at hj;cases hj
  ·rw [zer _ _ e] at hj;exact h.lt j c g' hj
 ·intro j k c g1 g2 hj hk
  by_cases e:j=i
  ·subst e;rw [zes] at hj;cases hj
  ·by_cases e':k=i
   ·subst e'; rw [zes] at hk;cases hk
   ·rw [zer _ _ e] at hj;rw [zer _ _ e'] at hk;exact h.inj j k c g1 g2 hj hk
 ·intro j c g' o hj ho
  by_cases e:j=i
  ·subst e;rw [zes] at hj;cases hj
  ·rw [zer _ _ e] at hj
   rw [List.getElem?_set_ne (λ q=>e q.symm)] at ho
   obtain ⟨o',h1,h2⟩:=h.live j c g' o hj ho
   exact ⟨o',h1,h2.mono hle⟩
 ·intro j o hj ho
  by_cases e:j=i
  ·subst e
   rw [List.getElem?_set_self hl] at ho
   cases ho;rfl
  ·rw [zer _ _ e] at hj
   rw [List.getElem?_set_ne (λ q=>e q.symm)] at ho
   exact h.dead j o hj ho
 ·by_cases e:0=i
  ·subst e;exact zes _ _ _
  ·rw [zer _ _ e]; exact h.zero
 ·intro p hp
  refine ⟨(h.glob p hp).1,λ j g' hj=>?_⟩
  by_cases e:j=i
  ·subst e;rw [zes] at hj;cases hj
  ·rw [zer _ _ e] at hj;exact (h.glob p hp).2 j g' hj
theorem Ext.kill {τ:Nat->Tag} {w:World} {i b:Nat} {g:Option (Nat×Nat)} (hi:τ i = .live b g) (hl:i < S.length) :
 Ext τ S w (upd τ i .dead) (S.set i .dead) w where
 le:=by
  intro j
  by_cases e:j=i
  ·subst e;exact .inr (.inr ⟨⟨b,g,hi⟩,zes _ _ _⟩)
  ·exact .inr (.inl (zer _ _ e))
 keep:=λ j _ h0=>by
  have e:j≠i:=λ e=>by rw [e,hi] at h0;cases h0
  rw [zer _ _ e]; exact h0
 later:=λ j hj=>by
  simp at hj
  exact zer _ _ (by omega)
 absent:=λ j _ h0=>by
  have e:j≠i:=λ e=>by rw [e,hi] at h0;cases h0
  exact List.getElem?_set_ne (λ q=>e q.symm)
 len:=by simp
 fresh:=λ j c g' h1 h2 _=>by simp at h2;omega
 conc:=λ _ _ _=>rfl
 wlen:=Nat.le_refl _
 os:=rfl
 tape:=rfl
 output:=rfl
theorem HR.take {τ:Nat->Tag} {w w':World} (h:HR G τ S w) (hn:τ S.length = .no) {b:Nat} {g:Option (Nat×Nat)} {x:j00} {o:Obj}
 (hb:∀ i g',τ i≠.live b g') (hG:∀ p∈G,p.1≠b) (hlt:b < w'.heap.size) (ho:OR τ g x o) (hw:w'.heap[b]? = some o) (hne:∀ c,c≠b->c < w.heap.size->w'.heap[c]? = w.heap[c]?)
 (hsz:w.heap.size<=w'.heap.size):HR G (upd τ S.length (.live b g)) (S++[x]) w':=by
 have hle:TLe τ (upd τ S.length (.live b g)):=TLe.upd hn
 refine ⟨?_,?_,?_,?_,?_,?_⟩
 ·intro i c g' hi
  by_cases e:i=S.length
  ·subst e;rw [zes] at hi;cases hi;exact hlt
  ·rw [zer _ _ e] at hi;have:=h.lt i c g' hi;omega
 ·intro i j c g1 g2 hi hj
  by_cases e:i=S.length
  ·by_cases f:j=S.length
   ·rw [e,f]
   ·subst e;rw [zes] at hi;rw [zer _ _ f] at hj;cases hi
    exact absurd hj (hb _ _)
  ·by_cases f:j=S.length
   ·subst f;rw [zes] at hj;rw [zer _ _ e] at hi;cases hj
    exact absurd hi (hb _ _)
   ·rw [zer _ _ e] at hi;rw [zer _ _ f] at hj;exact h.inj i j c g1 g2 hi hj
 ·intro i c g' y hi hy
  by_cases e:i=S.length
  ·subst e;rw [zes] at hi;cases hi
   simp at hy;subst hy
   exact ⟨o,hw,ho.mono hle⟩
  ·rw [zer _ _ e] at hi
   have hy':S[i]? = some y:=by
    rcases Nat.lt_or_ge i S.length with hl | hl
    ·rw [List.getElem?_append_left hl] at hy;exact hy
    ·have : (S++[x])[i]? = none:=List.getElem?_eq_none (by simp;omega)
     rw [this] at hy;cases hy
   obtain ⟨o',h1,h2⟩:=h.live i c g' y hi hy'
   exact ⟨o',by rw [hne c (λ e=>hb i g' (e ▸ hi)) (h.lt i c g' hi)]; exact h1,h2.mono hle⟩
 ·intro i y hi hy
  by_cases e:i=S.length
  ·subst e;rw [zes] at hi;cases hi
  ·rw [zer _ _ e] at hi
   rcases Nat.lt_or_ge i S.length with hl | hl
   ·rw [List.getElem?_append_left hl] at hy;exact h.dead i y hi hy
   ·have : (S++[x])[i]? = none:=List.getElem?_eq_none (by simp;omega)
    rw [this] at hy;cases hy
 ·have : S.length≠0:=λ e=>by rw [e,h.zero] at hn;cases hn
  rw [zer _ _ (by omega)]; exact h.zero
 ·intro p hp
  have hlt':=h.block_lt hp
  refine ⟨by rw [hne p.1 (hG p hp) hlt']; exact (h.glob p hp).1,?_⟩
  intro i g' hi
  by_cases e:i=S.length
  ·subst e;rw [zes] at hi;injection hi with hi _;exact hG p hp hi.symm
  ·rw [zer _ _ e] at hi;exact (h.glob p hp).2 i g' hi
section
variable {w:World} {e t1 e1:TypeId} {i:TypeInfo} {base b2:Option Addr} {n k m k2:Nat} {news olds:Array Value}
theorem z6y (ht:P.underlying t=some (.slice e)) (hi:P.info? e=some i) (ht1:P.underlying t1=some (.slice e1))
 (hf:∀ w':World,w'.heap=w.heap->(Builtin.firstCells i.size m (.slice b2 m k2)).run P w' = .ok news w') (hroom:n+m<=k) {w':World}
 (hst:∀ a,base=some a->(storeCells (a.add (n*i.size)) news.toList).run P w = .ok () w') (hn:base=none->w'=w) :
 (Builtin.append_ #[t,t1] ty #[.slice base n k,.slice b2 m k2]).run P w = .ok (.slice base (n+m) k) w':=by
 have h1:=hf w rfl
 cases base with
 | none => rw [hn rfl]; simp [Builtin.append_, run_underlying ht, run_underlying ht1, sizeOf, typeInfo, hi, Builtin.lenOf, hroom, h1]
 | some a => simp [Builtin.append_, run_underlying ht, run_underlying ht1, sizeOf, typeInfo, hi, Builtin.lenOf, hroom, h1, hst a rfl]
theorem z6x (ht:P.underlying t=some (.slice e)) (hi:P.info? e=some i) (ht1:P.underlying t1=some (.slice e1)) {z:Value} (hz:i.zero=some z)
 (hf:∀ w':World,w'.heap=w.heap->(Builtin.firstCells i.size m (.slice b2 m k2)).run P w' = .ok news w')
 (hfo:∀ w':World,w'.heap=w.heap->(Builtin.firstCells i.size n (.slice base n k)).run P w' = .ok olds w')
 (hg:k < n+m) (h63:n+m<=9223372036854775807) (hfit:(n+m)*i.bytes<=140737488355328) :
 (Builtin.append_ #[t,t1] ty #[.slice base n k,.slice b2 m k2]).run P w =
   .ok (.slice (some ⟨w.heap.size,0,none⟩) (n+m) (grownCap w (n+m) k e))
    (zfm w.drew (.cells (olds++news++Builtin.zeroCells z.cells (grownCap w (n+m) k e-(n+m))) e)):=by
 have hn:¬ (n+m<=k):=by omega
 have h63':¬ (9223372036854775807 < ((n:Int)+(m:Int))):=by omega
 have h48':¬ (281474976710656 < Builtin.nextslicecap (n+m) k*i.bytes):=by
  have:=growslice_fits (old:=k) hg hfit;omega
 have hd:w.drew.heap=w.heap:=rfl
 have h1:=hf w.drew hd
 have h2:=hfo w.drew hd
 simp [Builtin.append_,run_underlying ht,run_underlying ht1,sizeOf,typeInfo,zeroValue,hi,hz,Builtin.lenOf,hn,h63',h48',Question.forced,h1,h2,newRow,grownCap,zfm]
 rfl
end
theorem Ext.undrew {τ τ':Nat->Tag} {w w':World} {S S':St} (h:Ext τ S w.drew τ' S' w'):Ext τ S w τ' S' w':=
 ⟨h.le,h.keep,h.later,h.absent,h.len,h.fresh,h.conc,h.wlen,h.os,h.tape,h.output⟩
theorem OR.grown {τ:Nat->Tag} {l l':List Value} (h:VRs τ l l') (e sz cap k:Nat) {z:Array Value} (hz:z.size=sz) (hl:l.length=k*sz) (hk:k<=cap) {A:Array Value} (hA:A.toList=l') :
 OR τ (some (sz,cap*sz)) (.cells l e (some sz)) (.cells (A++Builtin.zeroCells z (cap-k)) e (0,0)):=by
 have:=OR.cells (e:=e) (m:=(Builtin.zeroCells z (cap-k)).toList) (g:=some (sz,cap*sz)) h (λ q=>by cases q)
  (λ p hp=>by
    cases hp
    rw [h.length,hl]
    simp only [Array.length_toList,Builtin.zeroCells,Array.size_map,Array.size_range,hz]
    rw [<- Nat.add_mul]
    congr 1;omega)
 have e1:(⟨l'++(Builtin.zeroCells z (cap-k)).toList⟩:Array Value)=A++Builtin.zeroCells z (cap-k):=by
  apply Array.toList_inj.1;simp [hA]
 rw [e1] at this
 exact this
theorem Ext.takeover {τ:Nat->Tag} {w w':World} {i b:Nat} {g g':Option (Nat×Nat)} (hi:τ i = .live b g) (hl:i < S.length) (hn:τ S.length = .no) {x:j00}
 (hne:∀ c,c≠b->w'.heap[c]? = w.heap[c]?) (hsz:w'.heap.size=w.heap.size) (h1:w'.os=w.os) (h2:w'.tape=w.tape) (h3:w'.output=w.output) :
 Ext τ S w (upd (upd τ i .dead) S.length (.live b g')) (S.set i .dead++[x]) w' where
 le:=(Ext.kill (w:=w) hi hl).le.trans (TLe.upd (by rw [zer _ _ (by omega)]; exact hn))
 keep:=λ j hj h0=>by
  simp at hj
  have e:j≠i:=λ e=>by rw [e,hi] at h0;cases h0
  rw [zer _ _ (by omega),zer _ _ e]; exact h0
 later:=λ j hj=>by
  simp at hj
  rw [zer _ _ (by omega),zer _ _ (by omega)]
 absent:=λ j hj h0=>by
  have e:j≠i:=λ e=>by rw [e,hi] at h0;cases h0
  rw [List.getElem?_append_left (by simpa using hj),List.getElem?_set_ne (λ q=>e q.symm)]
 len:=by simp
 fresh:=λ j c g9 h4 h5 ht=>by
  simp at h5
  have : j=S.length:=by omega
  subst this
  rw [zes] at ht;cases ht
  exact .inr ⟨i,g,hl,hi⟩
 conc:=λ c _ hno=>hne c λ e=>hno i g hl (e ▸ hi)
 wlen:=by omega
 os:=h1
 tape:=h2
 output:=h3
theorem z50 {a:Addr} {k:Nat} {S S':St} {xs c:List Value} {e:TypeId} {g:Option Nat} (h:rdN (some a) k S=some (xs,S')) (hb:S[a.block]? = some (.cells c e g)) (h0:a.off=0) :
 xs=c.take k/\k<=c.length:=by
 unfold rdN at h
 split at h
 ·rename_i hk;cases h;subst hk;simp
 ·dsimp only at h
  rw [hb] at h
  dsimp only at h
  split at h
  ·rename_i hc;cases h;rw [h0] at hc ⊢; exact ⟨by simp,by omega⟩
  ·cases h
theorem HR.appG (hT:TOK P T) {i:TI} (hi:T t=some i) {e sz b:Nat} {z:List Value} (hd:i.d = .slice e sz b z)
 {τ:Nat->Tag} {w:World} (h:HR G τ S w) {a:Option Addr} {n c m:Nat} {xs xs':List Value} {s':Value} {S':St} {q:Sl} {R:Value->Sem Value}
 (hs:VR τ (.slice a n c) s') (hxs:VRs τ xs xs') (hxl:xs.length=m*sz)
 (hroomR:∀ (base:Option Addr) (k:Nat) (w':World),n+m<=k->(∀ a,base=some a->(storeCells (a.add (n*sz)) xs').run P w = .ok () w')->(base=none->w'=w)->(R (.slice base n k)).run P w = .ok (.slice base (n+m) k) w')
 (hgrowR:∀ (j:TypeInfo) (ze:Value) (base:Option Addr) (k:Nat) (olds:Array Value),P.info? e=some j->j.zero=some ze->(∀ w':World,w'.heap=w.heap->(Builtin.firstCells j.size n (.slice base n k)).run P w' = .ok olds w')->k < n+m->n+m<=9223372036854775807->(n+m)*b<=140737488355328 ->
   (R (.slice base n k)).run P w = .ok (.slice (some ⟨w.heap.size,0,none⟩) (n+m) (grownCap w (n+m) k e)) (zfm w.drew (.cells (olds ++ ⟨xs'⟩ ++ Builtin.zeroCells ze.cells (grownCap w (n+m) k e-(n+m))) e)))
 (ha:j33 e sz b a n c m xs S=some (q,S'))
 {N:Nat} (hN:S'.length<=N) (hno:∀ i,S.length<=i->i < N->τ i = .no) :
 ∃ v' w' τ',(R s').run P w = .ok v' w'/\VR τ' (.slice q.a q.n q.c) v'/\HR G τ' S' w'/\Ext τ S w τ' S' w':=by
 obtain ⟨j,ze,hu,h1,hz,h3,h4,h5,h6,h7⟩:=zdd (hT t i hi) hd
 have hxl':=hxs.length
 have hzs:ze.cells.size=sz:=by rw [<- Array.length_toList,h5,h6]
 subst h3 h4
 unfold j33 at ha
 split at ha
 ·rename_i hroom
  cases a with
  | none=>
    cases ha
    rw [hs.snil]
    exact ⟨_,w,τ,hroomR _ _ _ hroom (λ a e=>by cases e) (λ _=>rfl),.flat rfl,h,.refl _ _ _⟩
  | some a=>
    obtain ⟨⟨⟩,S1,hst,hq⟩:=M.bind_some ha
    cases hq
    obtain ⟨y,k',rfl,hck,hrel⟩:=hs.slice_inv
    have hbl:∀ j,(a.add j).block=a.block:=λ j=>by unfold Addr.add;split <;> rfl
    obtain ⟨w',hrun,hr',he⟩:=h.store (P:=P) (y:=y.add (n*j.size)) hst hxs (by
     rw [hbl]
     rcases hrel with hd | ⟨c',g,hl,hsp,rfl,_⟩
     ·exact .inl hd
     ·obtain ⟨ab,ao,as⟩:=a
      cases hsp
      exact .inr ⟨c',g,hl,by rw [Addr.add_none],by rw [Addr.add_none,Addr.add_none]⟩)
    refine ⟨_,w',τ,hroomR _ _ _ (Nat.le_trans hroom hck) (λ a e=>by cases e;exact hrun) (λ e=>by cases e),?_,hr',he⟩
    rcases hrel with hd | ⟨c',g,hl,hsp,rfl,hg,hgp⟩
    ·exact .sliceDead hd hck
    ·obtain ⟨ab,ao,as⟩:=a
     cases hsp
     exact .slice hl hg hck hgp
 ·rename_i hgrow
  split at ha
  ·rename_i hlim
   cases a with
   | none=>
     dsimp only at ha
     split at ha
     ·rename_i hn0
      cases ha
      rw [hs.snil]
      have hn:τ S.length = .no:=hno _ (Nat.le_refl _) (by simp at hN;omega)
      have hrun:=hgrowR j ze none c #[] h1 hz (λ w' _=>by simp [Builtin.firstCells]) (by omega) hlim.2 hlim.1
      have hcap:=grownCap_ge w (n+m) c e
      refine ⟨_,_,upd τ S.length (.live w.heap.size (some (j.size,grownCap w (n+m) c e*j.size))),hrun,
       .slice (zes _ _ _) (λ q=>by cases q) hcap (λ p hp _=>by cases hp;exact Nat.le_refl _),?_,?_⟩
      ·exact (h.of_heap (w':=w.drew) rfl).new hn (OR.grown hxs _ _ _ (n+m) hzs (by rw [hxl,hn0,Nat.zero_add]) hcap (by simp))
      ·exact (Ext.new (S:=S) (w:=w.drew) hn).undrew
     ·cases ha
   | some a=>
     obtain ⟨os,S1,ho,ha2⟩:=M.bind_some ha
     clear ha
     obtain ⟨hSS,hol,_⟩:=z4z ho
     subst hSS
     obtain ⟨y,k',rfl,hck,hrel⟩:=hs.slice_inv
     obtain ⟨os',hos,hfo⟩:=h.run_first (P:=P) (m:=n) (sz:=j.size) ho hs rfl
     have hol':=hos.length
     have hall:VRs τ (os++xs) (os'++xs'):=hos.append hxs
     have hlen:(os++xs).length=(n+m)*j.size:=by rw [List.length_append,hol,hxl,Nat.add_mul]
     have hrung:k' < n+m->(R (.slice (some y) n k')).run P w=_:=λ hk=>
      hgrowR j ze (some y) k' ⟨os'⟩ h1 hz hfo hk hlim.2 hlim.1
     split at ha2
     ·rename_i c0 e0 hblk
      cases ha2
      have hn:τ S1.length = .no:=hno _ (Nat.le_refl _) (by simp at hN;omega)
      rcases hrel with hd | ⟨c',g,hl,hsp,rfl,hg,hgp⟩
      ·have:=h.dead _ _ hd hblk;cases this
      ·have hgn:g=none:=by
        obtain ⟨o',_,hor⟩:=h.live _ _ _ _ hl hblk
        generalize hx:j00.cells c0 e0 none=xx at hor
        cases hor with
        | cells _ _ _=>injection hx with _ _ hx;cases g with
          | none=>rfl
          | some _=>cases hx
        | ro _=>cases hx
        | map _=>cases hx
       have hkc:=hg hgn
       subst hkc
       have hcap:=grownCap_ge w (n+m) k' e
       refine ⟨_,_,upd τ S1.length (.live w.heap.size (some (j.size,grownCap w (n+m) k' e*j.size))),hrung (by omega),
        .slice (zes _ _ _) (λ q=>by cases q) hcap (λ p hp _=>by cases hp;exact Nat.le_refl _),?_,?_⟩
       ·exact (h.of_heap (w':=w.drew) rfl).new hn (OR.grown hall _ _ _ (n+m) hzs hlen hcap (by simp))
       ·exact (Ext.new (S:=S1) (w:=w.drew) hn).undrew
     ·rename_i c0 e0 sz0 hblk
      split at ha2
      ·rename_i hcond
       obtain ⟨hsz0,hoff,hee,hlf⟩:=hcond
       cases ha2
       have hn:τ S1.length = .no:=hno _ (Nat.le_refl _) (by simp at hN;omega)
       have hltS:a.block < S1.length:=by
        rcases Nat.lt_or_ge a.block S1.length with q | q
        ·exact q
        ·rw [List.getElem?_eq_none q] at hblk;cases hblk
       rcases hrel with hd | ⟨c',g,hl,hsp,rfl,hg,hgp⟩
       ·have:=h.dead _ _ hd hblk;cases this
       ·obtain ⟨o',hob,hor⟩:=h.live _ _ _ _ hl hblk
        obtain ⟨tot,hgs,c1,m1,hob',hvc,htot⟩:∃ tot,g=some (j.size,tot)/\∃ c1 m1,o' = .cells ⟨c1++m1⟩ e (0,0)/\VRs τ c0 c1/\c1.length+m1.length=tot:=by
         generalize hx:j00.cells c0 e0 (some sz0)=xx at hor
         cases hor with
         | cells p1 p2 p3=>
           injection hx with q1 q2 q3
           subst q1 q2
           cases g with
           | none=>cases q3
           | some p=>
             obtain ⟨p,tot⟩:=p
             simp at q3
             subst q3 hsz0 hee
             exact ⟨tot,rfl,_,_,rfl,p1,p3 _ rfl⟩
         | ro _=>cases hx
         | map _=>cases hx
        subst hob' hgs
        have hkl:upd τ a.block .dead (S1.set a.block .dead).length = .no:=by
         rw [zer _ _ (by simp;omega)]; simpa using hn
        have hkill:=h.kill hl hltS
        have hle:TLe τ (upd τ a.block .dead):=(Ext.kill (w:=w) hl hltS).le
        have hsl:(S1.set a.block j00.dead).length=S1.length:=by simp
        have hnoG:∀ p∈G,p.1≠c':=λ p hp e9=>(h.glob p hp).2 _ _ (e9 ▸ hl)
        have hnl:∀ i g',upd τ a.block .dead i≠.live c' g':=by
         intro i g' hi9
         by_cases e9:i=a.block
         ·subst e9;rw [zes] at hi9;cases hi9
         ·rw [zer _ _ e9] at hi9;exact e9 (h.inj _ _ _ _ _ hi9 hl)
        by_cases hroom:n+m<=k'
        ·-- in place, there
         have hkt:k'*j.size<=tot:=hgp _ rfl hoff
         have h3:(n+m)*j.size<=k'*j.size:=Nat.mul_le_mul_right _ hroom
         have h4:(n+m)*j.size=n*j.size+m*j.size:=Nat.add_mul _ _ _
         have hleaf:∀ v∈xs',v.oneCell'=true:=hxs.leaf_one hlf
         have hst:=run_storeCells_at (P:=P) c' (n*j.size) e xs' 0 ⟨c1++m1⟩ w hob (by simp;omega) hleaf
         have hadd:(⟨c',a.off,none⟩:Addr).add (n*j.size)=⟨c',n*j.size,none⟩:=by rw [Addr.add_none,hoff,Nat.zero_add]
         refine ⟨_,_,upd (upd τ a.block .dead) (S1.set a.block j00.dead).length (.live c' (some (j.size,tot))),
          hroomR _ _ _ hroom (λ a9 e9=>by cases e9;rw [hadd]; exact hst) (λ e9=>by cases e9),?_,?_,?_⟩
         ·rw [hsl,hoff]
          exact .slice (zes _ _ _) (λ e9=>by cases e9) (by omega) (λ p hp _=>by cases hp;exact hkt)
         ·obtain ⟨hos',hnl0⟩:=z50 ho hblk hoff
          have hcl:=hvc.length
          rw [hsl]
          have hkl':(upd τ a.block .dead) (S1.set a.block j00.dead).length = .no:=hkl
          have hres:=HR.take (G:=G) (g:=some (j.size,tot)) (x:=.cells (os++xs) e (some j.size)) (b:=c')
           (o:=.cells ⟨(c1.take (n*j.size)++xs')++(c1++m1).drop (n*j.size+xs'.length)⟩ e (0,0))
           (w':=w.setRow c' ((c1++m1).take (0+n*j.size)++xs'++(c1++m1).drop (0+n*j.size+xs'.length)).toArray) hkill hkl' hnl hnoG (by simp;exact h.lt _ _ _ hl) ?_ ?_ ?_ (by simp)
          ·rw [hsl] at hres
           simpa using hres
          ·have:=OR.cells (e:=e) (m:=(c1++m1).drop (n*j.size+xs'.length)) (g:=some (j.size,tot)) (VRs.mono hle (show VRs τ (os++xs) (c1.take (n*j.size)++xs') from by
            rw [hos']; exact (hvc.take _).append hxs)) (λ q=>by cases q) (λ p hp=>by
             cases hp
             simp only [List.length_append,List.length_take,List.length_drop]
             omega)
           exact this
          ·rw [setRow_heap w c' _ _ e _ hob]
           congr 2
           apply Array.toList_inj.1
           simp only [Nat.zero_add]
           rw [List.take_append_of_le_length (by omega)]
          ·intro c9 h9 _;exact setRow_other w c' c9 _ h9
         ·rw [hsl]
          exact Ext.takeover hl hltS hn (λ c9 h9=>setRow_other w c' c9 _ h9) (by simp) rfl rfl rfl
        ·-- moved
         have hcap:=grownCap_ge w (n+m) k' e
         refine ⟨_,_,upd (upd τ a.block .dead) (S1.set a.block j00.dead).length (.live w.heap.size (some (j.size,grownCap w (n+m) k' e*j.size))),hrung (by omega),?_,?_,?_⟩
         ·rw [hsl]
          exact .slice (zes _ _ _) (λ q=>by cases q) hcap (λ p hp _=>by cases hp;exact Nat.le_refl _)
         ·exact (hkill.of_heap (w':=w.drew) rfl).new hkl (OR.grown (VRs.mono hle hall) _ _ _ (n+m) hzs hlen hcap (by simp))
         ·exact (Ext.kill (w:=w) hl hltS).trans (Ext.new (S:=S1.set a.block j00.dead) (w:=w.drew) hkl).undrew (λ i9 h8 h9=>by
           simp at h8 h9
           have : i9=S1.length:=by omega
           subst this;exact hn)
      ·cases ha2
     ·cases ha2
  ·cases ha
theorem HR.app (hT:TOK P T) {i i1:TI} {t1:TypeId} (hi:T t=some i) (hi1:T t1=some i1) {e sz b e1 sz1 b1:Nat} {z z1:List Value} (hd:i.d = .slice e sz b z) (hd1:i1.d = .slice e1 sz1 b1 z1)
 {τ:Nat->Tag} {w:World} (h:HR G τ S w) {a a2:Option Addr} {n c m c2:Nat} {xs:List Value} {s' x':Value} {S0 S':St} {q:Sl}
 (hs:VR τ (.slice a n c) s') (hx:VR τ (.slice a2 m c2) x') (hr:rdN a2 (m*sz) S=some (xs,S0)) (ha:j33 e sz b a n c m xs S=some (q,S'))
 {N:Nat} (hN:S'.length<=N) (hno:∀ i,S.length<=i->i < N->τ i = .no) :
 ∃ v' w' τ',(Builtin.append_ #[t,t1] ty #[s',x']).run P w = .ok v' w'/\VR τ' (.slice q.a q.n q.c) v'/\HR G τ' S' w'/\Ext τ S w τ' S' w':=by
 obtain ⟨j,ze,hu,h1,hz,h3,h4,h5,h6,h7⟩:=zdd (hT t i hi) hd
 obtain ⟨j1,ze1,hu1,_⟩:=zdd (hT t1 i1 hi1) hd1
 obtain ⟨xs',hxs,hfx⟩:=h.run_first (P:=P) (m:=m) (sz:=sz) hr hx rfl
 obtain ⟨_,hxl,_⟩:=z4z hr
 obtain ⟨ba,kx,rfl⟩:∃ ba kx,x' = .slice ba m kx:=by
  cases a2 with
  | none=>exact ⟨_,_,hx.snil⟩
  | some a2=>obtain ⟨y,k,e,_⟩:=hx.slice_inv;exact ⟨_,_,e⟩
 refine HR.appG (R:=λ s=>Builtin.append_ #[t,t1] ty #[s,.slice ba m kx]) hT hi hd h hs hxs hxl (λ base k w' hrm hst hn=>?_) (λ j' ze' base k olds hj hz' hfo hk h63 hfit=>?_) ha hN hno
 ·subst h3
  exact z6y hu h1 hu1 hfx hrm hst hn
 ·rw [h1] at hj;cases hj
  rw [hz] at hz'; cases hz'
  subst h3 h4
  exact z6x hu h1 hu1 hz hfx hfo hk h63 hfit
theorem zhv {n:Nat} {z:Array Value}:(Builtin.zeroCells z n).toList=zht n z.toList:=by
 unfold Builtin.zeroCells zht
 simp only [Array.toList_map,Array.toList_range,Array.length_toList]
 apply List.map_congr_left
 intro i hi
 simp at hi
 have h0:z.size≠0:=by
  intro e;rw [e] at hi;simp at hi
 have hlt:i % z.size < z.size:=Nat.mod_lt _ (by omega)
 rw [getElem!_pos z _ hlt,List.getD_eq_getElem?_getD,List.getElem?_eq_getElem (by simpa using hlt)]
 simp
theorem zhx (n:Nat) (z:List Value):(zht n z).length=n*z.length:=by simp [zht]
theorem z70 {w:World} {e t1:TypeId} {i:TypeInfo} {base:Option Addr} {n k m:Nat} {κ κ':IntKind} {z:Value} (ht:P.underlying t=some (.slice e)) (hi:P.info? e=some i) (ht1:P.underlying t1=some (.int κ)) (hz:i.zero=some z) (hzs:z.cells.size=i.size)
 (hm:m<=140737488355328) (hb:i.bytes*m<=140737488355328) (hroom:n+m<=k) {w':World}
 (hst:∀ a,base=some a->(storeCells (a.add (n*i.size)) (Builtin.zeroCells z.cells m).toList).run P w = .ok () w') (hn:base=none->w'=w) :
 (Builtin.append_ #[t,t1] ty #[.slice base n k,.int κ' m]).run P w = .ok (.slice base (n+m) k) w':=by
 have hw:IntKind.i64.wrap (m:Int)=m:=by rw [IntWalk.i64_in] <;> omega
 have h0:¬ ((m:Int) < 0):=by omega
 have h1:¬ ((281474976710656:Int) < (m:Int)*(i.bytes:Int)):=by
  rw [Int.mul_comm]; have : ((i.bytes*m:Nat):Int)<=140737488355328:=by omega
  rw [Int.natCast_mul] at this;omega
 have h2:m*i.size=0->(Builtin.zeroCells z.cells m) = #[]:=by
  intro h;unfold Builtin.zeroCells;rw [hzs,h]; simp
 cases base with
 | none =>
   rw [hn rfl]
   by_cases hms:m*i.size=0 <;> simp [Builtin.append_,run_underlying ht,run_underlying ht1,sizeOf,typeInfo,zeroValue,hi,hz,hw,h0,h1,hroom,hms,asInt,asIntOf]
 | some a =>
   have hs:=hst a rfl
   by_cases hms:m*i.size=0
   ·rw [h2 hms] at hs
    simp [Builtin.append_,run_underlying ht,run_underlying ht1,sizeOf,typeInfo,zeroValue,hi,hz,hw,h0,h1,hroom,hms,asInt,asIntOf]
    rw [show ([]:List Value)=(#[]:Array Value).toList from rfl,hs]; rfl
   ·simp [Builtin.append_,run_underlying ht,run_underlying ht1,sizeOf,typeInfo,zeroValue,hi,hz,hw,h0,h1,hroom,hms,asInt,asIntOf]
    rw [hs]; rfl
theorem z6z {w:World} {e t1:TypeId} {i:TypeInfo} {base:Option Addr} {n k m:Nat} {κ κ':IntKind} {z:Value} {olds:Array Value} (ht:P.underlying t=some (.slice e)) (hi:P.info? e=some i) (ht1:P.underlying t1=some (.int κ)) (hz:i.zero=some z) (hzs:z.cells.size=i.size)
 (hm:m<=140737488355328) (hb:i.bytes*m<=140737488355328) (hfo:∀ w':World,w'.heap=w.heap->(Builtin.firstCells i.size n (.slice base n k)).run P w' = .ok olds w')
 (hg:k < n+m) (h63:n+m<=9223372036854775807) (hfit:(n+m)*i.bytes<=140737488355328) :
 (Builtin.append_ #[t,t1] ty #[.slice base n k,.int κ' m]).run P w =
   .ok (.slice (some ⟨w.heap.size,0,none⟩) (n+m) (grownCap w (n+m) k e))
    (zfm w.drew (.cells (olds++Builtin.zeroCells z.cells m++Builtin.zeroCells z.cells (grownCap w (n+m) k e-(n+m))) e)):=by
 have hw:IntKind.i64.wrap (m:Int)=m:=by rw [IntWalk.i64_in] <;> omega
 have h0:¬ ((m:Int) < 0):=by omega
 have h1:¬ ((281474976710656:Int) < (m:Int)*(i.bytes:Int)):=by
  rw [Int.mul_comm]; have : ((i.bytes*m:Nat):Int)<=140737488355328:=by omega
  rw [Int.natCast_mul] at this;omega
 have h2:m*i.size=0->(Builtin.zeroCells z.cells m) = #[]:=by
  intro h;unfold Builtin.zeroCells;rw [hzs,h]; simp
 have hn:¬ (n+m<=k):=by omega
 have h63':¬ (9223372036854775807 < ((n:Int)+(m:Int))):=by omega
 have h48':¬ (281474976710656 < Builtin.nextslicecap (n+m) k*i.bytes):=by
  have:=growslice_fits (old:=k) hg hfit;omega
 have hd:w.drew.heap=w.heap:=rfl
 have h3:=hfo w.drew hd
 by_cases hms:m*i.size=0
 ·rw [h2 hms]
  simp [Builtin.append_,run_underlying ht,run_underlying ht1,sizeOf,typeInfo,zeroValue,hi,hz,hw,h0,h1,hms,asInt,asIntOf,hn,h63',h48',Question.forced,h3,newRow,grownCap,zfm]
  try rfl
 ·simp [Builtin.append_,run_underlying ht,run_underlying ht1,sizeOf,typeInfo,zeroValue,hi,hz,hw,h0,h1,hms,asInt,asIntOf,hn,h63',h48',Question.forced,h3,newRow,grownCap,zfm]
  try rfl
theorem HR.appZ (hT:TOK P T) {i i1:TI} {t1:TypeId} (hi:T t=some i) (hi1:T t1=some i1) {e sz b:Nat} {z:List Value} {κ κ':IntKind} (hd:i.d = .slice e sz b z) (hd1:i1.d = .int κ)
 {τ:Nat->Tag} {w:World} (h:HR G τ S w) {a:Option Addr} {n c m:Nat} {s':Value} {S':St} {q:Sl}
 (hs:VR τ (.slice a n c) s') (hm:m<=140737488355328) (hb:b*m<=140737488355328) (hf:z.all jcs=true) (ha:j33 e sz b a n c m (zht m z) S=some (q,S'))
 {N:Nat} (hN:S'.length<=N) (hno:∀ i,S.length<=i->i < N->τ i = .no) :
 ∃ v' w' τ',(Builtin.append_ #[t,t1] ty #[s',.int κ' m]).run P w = .ok v' w'/\VR τ' (.slice q.a q.n q.c) v'/\HR G τ' S' w'/\Ext τ S w τ' S' w':=by
 obtain ⟨j,ze,hu,h1,hz,h3,h4,h5,h6,h7⟩:=zdd (hT t i hi) hd
 have hu1:=zda (hT t1 i1 hi1) hd1
 have hzs:ze.cells.size=j.size:=by rw [<- Array.length_toList,h5,h6,h3]
 subst h5
 have hz0:ze.cells.toList.length≠0:=by omega
 refine HR.appG (xs':=(Builtin.zeroCells ze.cells m).toList) (R:=λ s=>Builtin.append_ #[t,t1] ty #[s,.int κ' m]) hT hi hd h hs (by rw [zhv]; exact VRs.self λ v hv=>.flat (zhw hf hz0 v hv)) (by rw [zhx,h6]) (λ base k w' hrm hst hn=>?_) (λ j' ze' base k olds hj hz' hfo hk h63 hfit=>?_) ha hN hno
 ·subst h3 h4
  exact z70 hu h1 hu1 hz hzs hm hb hrm hst hn
 ·rw [h1] at hj;cases hj
  rw [hz] at hz'; cases hz'
  subst h3 h4
  exact z6z hu h1 hu1 hz hzs hm hb hfo hk h63 hfit
end Go.AM
namespace Go.AM
open Go
variable {P:Program} {G:List (Nat×Obj)} {ρ:Type}
variable {T:TypeId->Option TI} {t:TypeId} {x y:Operand} {d:Option Tmp} {ty:TypeId} {ps:String} {ed:Array Edge} {gd:Option (Nat×Bool)}
 {f:Operand->Value} {K:Value->M ρ} {S:St} {r:ρ×St}
theorem jbo (a:Act) (b:Builtin) (args:Array Operand) (at_:Array TypeId) (w:World) :
 (execOp a.eval ⟨d,.call ⟨.builtin b,args,at_⟩,ty,ps,ed,gd⟩).run P w =
   (builtin b at_ ty (args.map fun | .const _=>true | _=>false) (args.map a.eval)).run P w:=by
 simp [execOp,resolve,invoke]
 rfl
theorem j34 {e sz b:Nat} {a:Option Addr} {n c m:Nat} {xs:List Value} {S S':St} {q:Sl} (ha:j33 e sz b a n c m xs S=some (q,S')):S.length<=S'.length:=by
 unfold j33 at ha
 split at ha
 ·split at ha
  ·cases ha;exact Nat.le_refl _
  ·obtain ⟨⟨⟩,S1,hst,hq⟩:=M.bind_some ha
   cases hq;rw [za7 hst]; exact Nat.le_refl _
 ·split at ha
  ·split at ha
   ·split at ha
    ·cases ha;simp
    ·cases ha
   ·obtain ⟨os,S1,ho,ha2⟩:=M.bind_some ha
    obtain ⟨hS,_⟩:=z4z ho
    rw [hS] at ha2
    split at ha2
    ·cases ha2;simp
    ·split at ha2
     ·cases ha2;simp
     ·cases ha2
    ·cases ha2
  ·cases ha
theorem HR.app_op (hT:TOK P T) {t t1:TypeId} (h:j8g T t t1 (f x) (f y) K S=some r) :
 ∃ v S',K v S'=some r/\j0t P G ⟨d,.call ⟨.builtin .append,#[x,y],#[t,t1]⟩,ty,ps,ed,gd⟩ f S v S':=by
 obtain ⟨i,hi,h⟩:=jz9 h
 obtain ⟨i1,hi1,h⟩:=jz9 h
 rcases j61 h with ⟨his,h⟩ | ⟨_,h⟩
 ·obtain ⟨e,sz,b,z,hd,h⟩:=jyt h
  obtain ⟨a,n,c,hx,h⟩:=jz7 h
  obtain ⟨κ',m,hy,h⟩:=jyz h
  obtain ⟨⟨h0,hm,hb,hf⟩,h⟩:=jyx h
  obtain ⟨q,S',ha,hk⟩:=M.bind_some h
  obtain ⟨κ,hd1⟩:∃ κ,i1.d = .int κ:=by
   cases hq:i1.d <;> rw [hq] at his <;> first | (cases his;done) | exact ⟨_,rfl⟩
  obtain ⟨m,rfl⟩:=Int.eq_ofNat_of_zero_le h0
  rw [Int.toNat_natCast] at ha
  have hlen:=j34 ha
  refine ⟨_,S',hk,hlen,λ N τ a' w hN hno hv hr'=>?_⟩
  have hvx:=hv x (by simp [Op.operands,Call.operands])
  have hvy:=hv y (by simp [Op.operands,Call.operands])
  rw [hx] at hvx;rw [hy] at hvy
  obtain ⟨v',w',τ',hrun,h1,h2,h3⟩:=HR.appZ (P:=P) (ty:=ty) (κ':=κ') hT hi hi1 hd hd1 hr' hvx (by omega) (by omega) hf ha hN hno
  refine OS.value (v:=v') (w':=w') ?_ ⟨τ',h1,h2,h3⟩
  rw [jbo]
  simp [builtin,hvy.int,hrun]
 obtain ⟨hsl,h⟩:=jyx h
 obtain ⟨e,sz,b,z,hd,h⟩:=jyt h
 obtain ⟨a,n,c,hx,h⟩:=jz7 h
 obtain ⟨a2,m,c2,hy,h⟩:=jz7 h
 obtain ⟨xs,S0,hr,h⟩:=M.bind_some h
 obtain ⟨hSS,_⟩:=z4z hr
 obtain ⟨q,S',ha,hk⟩:=M.bind_some h
 rw [hSS] at ha hr
 obtain ⟨e1,sz1,b1,z1,hd1⟩:∃ e sz b z,i1.d = .slice e sz b z:=by
  cases hq:i1.d <;> rw [hq] at hsl <;> first | (cases hsl;done) | exact ⟨_,_,_,_,rfl⟩
 have hlen:=j34 ha
 refine ⟨_,S',hk,hlen,λ N τ a' w hN hno hv hr'=>?_⟩
 have hvx:=hv x (by simp [Op.operands,Call.operands])
 have hvy:=hv y (by simp [Op.operands,Call.operands])
 rw [hx] at hvx;rw [hy] at hvy
 obtain ⟨v',w',τ',hrun,h1,h2,h3⟩:=HR.app (P:=P) (ty:=ty) hT hi hi1 hd hd1 hr' hvx hvy hr ha hN hno
 refine OS.value (v:=v') (w':=w') ?_ ⟨τ',h1,h2,h3⟩
 rw [jbo]
 simp [builtin,hrun]
def j92 (T:TypeId->Option TI) (t:TypeId) (x:Value) (K:Value->M ρ):M ρ:=
 jz8 T t λ i=>bif i.d.isSl then jz6 x λ _ n _=>K (.int .i64 n) else jyi i.d λ n _ _=>K (.int .i64 n)
def j93 (T:TypeId->Option TI) (t:TypeId) (x:Value) (K:Value->M ρ):M ρ:=
 match x with
 | .map none => jz8 T t λ i => jyo i.d λ _ _ => K (.int .i64 0)
 | .map (some m) => jz8 T t λ i => jyo i.d λ _ _ => λ S => match S[m]? with
   | some (.map es _)=>K (.int .i64 es.length) S
   | _=>none
 | _ => M.fail
theorem ER.length {τ:Nat->Tag} {l:List (Value×Value×Nat)} {l':List MapEntry} (h:ER τ l l'):l'.length=l.length:=by
 induction h with
 | nil => rfl
 | cons _ _ ih => simp [ih]
theorem z8q (hT:TOK P T) {t:TypeId} (h:j92 T t (f x) K S=some r) :
 ∃ v,K v S=some r/\∀ S,j0z P G ⟨d,.call ⟨.builtin .len,#[x],#[t]⟩,ty,ps,ed,gd⟩ f S v:=by
 obtain ⟨i,hi,h⟩:=jz9 h
 rcases j61 h with ⟨hsl,h⟩ | ⟨_,h⟩
 ·obtain ⟨s,n,c,hx,h⟩:=jz7 h
  obtain ⟨e,sz,b,z,hd⟩:∃ e sz b z,i.d = .slice e sz b z:=by
   cases hq:i.d <;> rw [hq] at hsl <;> first | (cases hsl;done) | exact ⟨_,_,_,_,rfl⟩
  obtain ⟨_,_,hu,_⟩:=zdd (hT t i hi) hd
  refine ⟨_,h,λ _ τ a w hv _=>⟨.int .i64 n,?_,.flat rfl⟩⟩
  have h1:=hv x (by simp [Op.operands,Call.operands])
  rw [hx] at h1
  rw [jbo]
  cases s with
  | none=>simp [builtin,Builtin.len_,h1.snil,run_underlying hu,goInt]
  | some s=>
    obtain ⟨y,k',e,_⟩:=h1.slice_inv
    simp [builtin,Builtin.len_,e,run_underlying hu,goInt]
 ·obtain ⟨n,sz,ag,hd,h⟩:=jyj h
  obtain ⟨e,j,de,hu,_⟩:=zd6 (hT t i hi) hd
  refine ⟨_,h,λ _ τ a w hv _=>⟨.int .i64 n,?_,.flat rfl⟩⟩
  rw [jbo]
  simp [builtin,Builtin.len_,run_underlying hu,goInt]
theorem z8r (hT:TOK P T) {t:TypeId} (h:j93 T t (f x) K S=some r) :
 ∃ v,K v S=some r/\j0z P G ⟨d,.call ⟨.builtin .len,#[x],#[t]⟩,ty,ps,ed,gd⟩ f S v:=by
 generalize hx:f x=u at h
 have hvx:∀ {τ:Nat->Tag} {a:Act},(∀ z∈(Op.call ⟨.builtin .len,#[x],#[t]⟩).operands,VR τ (f z) (a.eval z))->VR τ u (a.eval x):=by
  intro τ a hv
  have:=hv x (by simp [Op.operands,Call.operands])
  rw [hx] at this;exact this
 unfold j93 at h
 split at h
 ·obtain ⟨i,hi,h⟩:=jz9 h
  obtain ⟨k,z,hd,h⟩:=jyp h
  obtain ⟨_,_,hu,_⟩:=zdb (hT t i hi) hd
  refine ⟨_,h,λ τ a w hv _=>⟨.int .i64 0,?_,.flat rfl⟩⟩
  rw [jbo]
  simp [builtin,Builtin.len_,(hvx hv).mnil,run_underlying hu,goInt]
 ·rename_i m
  obtain ⟨i,hi,h⟩:=jz9 h
  obtain ⟨k,z,hd,h⟩:=jyp h
  obtain ⟨_,_,hu,_⟩:=zdb (hT t i hi) hd
  split at h
  ·rename_i es clk hm
   refine ⟨_,h,λ τ a w hv hr=>⟨.int .i64 es.length,?_,.flat rfl⟩⟩
   obtain ⟨c,hc,hrel⟩:=(hvx hv).map_inv
   rw [jbo]
   rcases hrel with hd | ⟨g,hl⟩
   ·have:=hr.dead _ _ hd hm;cases this
   ·obtain ⟨o',ho,hor⟩:=hr.live _ _ _ _ hl hm
    cases hor with
    | map he=>
      rename_i es'
      have:=he.length
      simp [builtin,Builtin.len_,hc,run_underlying hu,goInt,getObj,Sem.run,ho,this]
  ·cases h
 ·cases h
def mxI (mx:Bool):Int->List Value->(Int->M ρ)->M ρ
 | a, [], K => K a
 | a, v :: l, K => jyy v λ _ b => mxI mx (bif mx then (if b > a then b else a) else (if b < a then b else a)) l K
def dMx (mx:Bool) (l:List Value) (K:Value->M ρ):M ρ:=
 match l with
 | [] => M.fail
 | v :: l => jyy v λ k a => mxI mx a l λ b => K (.int k b)
theorem jxo {mx:Bool} {k:IntKind}:∀ {l:List Value} {a:Int} {K:Int->M ρ},mxI mx a l K S=some r ->
 ∃ b,K b S=some r/\∀ τ (l':List Value),VRs τ l l'->∀ w:World,(l'.foldlM (bif mx then Builtin.max2 else Builtin.min2) (.int k a)).run P w = .ok (.int k b) w
 | [], a, K, h => ⟨a, h, λ τ l' hl w => by cases hl; simp⟩
 | v :: l, a, K, h => by
   obtain ⟨q,b,hq,h2⟩:=jyz h
   obtain ⟨c,hc,hrun⟩:=jxo (l:=l) h2
   subst hq
   refine ⟨c,hc,λ τ l' hl w=>?_⟩
   cases hl with
   | cons e hl=>
     rw [e.int]
     have:=hrun τ _ hl w
     cases mx <;> (simp [Builtin.max2,Builtin.min2] at this ⊢; exact this)
theorem z90 {mx:Bool} {args:Array Operand} {at_:Array TypeId} (h:dMx mx (args.toList.map f) K S=some r) :
 ∃ v,K v S=some r/\∀ S,j0z P G ⟨d,.call ⟨.builtin (bif mx then .max else .min),args,at_⟩,ty,ps,ed,gd⟩ f S v:=by
 generalize hl:args.toList.map f=l at h
 unfold dMx at h
 split at h
 ·cases h
 ·rename_i v l0
  obtain ⟨k,a,rfl,h⟩:=jyz h
  obtain ⟨b,hb,hrun⟩:=jxo (P:=P) (k:=k) h
  refine ⟨_,hb,λ _ τ a' w hv _=>⟨.int k b,?_,.flat rfl⟩⟩
  have hvs:VRs τ (args.toList.map f) (args.toList.map a'.eval):=VRs.map_of λ z hz=>hv z (by cases mx <;> simpa [Op.operands,Call.operands] using hz)
  rw [hl] at hvs
  rw [jbo]
  have hal:(args.map a'.eval).toList=args.toList.map a'.eval:=by simp
  generalize hg:args.toList.map a'.eval=l' at hvs
  cases hvs with
  | cons e hvs=>
    have:=hrun τ _ hvs w
    rw [e.int] at hg
    cases mx
    ·simp at this
     simp [builtin,Builtin.min_,hg,this]
    ·simp at this
     simp [builtin,Builtin.max_,hg,this]
def j8r (T:TypeId->Option TI) (t:TypeId) (x y:Value) (K:Value->M ρ):M ρ:=
 jz8 T t λ i=>jys i.d λ _ sz _ _=>jz6 x λ a n _=>jz6 y λ a2 m _=>M.bind (rdN a2 (min m n*sz)) λ xs=>
  match a with
  | none=>K (.int .i64 (min m n:Nat))
  | some a=>M.bind (stL a xs) λ _=>K (.int .i64 (min m n:Nat))
theorem z8i (hT:TOK P T) {t t1:TypeId} (h:j8r T t (f x) (f y) K S=some r) :
 ∃ v S',K v S'=some r/\j0t P G ⟨d,.call ⟨.builtin .copy,#[x,y],#[t,t1]⟩,ty,ps,ed,gd⟩ f S v S':=by
 obtain ⟨i,hi,h⟩:=jz9 h
 obtain ⟨e,sz,b,z,hd,h⟩:=jyt h
 obtain ⟨a,n,c,hx,h⟩:=jz7 h
 obtain ⟨a2,m,c2,hy,h⟩:=jz7 h
 obtain ⟨xs,S0,hr,h⟩:=M.bind_some h
 obtain ⟨hSS,_⟩:=z4z hr
 obtain ⟨j,ze,hu,h1,_,h2,_⟩:=zdd (hT t i hi) hd
 rw [hSS] at hr h
 have key:∀ {τ:Nat->Tag} {a':Act} {w:World},HR G τ S w->(∀ z∈(Op.call ⟨.builtin .copy,#[x,y],#[t,t1]⟩).operands,VR τ (f z) (a'.eval z)) ->
  VR τ (.slice a n c) (a'.eval x)/\∃ ba kx xs',a'.eval y = .slice ba m kx/\VRs τ xs xs'/\(Builtin.firstCells sz (min m n) (.slice ba m kx)).run P w = .ok ⟨xs'⟩ w:=by
  intro τ a' w hrr hv
  have hvx:=hv x (by simp [Op.operands,Call.operands])
  have hvy:=hv y (by simp [Op.operands,Call.operands])
  rw [hx] at hvx;rw [hy] at hvy
  obtain ⟨xs',q1,q2⟩:=hrr.run_first (P:=P) (m:=min m n) (sz:=sz) hr hvy rfl
  refine ⟨hvx,?_⟩
  cases a2 with
  | none=>rw [hvy.snil] at q2 ⊢; exact ⟨_,_,xs',rfl,q1,q2 w rfl⟩
  | some a2=>
    obtain ⟨y',k',e,_⟩:=hvy.slice_inv
    rw [e] at q2 ⊢; exact ⟨_,_,xs',rfl,q1,q2 w rfl⟩
 cases a with
 | none =>
   refine ⟨_,S,h,j0z.op λ τ a' w hv hrr=>⟨.int .i64 (min m n:Nat),?_,.flat rfl⟩⟩
   obtain ⟨q0,ba,kx,xs',q1,q2,q3⟩:=key hrr hv
   rw [jbo]
   have : m.min n=min m n:=rfl
   simp [builtin,Builtin.copy_,q0.snil,q1,run_underlying hu,Builtin.lenOf,z75 w h1,h2,this,q3,goInt]
 | some a =>
   obtain ⟨⟨⟩,S1,hst,hk⟩:=M.bind_some h
   refine ⟨_,S1,hk,by rw [za7 hst]; exact Nat.le_refl _,λ N τ a' w hN hno hv hrr=>?_⟩
   obtain ⟨q0,ba,kx,xs',q1,q2,q3⟩:=key hrr hv
   obtain ⟨y',k',e,_,hrel⟩:=q0.slice_inv
   obtain ⟨w',hrun,hr',he⟩:=hrr.store (P:=P) (y:=y') hst q2 (by
    rcases hrel with hd | ⟨c',g,hl,hsp,hy,_⟩
    ·exact .inl hd
    ·exact .inr ⟨c',g,hl,hsp,hy⟩)
   refine OS.value (v:=.int .i64 (min m n:Nat)) (w':=w') ?_ ⟨τ,.flat rfl,hr',he⟩
   rw [jbo]
   have : m.min n=min m n:=rfl
   simp [builtin,Builtin.copy_,e,q1,run_underlying hu,Builtin.lenOf,z75 w h1,h2,this,q3,goInt,hrun]
end Go.AM
namespace Go.AM
open Go
variable {P:Program} {G:List (Nat×Obj)} {ρ:Type}
variable {T:TypeId->Option TI} {t:TypeId} {x y:Operand} {d:Option Tmp} {ty:TypeId} {ps:String} {ed:Array Edge} {gd:Option (Nat×Bool)}
 {f:Operand->Value} {K:Value->M ρ} {S:St} {r:ρ×St}
structure SC (P:Program) (G:List (Nat×Obj)) (k:FuncId) (args:List Value) (S:St) (v:Value) (S':St):Prop where
 len:S.length<=S'.length
 calls:∀ (N:Nat) (τ:Nat->Tag) (w:World) (args':List Value),S'.length<=N->(∀ i,S.length<=i->i < N->τ i = .no)->VRs τ args args'->HR G τ S w ->
  Calls P k ⟨args'⟩ w λ e w'=>∃ v',e = .returned v'/\∃ τ',VR τ' v v'/\HR G τ' S' w'/\Ext τ S w τ' S' w'
def Enters (P:Program) (k:FuncId):Prop:=∀ args w,(callFunc k args).run P w = .ok (.enter k args) w
theorem enters_of {k : FuncId} {fn : Func} {c : Code} (h : P.funcs[k]? = some fn) (hb : fn.body = some c) (hn : fn.name ≠ "runtime.NumGoroutine") : Enters P k := by
 intro args w
 simp [callFunc,h,hb,hn]
def COK (P:Program) (G:List (Nat×Obj)) (C:FuncId->List Value->M Value):Prop:=
 ∀ k args S v S',C k args S=some (v,S')->Enters P k/\SC P G k args S v S'
def XOK (P:Program) (X:FuncId->List Value->Option (Bool×Value)):Prop:=
 ∀ k args v,X k args=some (true,v)->jcp v=true/\∀ w,(callFunc k ⟨args⟩).run P w = .ok (.value v) w
def j8p (X:FuncId->List Value->Option (Bool×Value)) (g:Value) (args:List Value) (K:Value->M ρ):M ρ:=
 match g with
 | .func (.func k) first cap => jyw (first.isEmpty = true /\ cap.isEmpty = true /\ args.all jcs = true) (jz2 (X k args) λ q => jyw (q.1 = true) (K q.2))
 | _ => M.fail
def j6k (C:FuncId->List Value->M Value) (g:Value) (args:List Value):M Value:=
 match g with
 | .func (.func k) first cap => C k (first.toList ++ args ++ cap.toList)
 | _ => M.fail
def j8o (C:FuncId->List Value->M Value) (T:TypeId->Option TI) (ty:TypeId) (g:Value) (args:List Value) (K:Value->M ρ):M ρ:=
 jz8 T ty λ i=>M.bind (j6k C g args) λ v=>z2k i.zero v K
theorem jbp (a:Act) (g:Operand) (args:Array Operand) (at_:Array TypeId) (w:World) {k:FuncId} {u c:List Value} (hg:a.eval g = .func (.func k) ⟨u⟩ ⟨c⟩) :
 (execOp a.eval ⟨d,.call ⟨.value g,args,at_⟩,ty,ps,ed,gd⟩).run P w=(callFunc k ⟨u++args.toList.map a.eval++c⟩).run P w:=by
 have : (⟨u⟩ ++ args.map a.eval ++ ⟨c⟩:Array Value)=⟨u++args.toList.map a.eval++c⟩:=by
  apply Array.toList_inj.1;simp
 simp only [execOp,resolve,hg,Deferred.ofValue,Sem.run_bind,Sem.run_pure,Result.andThen_ok,invoke]
 rw [<- this]
theorem flats {τ:Nat->Tag} {l l':List Value} (h:VRs τ l l') (hf:l.all jcs=true):l'=l:=by
 induction l generalizing l' with
 | nil => cases h; rfl
 | cons a l ih =>
   cases h with
   | cons e h=>
     simp at hf
     rw [ih h (by simpa using hf.2)]
     congr 1
     cases e <;> first | rfl | (simp [jcs] at hf;done)
theorem z8g {X:FuncId->List Value->Option (Bool×Value)} (hX:XOK P X) {g:Operand} {args:Array Operand} {at_:Array TypeId}
 (h:j8p X (f g) (args.toList.map f) K S=some r) :
 ∃ v,K v S=some r/\∀ S,j0z P G ⟨d,.call ⟨.value g,args,at_⟩,ty,ps,ed,gd⟩ f S v:=by
 generalize hg:f g=u at h
 unfold j8p at h
 split at h
 ·rename_i k first cap
  obtain ⟨⟨h1,h2,hf⟩,h⟩:=jyx h
  obtain ⟨q,hx,h⟩:=jz3 h
  obtain ⟨hq,h⟩:=jyx h
  obtain ⟨q1,v⟩:=q
  simp only at hq h
  subst hq
  obtain ⟨hvf,hrun⟩:=hX _ _ _ hx
  refine ⟨v,h,λ _ τ a w hv _=>⟨v,?_,.of_flat hvf⟩⟩
  have h3:=hv g (by simp [Op.operands,Call.operands])
  rw [hg] at h3
  simp at h1 h2
  subst h1 h2
  obtain ⟨f',c',e,h4,h5⟩:=VR.func_inv (f:=[]) (c:=[]) h3
  cases h4;cases h5
  have hv':VRs τ (args.toList.map f) (args.toList.map a.eval):=VRs.map_of λ z hz=>hv z (by simp [Op.operands,Call.operands]; exact .inr (by simpa using hz))
  rw [jbp a g args at_ w e,flats hv' hf]
  simpa using hrun w
 ·cases h
theorem z8f {C:FuncId->List Value->M Value} (hC:COK P G C) {g:Operand} {args:Array Operand} {at_:Array TypeId}
 (h:j8o C T ty (f g) (args.toList.map f) K S=some r) :
 ∃ v S',K v S'=some r/\j0t P G ⟨d,.call ⟨.value g,args,at_⟩,ty,ps,ed,gd⟩ f S v S':=by
 obtain ⟨i,hi,h⟩:=jz9 h
 obtain ⟨v,S',hc,hk⟩:=M.bind_some h
 generalize hg:f g=u at hc
 unfold j6k at hc
 split at hc
 ·rename_i k first cap
  have hvs:∀ {τ:Nat->Tag} {a:Act},(∀ z∈(Op.call ⟨.value g,args,at_⟩).operands,VR τ (f z) (a.eval z)) ->
   ∃ f' c',a.eval g = .func (.func k) ⟨f'⟩ ⟨c'⟩/\VRs τ (first.toList++args.toList.map f++cap.toList) (f'++args.toList.map a.eval++c'):=by
   intro τ a hv
   have h1:=hv g (by simp [Op.operands,Call.operands])
   rw [hg] at h1
   obtain ⟨f',c',e,h2,h3⟩:=VR.func_inv (f:=first.toList) (c:=cap.toList) h1
   refine ⟨f',c',e,(h2.append (VRs.map_of λ z hz=>hv z ?_)).append h3⟩
   simp [Op.operands,Call.operands]
   exact .inr (by simpa using hz)
  obtain ⟨hen,hsc⟩:=hC _ _ _ _ _ hc
  refine ⟨v,S',z2l hk,hsc.len,λ N τ a w hN hno hv hr=>?_⟩
  obtain ⟨f',c',e,hv'⟩:=hvs hv
  refine OS.enter (by rw [jbp a g args at_ w e]; exact hen _ _) ?_
  exact hsc.calls N τ w _ hN hno hv' hr
 ·cases hc
end Go.AM
namespace Go.AM
open Go
variable {P:Program} {G:List (Nat×Obj)} {ρ:Type}
def IOK (P:Program) (I:TypeId->String->Option (FuncId×Option TypeId)):Prop:=
 ∀ t m k l,I t m=some (k,l)->match l with
  | none=>∀ v w,(method (P.types.size+Made.depth) t v m).run P w = .ok (k,v) w
  | some e=>∀ a w,(method (P.types.size+Made.depth) t (.pointer (some a)) m).run P w=(do let u <- loadVar e a;pure (k,u):Sem (FuncId×Value)).run P w
def jx0 (I:TypeId->String->Option (FuncId×Option TypeId)) (T:TypeId->Option TI) (C:FuncId->List Value->M Value) (m:String) (recv:Value) (args:List Value):M Value:=
 match recv with
 | .iface t v => jz2 (I t m) λ q => match q.2 with
   | none=>C q.1 (v :: args)
   | some e=>j94 T e v λ u=>C q.1 (u :: args)
 | _ => M.fail
abbrev j0l:=(FuncId->List Value->M Value)->String->Value->List Value->M Value
def j0n (P:Program) (G:List (Nat×Obj)) (I:j0l):Prop:=
 ∀ C,COK P G C->∀ m recv args S v S',I C m recv args S=some (v,S')->S.length<=S'.length /\
  ∀ (N:Nat) (τ:Nat->Tag) (w:World) (recv':Value) (args':List Value),S'.length<=N->(∀ i,S.length<=i->i < N->τ i = .no)->VR τ recv recv'->VRs τ args args'->HR G τ S w ->
   ∃ k l,(callMethod recv' m ⟨args'⟩).run P w = .ok (.enter k l) w/\Calls P k l w λ e w'=>∃ v',e = .returned v'/\∃ τ',VR τ' v v'/\HR G τ' S' w'/\Ext τ S w τ' S' w'
theorem jvr {T:TypeId->Option TI} (hT:TOK P T) {e:TypeId} {v:Value} {K:Value->M ρ} {S:St} {r:ρ×St} (h:j94 T e v K S=some r) :
 ∃ u a,v = .pointer (some a)/\K u S=some r/\∀ (τ:Nat->Tag) (w:World) v',VR τ v v'->HR G τ S w->∃ a' u',v' = .pointer (some a')/\(loadVar e a').run P w = .ok u' w/\VR τ u u':=by
 have h0:=h
 obtain ⟨i,hi,h⟩:=jz9 h
 obtain ⟨a,hx,h⟩:=jz5 h
 let F:Operand->Value:=λ _=>v
 obtain ⟨u, h1, h2, _⟩ := z8s (P := P) (G := G) hT (t := e) (x := .tmp 0) (d := none) (ty := 0) (ps := "") (ed := #[]) (gd := none) (f := F) h0
 refine ⟨u,a,hx,h1,λ τ w v' hv hr=>?_⟩
 subst hx
 obtain ⟨a',rfl,_⟩:=hv.ptr_inv
 obtain ⟨u',h3,h4⟩:=h2 τ { tmps:=#[.pointer (some a')],defers:=[] } w (λ x hx=>by
  simp [Op.operands] at hx
  subst hx
  exact hv) hr
 refine ⟨a',u',rfl,?_,h4⟩
 simp only [execOp,Act.eval,Instr.loadAt,Instr.sureAddr,Array.getD,Sem.run_bind,Sem.run_pure] at h3
 simp at h3
 cases hl:(loadVar e a').run P w with
 | ok b w2 =>
   rw [hl] at h3
   simp [Result.andThen] at h3
   rw [h3.1,h3.2]
 | _ => rw [hl] at h3; simp [Result.andThen] at h3
theorem jx1 {I:TypeId->String->Option (FuncId×Option TypeId)} {T:TypeId->Option TI} (hI:IOK P I) (hT:TOK P T):j0n P G (jx0 I T):=by
 intro C hC m recv args S v S' h
 unfold jx0 at h
 split at h
 ·rename_i t x
  obtain ⟨⟨k,l⟩,hk,h⟩:=jz3 h
  have hi:=hI t m k l hk
  cases l with
  | none=>
    dsimp only at h hi
    obtain ⟨hen,hsc⟩:=hC _ _ _ _ _ h
    refine ⟨hsc.len,λ N τ w recv' args' hN hno hv hvs hr=>?_⟩
    obtain ⟨x',rfl,hx⟩:=hv.iface_inv
    refine ⟨k,⟨x' :: args'⟩,?_,hsc.calls N τ w _ hN hno (.cons hx hvs) hr⟩
    have h6:=hen ⟨x' :: args'⟩ w
    have h7:=hi x' w
    simp only [callMethod,Sem.run_bind]
    simp [h7]
    simpa using h6
  | some e=>
    dsimp only at h hi
    obtain ⟨u,a,rfl,h,hld⟩:=jvr (P:=P) (G:=G) hT h
    obtain ⟨hen,hsc⟩:=hC _ _ _ _ _ h
    refine ⟨hsc.len,λ N τ w recv' args' hN hno hv hvs hr=>?_⟩
    obtain ⟨x',rfl,hx⟩:=hv.iface_inv
    obtain ⟨a',u',rfl,hrun,hu⟩:=hld τ w x' hx hr
    refine ⟨k,⟨u' :: args'⟩,?_,hsc.calls N τ w _ hN hno (.cons hu hvs) hr⟩
    have h6:=hen ⟨u' :: args'⟩ w
    have h7:=hi a' w
    simp only [callMethod,Sem.run_bind]
    simp [h7,hrun]
    simpa using h6
 ·cases h
def j91 (I:j0l) (C:FuncId->List Value->M Value) (T:TypeId->Option TI) (ty:TypeId) (m:String) (recv:Value) (args:List Value) (K:Value->M ρ):M ρ:=
 jz8 T ty λ i=>M.bind (I C m recv args) λ v=>z2k i.zero v K
section
variable {T:TypeId->Option TI} {t:TypeId} {x y:Operand} {d:Option Tmp} {ty:TypeId} {ps:String} {ed:Array Edge} {gd:Option (Nat×Bool)}
 {f:Operand->Value} {K:Value->M ρ} {S:St} {r:ρ×St}
theorem z8p {I:j0l} (hI:j0n P G I) {C:FuncId->List Value->M Value} (hC:COK P G C) {g:Operand} {m:String} {args:Array Operand} {at_:Array TypeId}
 (h:j91 I C T ty m (f g) (args.toList.map f) K S=some r) :
 ∃ v S',K v S'=some r/\j0t P G ⟨d,.call ⟨.invoke g m,args,at_⟩,ty,ps,ed,gd⟩ f S v S':=by
 obtain ⟨i,hi,h⟩:=jz9 h
 obtain ⟨v,S',hc,hk⟩:=M.bind_some h
 obtain ⟨hlen,hsim⟩:=hI C hC _ _ _ _ _ _ hc
 refine ⟨v,S',z2l hk,hlen,λ N τ a w hN hno hv hr=>?_⟩
 have h1:=hv g (by simp [Op.operands,Call.operands])
 have h2:VRs τ (args.toList.map f) (args.toList.map a.eval):=VRs.map_of λ z hz=>hv z (by simp [Op.operands,Call.operands]; exact .inr (by simpa using hz))
 obtain ⟨k,l,hrun,hcalls⟩:=hsim N τ w _ _ hN hno h1 h2 hr
 refine OS.enter ?_ hcalls
 simp only [execOp,resolve,Sem.run_bind,Sem.run_pure,Result.andThen_ok,invoke]
 have e0:(#[a.eval g]++Array.map a.eval args)[0]? = some (a.eval g):=by
  have h3:(#[a.eval g]++Array.map a.eval args).toList=a.eval g :: args.toList.map a.eval:=by simp
  rw [<- Array.getElem?_toList,h3]; rfl
 have e1:(#[a.eval g]++Array.map a.eval args).extract 1 (#[a.eval g]++Array.map a.eval args).size=⟨args.toList.map a.eval⟩:=by
  apply Array.toList_inj.1
  simp
  rw [List.take_of_length_le (by simp)]
 rw [e0,e1]
 exact hrun
def jye (d:TD) (K:Nat->M ρ):M ρ:=match d with
 | .array n _ _ => K n
 | _ => M.fail
theorem jyf {d:TD} {K:Nat->M ρ} {S:St} {r:ρ×St} (h:jye d K S=some r):∃ n sz ag,d = .array n sz ag/\K n S=some r:=by
 unfold jye at h
 split at h
 ·exact ⟨_,_,_,rfl,h⟩
 ·cases h
def zdf (x:Value) (n:Nat) (K:Value->M ρ):M ρ:=match x with
 | .slice a l _ => jr0 (n <= l) (K (.pointer a))
 | _ => M.fail
def j8j (T:TypeId->Option TI) (t:TypeId) (x:Value) (K:Value->M ρ):M ρ:=
 jz8 T t λ i=>jye i.d λ n=>zdf x n K
theorem z89 (hT:TOK P T) (h:j8j T t (f x) K S=some r):∃ v,K v S=some r/\∀ S,j0z P G ⟨d,.sliceToArrayPointer t x,ty,ps,ed,gd⟩ f S v:=by
 obtain ⟨i,hi,h⟩:=jz9 h
 obtain ⟨n,sz,ag,hd,h⟩:=jyf h
 obtain ⟨e,hu⟩:∃ e,P.underlying t=some (.array n e):=by
  obtain ⟨e,_,_,hu,_⟩:=zd6 (hT t i hi) hd
  exact ⟨e,hu⟩
 generalize hx:f x=u at h
 unfold zdf at h
 split at h
 ·rename_i a l c
  obtain ⟨hle,h⟩:=jr1 h
  refine ⟨_,h,λ S τ a' w hv hr=>?_⟩
  have hv:=hv x (by simp [Op.operands])
  rw [hx] at hv
  cases a with
  | none=>
    have:=hv.snil
    refine ⟨.pointer none,?_,.flat rfl⟩
    simp [execOp,Instr.arrayAt,run_underlying hu,this,Nat.not_lt.2 hle]
  | some a=>
    obtain ⟨b,k',hb,hk',hrel⟩:=hv.slice_inv
    refine ⟨.pointer (some b),?_,?_⟩
    ·simp [execOp,Instr.arrayAt,run_underlying hu,hb,Nat.not_lt.2 hle]
    ·rcases hrel with hd | ⟨c',g,h1,h2,h3,_⟩
     ·exact .ptrDead hd
     ·subst h3
      obtain ⟨ab,ao,asp⟩:=a
      cases h2
      exact .ptr h1
 ·cases h
end
end Go.AM
namespace Go.AM
open Go
variable {P:Program} {G:List (Nat×Obj)} {ρ:Type}
def j0s (P:Program) (z:List Value) (t:TypeId):Prop:=
 j0c P z t/\(∀ l,z17 z l=true->∀ e w,(Instr.checkKey e 10000 t (.agg ⟨l⟩)).run P w = .ok () w)/\∃ fs,P.underlying t=some (.struct fs)
def jt1 (z:List Value):Value->Bool
 | .agg l => z17 z l.toList
 | _ => false
def eqK (l:List Value):Value->Bool
 | .agg m => eqL l m.toList
 | _ => false
def jda (l:List Value):List (Value×Value×Nat)->Nat->Option (Nat×Value×Nat)
 | [], _ => none
 | e :: es, i => bif eqK l e.1 then some (i, e.2.1, e.2.2) else jda l es (i + 1)
def ldM (z:List Value) (z0:Value) (r:Nat) (l:List Value):M (Value×Bool):=λ S=>
 match S[r]? with
 | some (.map es _) => if es.all (λ e => jt1 z e.1) = true /\ z17 z l = true then
    match jda l es 0 with
    | some (_,v,_)=>some ((v,true),S)
    | none=>some ((z0,false),S)
   else none
 | _ => none
def meM (z:List Value) (z0:Value) (r:Nat) (l:List Value):M (Value×Nat):=λ S=>
 match S[r]? with
 | some (.map es k) => if es.all (λ e => jt1 z e.1) = true /\ z17 z l = true then
    match jda l es 0 with
    | some (_,v,n)=>some ((v,n),S)
    | none=>some ((z0,k),S.set r (.map (es++[(.agg ⟨l⟩,z0,k)]) (k+1)))
   else none
 | _ => none
def esM (r:Nat) (n:Int) (u:Value):M Unit:=λ S=>
 match S[r]? with
 | some (.map es k) => match es.findIdx? λ e => (e.2.2 : Int) == n with
   | some i=>some ((),S.set r (.map (es.modify i λ e=>(e.1,u,e.2.2)) k))
   | none=>none
 | _ => none
def jz0 (d:TD) (K:TypeId->Value->M ρ):M ρ:=match d with
 | .map k z => K k z
 | _ => M.fail
theorem jz1 {d:TD} {K:TypeId->Value->M ρ} {S:St} {r:ρ×St} (h:jz0 d K S=some r):∃ k z,d = .map k z/\K k z S=some r:=by
 unfold jz0 at h
 split at h
 ·exact ⟨_,_,rfl,h⟩
 ·cases h
def asR (m:Value) (K:Nat->M ρ):M ρ:=match m with
 | .map r => jz2 r K
 | _ => M.fail
theorem j5a {m:Value} {K:Nat->M ρ} {S:St} {r:ρ×St} (h:asR m K S=some r):∃ b,m = .map (some b)/\K b S=some r:=by
 unfold asR at h
 split at h
 ·obtain ⟨b,rfl,h⟩:=jz3 h
  exact ⟨b,rfl,h⟩
 ·cases h
def j53 (m:Value) (K:List Value->M ρ):M ρ:=match m with
 | .agg l => K l.toList
 | _ => M.fail
theorem j54 {m:Value} {K:List Value->M ρ} {S:St} {r:ρ×St} (h:j53 m K S=some r):∃ l,m = .agg ⟨l⟩/\K l S=some r:=by
 unfold j53 at h
 split at h
 ·exact ⟨_,rfl,h⟩
 ·cases h
def j95 (T:TypeId->Option TI) (mk:TypeId->Option (List Value)) (t:TypeId) (m k:Value) (ok:Bool) (K:Value->M ρ):M ρ:=
 jz8 T t λ i=>jz0 i.d λ kt z0=>jz2 (mk kt) λ z=>jyw (jcs z0=true) (asR m λ r=>j53 k λ l=>M.bind (ldM z z0 r l) λ q=>bif ok then K (.tuple ⟨[q.1,.bool q.2]⟩) else prj z0 q.1 K)
def j99 (T:TypeId->Option TI) (mk:TypeId->Option (List Value)) (t:TypeId) (m k:Value) (K:Value->M ρ):M ρ:=
 jz8 T t λ i=>jz0 i.d λ kt z0=>jz2 (mk kt) λ z=>jyw (jcs z0=true) (asR m λ r=>j53 k λ l=>M.bind (meM z z0 r l) λ q=>prj z0 q.1 λ v=>K (.tuple ⟨[v,.int .i64 q.2]⟩))
def j8u (m s u:Value) (K:Value->M ρ):M ρ:=
 asR m λ r=>M.bind (asI .i64 s) λ n=>M.bind (esM r n u) λ _=>K undef
theorem jt2 {z:List Value} {k:Value} (h:jt1 z k=true):∃ l,k = .agg ⟨l⟩/\z17 z l=true:=by
 unfold jt1 at h
 split at h
 ·exact ⟨_,rfl,h⟩
 ·cases h
theorem z19:∀ {z l:List Value},z17 z l=true->l.all jcs=true
 | [], [], _ => rfl
 | [], _ :: _, h => by simp [z17] at h
 | a :: z, [], h => by cases a <;> simp [z17] at h
 | a :: z, b :: l, h => by
   unfold z17 at h
   split at h
   ·cases ‹a :: z=[]›
   ·rename_i e1 e2;injection e1 with _ e1;injection e2 with e3 e2
    subst e1 e2 e3
    simp at h
    rw [List.all_cons,z19 h.2]; rfl
   ·rename_i e1 e2;injection e1 with _ e1;injection e2 with e3 e2
    subst e1 e2 e3
    rw [List.all_cons,z19 h]; rfl
   ·cases h
theorem z18 (n:Nat):∀ {z l:List Value},z17 z l=true->((l.zip l).all λ (x,y)=>Instr.sameBits n x y)=true
 | [], [], _ => rfl
 | [], _ :: _, h => by simp [z17] at h
 | a :: z, [], h => by cases a <;> simp [z17] at h
 | a :: z, b :: l, h => by
   unfold z17 at h
   split at h
   ·cases ‹a :: z=[]›
   ·rename_i e1 e2;injection e1 with _ e1;injection e2 with e3 e2
    subst e1 e2 e3
    simp at h
    have:=z18 n h.2
    simp only [List.zip_cons_cons,List.all_cons,this,Bool.and_true]
    simp [Instr.sameBits]
   ·rename_i e1 e2;injection e1 with _ e1;injection e2 with e3 e2
    subst e1 e2 e3
    have:=z18 n h
    simp only [List.zip_cons_cons,List.all_cons,this,Bool.and_true]
    simp [Instr.sameBits]
   ·cases h
theorem jay:∀ {z l m:List Value},z17 z l=true->z17 z m=true->eqL l m=true->l=m
 | [], [], [], _, _, _ => rfl
 | [], _ :: _, _, h, _, _ => by simp [z17] at h
 | [], [], _ :: _, _, h, _ => by simp [z17] at h
 | a :: z, [], _, h, _, _ => by cases a <;> simp [z17] at h
 | a :: z, _ :: _, [], _, h, _ => by cases a <;> simp [z17] at h
 | a :: z, b :: l, c :: m, h, k, e => by
   unfold z17 at h k
   split at h
   ·cases ‹a :: z=[]›
   ·rename_i e1 e2;injection e1 with e0 e1;injection e2 with e3 e2
    subst e1 e2 e3 e0
    simp at h
    cases c with
    | int q x=>
      simp at k
      simp [eqL] at e
      rw [jay h.2 k.2 e.2,e.1,<- h.1,<- k.1]
    | _=>simp at k
   ·rename_i e1 e2;injection e1 with e0 e1;injection e2 with e3 e2
    subst e1 e2 e3 e0
    cases c with
    | bool x=>
      simp at k
      simp [eqL] at e
      rw [jay h k e.2,e.1]
    | _=>simp at k
   ·cases h
theorem jc9 {z:List Value} {kt:TypeId} (hk:j0s P z kt) {l:List Value} (hl:z17 z l=true) (w:World):∀ {es:List (Value×Value×Nat)} {es':List MapEntry} {τ:Nat->Tag} (i:Nat),ER τ es es'->es.all (λ e=>jt1 z e.1)=true ->
 (match jda l es i with
  | some (j,v,n)=>∃ v',(Instr.findAsking kt (.agg ⟨l⟩) es' i).run P w = .ok (some (j,v')) w/\VR τ v v'/\i<=j/\es[j-i]? = some (.agg ⟨l⟩,v,n)/\es'[j-i]? = some { key:=.agg ⟨l⟩,val:=v',born:=n }
  | none=>(Instr.findAsking kt (.agg ⟨l⟩) es' i).run P w = .ok none w)
 | [], _, τ, i, .nil, _ => by simp [jda, Instr.findAsking]
 | (k, v, n) :: es, _, τ, i, .cons (v' := v') (l' := es') hv he, ha => by
   simp only [List.all_cons,Bool.and_eq_true] at ha
   obtain ⟨m,rfl,hm⟩:=jt2 ha.1
   have heq:=(hk.1 l m hl hm w).1
   unfold jda
   cases hb:eqL l m with
   | true=>
     have:=jay hl hm hb
     subst this
     simp only [eqK,hb,cond_true]
     refine ⟨v',?_,hv,Nat.le_refl _,by simp,by simp⟩
     simp [Instr.findAsking,heq,hb]
   | false=>
     simp only [eqK,hb,cond_false]
     have ih:=jc9 hk hl w (i+1) he ha.2
     cases hf:jda l es (i+1) with
     | none=>
       rw [hf] at ih
       simp [Instr.findAsking,heq,hb,ih]
     | some q=>
       obtain ⟨j,u,p⟩:=q
       rw [hf] at ih
       obtain ⟨u',h1,h2,h3,h4,h5⟩:=ih
       refine ⟨u',?_,h2,by omega,?_,?_⟩
       ·simp [Instr.findAsking,heq,hb,h1]
       ·rw [show j-i=(j-(i+1))+1 by omega,List.getElem?_cons_succ,h4]
       ·rw [show j-i=(j-(i+1))+1 by omega,List.getElem?_cons_succ,h5]
theorem ER.snoc {τ:Nat->Tag} {es:List (Value×Value×Nat)} {es':List MapEntry} (h:ER τ es es') {k v v':Value} {n:Nat} (hv:VR τ v v'):ER τ (es++[(k,v,n)]) (es'++[{ key:=k,val:=v',born:=n }]):=by
 induction h with
 | nil => exact .cons hv .nil
 | cons a _ ih => exact .cons a ih
theorem ER.mod {τ:Nat->Tag} {es:List (Value×Value×Nat)} {es':List MapEntry} (h:ER τ es es') {u u':Value} (hu:VR τ u u'):∀ i,ER τ (es.modify i λ e=>(e.1,u,e.2.2)) (es'.modify i λ e=>{ e with val:=u' }):=by
 induction h with
 | nil => intro i; cases i <;> exact .nil
 | cons a h ih =>
   intro i
   cases i with
   | zero=>simp;exact .cons hu h
   | succ i=>simp;exact .cons a (ih i)
theorem ER.idx {τ:Nat->Tag} {es:List (Value×Value×Nat)} {es':List MapEntry} (h:ER τ es es') (n:Int):es'.findIdx? (λ e=>(e.born:Int) == n)=es.findIdx? λ e=>(e.2.2:Int) == n:=by
 induction h with
 | nil => rfl
 | cons a _ ih => simp [List.findIdx?_cons, ih]
theorem jc6 {z:List Value} {kt:TypeId} (hk:j0s P z kt) {l:List Value} (w:World) {es':List MapEntry} {q:Option (Nat×Value)} (hf:(Instr.findAsking kt (.agg ⟨l⟩) es' 0).run P w = .ok q w) :
 (Instr.findKey kt (.agg ⟨l⟩) es').run P w = .ok q w:=by
 obtain ⟨fs,hu⟩:=hk.2.2
 unfold Instr.findKey
 cases es' with
 | nil =>
   simp [Instr.findAsking] at hf
   simp [run_underlying hu,Instr.findNow,hf]
 | cons e es' => simp [run_underlying hu, Instr.findNow, Instr.sameNow, hf]
section
variable {T:TypeId->Option TI} {mk:TypeId->Option (List Value)} {t:TypeId} {x y:Operand} {d:Option Tmp} {ty:TypeId} {ps:String} {ed:Array Edge} {gd:Option (Nat×Bool)}
 {f:Operand->Value} {K:Value->M ρ} {S:St} {r:ρ×St}
theorem jus {z l:List Value} {z0:Value} {r:Nat} {S S':St} {q:Value×Bool} (h:ldM z z0 r l S=some (q,S')):S'=S/\∃ es k,S[r]? = some (.map es k)/\es.all (λ e=>jt1 z e.1)=true/\z17 z l=true /\
 q=match jda l es 0 with
  | some (_,v,_)=>(v,true)
  | none=>(z0,false):=by
 unfold ldM at h
 split at h
 ·rename_i es k hs
  split at h
  ·rename_i hc
   split at h
   ·rename_i hf;cases h;exact ⟨rfl,es,k,hs,hc.1,hc.2,by rw [hf]⟩
   ·rename_i hf;cases h;exact ⟨rfl,es,k,hs,hc.1,hc.2,by rw [hf]⟩
  ·cases h
 ·cases h
theorem jwi {τ:Nat->Tag} {w:World} (hr:HR G τ S w) {b k:Nat} {es:List (Value×Value×Nat)} (hb:S[b]? = some (.map es k)) {v:Value} (hv:VR τ (.map (some b)) v) :
 ∃ c g es',v = .map (some c)/\τ b = .live c g/\w.heap[c]? = some (.map ⟨es'⟩ k)/\ER τ es es':=by
 cases hv with
 | flat h => cases h
 | map h =>
   obtain ⟨o',h1,h2⟩:=hr.live _ _ _ _ h hb
   cases h2 with
   | map h3=>exact ⟨_,_,_,rfl,h,h1,h3⟩
 | mapDead h => have := hr.dead _ _ h hb; cases this
theorem j29 {τ:Nat->Tag} {l:List Value} {v:Value} (hv:VR τ (.agg ⟨l⟩) v) (hl:l.all jcs=true):v = .agg ⟨l⟩:=by
 cases hv with
 | flat h => cases h
 | agg h => rw [flats h hl]
theorem z8t (hT:TOK P T) (hM:∀ t z,mk t=some z->j0s P z t) {ok:Bool} (h:j95 T mk t (f x) (f y) ok K S=some r) :
 ∃ v,K v S=some r/\j0z P G ⟨d,.lookup t x y ok,ty,ps,ed,gd⟩ f S v/\∀ {σ:Type} (L:Value->M σ),j95 T mk t (f x) (f y) ok L S=L v S:=by
 obtain ⟨i,hi,h⟩:=jz9 h
 obtain ⟨kt,z0,hd,h⟩:=jz1 h
 obtain ⟨z,hz,h⟩:=jz3 h
 obtain ⟨hz0,h⟩:=jyx h
 obtain ⟨b,hx,h⟩:=j5a h
 obtain ⟨l,hy,h⟩:=j54 h
 obtain ⟨q,S',hq,h⟩:=M.bind_some h
 obtain ⟨rfl,es,k,hs,hall,hpl,rfl⟩:=jus hq
 obtain ⟨et,j,hu,hj1,hj2⟩:=zdb (hT t i hi) hd
 have hk:=hM kt z hz
 have sim:∀ q:Value×Bool,q=(match jda l es 0 with
  | some (_,v,_)=>(v,true)
  | none=>(z0,false))->j0z P G ⟨d,.lookup t x y ok,ty,ps,ed,gd⟩ f S' (bif ok then .tuple ⟨[q.1,.bool q.2]⟩ else q.1):=by
  intro q hq τ a w hv hr
  have h1:=hv x (by simp [Op.operands])
  have h2:=hv y (by simp [Op.operands])
  rw [hx] at h1
  rw [hy] at h2
  obtain ⟨c,g,es',e1,e2,e3,e4⟩:=jwi hr hs h1
  have e5:=j29 h2 (z19 hpl)
  have hfind:=jc9 hk hpl w 0 e4 hall
  have hchk:=hk.2.1 l hpl
  have hget:(getObj c).run P w = .ok (.map ⟨es'⟩ k) w:=by simp [getObj,Sem.run,e3]
  cases hf:jda l es 0 with
  | none=>
    rw [hf] at hfind hq
    subst hq
    have:=jc6 hk w hfind
    have hz:=z77 (P:=P) (w:=w) hj1 hj2
    refine ⟨bif ok then .tuple ⟨[z0,.bool false]⟩ else z0,?_,?_⟩
    ·cases ok <;> simp [execOp,Instr.lookup,e1,e5,run_underlying hu,hget,hchk,this,hz]
    ·cases ok
     ·exact .flat hz0
     ·exact .tuple (.cons (.flat hz0) (.cons (.flat rfl) .nil))
  | some p=>
    obtain ⟨n,v,m⟩:=p
    rw [hf] at hfind hq
    subst hq
    obtain ⟨v',h3,h4,_⟩:=hfind
    have:=jc6 hk w h3
    refine ⟨bif ok then .tuple ⟨[v',.bool true]⟩ else v',?_,?_⟩
    ·cases ok <;> simp [execOp,Instr.lookup,e1,e5,run_underlying hu,hget,hchk,this]
    ·cases ok
     ·exact h4
     ·exact .tuple (.cons h4 (.cons (.flat rfl) .nil))
 refine ⟨_,?_,sim _ rfl,λ L=>?_⟩
 ·rcases j61 h with ⟨h1,h⟩ | ⟨h1,h⟩
  ·rw [h1]; exact h
  ·rw [h1]; exact z2o h
 ·unfold j95 jz8 jz0
  simp only [hi,hd,hz,hx,hy,jz2,jyw,hz0,asR,j53,jr0,M.bind,hq,if_true]
  rcases j61 h with ⟨h1,h⟩ | ⟨h1,h⟩
  ·simp only [h1,cond_true]
  ·simp only [h1,cond_false]; exact z2m h L
theorem jwj {z l:List Value} {z0:Value} {r:Nat} {S S':St} {q:Value×Nat} (h:meM z z0 r l S=some (q,S')):∃ es k,S[r]? = some (.map es k)/\es.all (λ e=>jt1 z e.1)=true/\z17 z l=true /\
 ((∃ j v n,jda l es 0=some (j,v,n)/\q=(v,n)/\S'=S)\/jda l es 0=none/\q=(z0,k)/\S'=S.set r (.map (es++[(.agg ⟨l⟩,z0,k)]) (k+1))):=by
 unfold meM at h
 split at h
 ·rename_i es k hs
  split at h
  ·rename_i hc
   split at h
   ·rename_i hf;cases h;exact ⟨es,k,hs,hc.1,hc.2,.inl ⟨_,_,_,hf,rfl,rfl⟩⟩
   ·rename_i hf;cases h;exact ⟨es,k,hs,hc.1,hc.2,.inr ⟨hf,rfl,rfl⟩⟩
  ·cases h
 ·cases h
def z7z (w:World) (b:Nat) (o:Obj):World:={ w with heap:=w.heap.setIfInBounds b o }
theorem z85 {w:World} {c:Nat} {o:Obj} (h:w.heap[c]? = some o):z7z w c o=w:=by
 have : w.heap.setIfInBounds c o=w.heap:=by
  apply Array.ext_getElem?
  intro i
  rw [Array.getElem?_setIfInBounds]
  split
  ·rename_i e;subst e
   have h1:=(Array.getElem?_eq_some_iff.1 h).1
   rw [if_pos h1,h]
  ·rfl
 simp [z7z,this]
theorem z8w (hT:TOK P T) (hM:∀ t z,mk t=some z->j0s P z t) (h:j99 T mk t (f x) (f y) K S=some r) :
 ∃ v S',K v S'=some r/\j0t P G ⟨d,.mapEntry t x y,ty,ps,ed,gd⟩ f S v S':=by
 obtain ⟨i,hi,h⟩:=jz9 h
 obtain ⟨kt,z0,hd,h⟩:=jz1 h
 obtain ⟨z,hz,h⟩:=jz3 h
 obtain ⟨hz0,h⟩:=jyx h
 obtain ⟨b,hx,h⟩:=j5a h
 obtain ⟨l,hy,h⟩:=j54 h
 obtain ⟨q,S',hq,h⟩:=M.bind_some h
 have h:=z2o h
 obtain ⟨es,k,hs,hall,hpl,hcase⟩:=jwj hq
 obtain ⟨et,j,hu,hj1,hj2⟩:=zdb (hT t i hi) hd
 have hk:=hM kt z hz
 have hbl:b < S.length:=by
  rcases Nat.lt_or_ge b S.length with h | h
  ·exact h
  ·rw [List.getElem?_eq_none h] at hs;cases hs
 refine ⟨_,S',h,?_,λ N τ a w hN hno hv hr=>?_⟩
 ·rcases hcase with ⟨_,_,_,_,_,rfl⟩ | ⟨_,_,rfl⟩ <;> simp
 have h1:=hv x (by simp [Op.operands])
 have h2:=hv y (by simp [Op.operands])
 rw [hx] at h1
 rw [hy] at h2
 obtain ⟨c,g,es',e1,e2,e3,e4⟩:=jwi hr hs h1
 have e5:=j29 h2 (z19 hpl)
 have hfind:=jc9 hk hpl w 0 e4 hall
 have hchk:=hk.2.1 l hpl
 have hget:(getObj c).run P w = .ok (.map ⟨es'⟩ k) w:=by simp [getObj,Sem.run,e3]
 have hset:∀ o,(setObj c o).run P w = .ok () (z7z w c o):=λ o=>by simp [setObj,Sem.run,e3,z7z]
 have hblt:=(Array.getElem?_eq_some_iff.1 e3).1
 rcases hcase with ⟨jj,v,n,hf,rfl,rfl⟩ | ⟨hf,rfl,rfl⟩
 ·rw [hf] at hfind
  obtain ⟨v',h3,h4,_,_,h5⟩:=hfind
  have hkey:=jc6 hk w h3
  rw [Nat.sub_zero] at h5
  have hstay:(Instr.keyThatStays (.agg ⟨l⟩) (.agg ⟨l⟩)).run P w = .ok (.agg ⟨l⟩) w:=by
   have : Instr.sameBits 10000 (.agg ⟨l⟩) (.agg ⟨l⟩)=true:=by
    unfold Instr.sameBits
    have:=z18 9999 hpl
    simp only [beq_self_eq_true,Bool.true_and]
    exact this
   simp [Instr.keyThatStays,this]
  have hmod:(es'.modify jj λ e=>{ e with key:=.agg ⟨l⟩ })=es':=by
   apply List.ext_getElem?
   intro m
   rw [List.getElem?_modify]
   by_cases hj:jj=m
   ·subst hj;rw [h5]; simp
   ·simp [hj]
  refine OS.value (v:=.tuple #[v',.int .i64 n]) (w':=w) ?_ ⟨τ,.tuple (.cons h4 (.cons (.flat rfl) .nil)),hr,.refl _ _ _⟩
  have hsame:=z85 e3
  simp only [execOp,Instr.mapEntry,e1,e5,Sem.run_bind,run_underlying hu,hget,hchk,hkey,Result.andThen,List.getElem?_toArray,h5,Option.map_some,Option.getD_some,hstay,hset,Sem.run_pure]
  simp [goInt,hmod,hsame]
 ·rw [hf] at hfind
  have hkey:=jc6 hk w hfind
  have hzv:=z77 (P:=P) (w:=w) hj1 hj2
  refine OS.value (v:=.tuple #[z0,.int .i64 k]) (w':=z7z w c (.map ⟨es'++[{ key:=.agg ⟨l⟩,val:=z0,born:=k }]⟩ (k+1))) ?_ ⟨τ,.tuple (.cons (.flat hz0) (.cons (.flat rfl) .nil)),?_,?_⟩
  ·simp only [execOp,Instr.mapEntry,e1,e5,Sem.run_bind,run_underlying hu,hget,hchk,hkey,hzv,Result.andThen,hset,Sem.run_pure]
   simp [goInt]
  ·refine hr.put e2 (OR.map (e4.snoc (.flat hz0))) (by simp [z7z,hblt]) (λ c' hc=>by simp [z7z]; rw [Array.getElem?_setIfInBounds_ne (λ e=>hc e.symm)]) (by simp [z7z])
  ·exact Ext.put e2 hbl (λ c' hc=>by simp [z7z]; rw [Array.getElem?_setIfInBounds_ne (λ e=>hc e.symm)]) (by simp [z7z]) rfl rfl rfl
theorem jbd {r:Nat} {n:Int} {u:Value} {S S':St} (h:esM r n u S=some ((),S')):∃ es k i,S[r]? = some (.map es k)/\(es.findIdx? λ e=>(e.2.2:Int) == n)=some i/\S'=S.set r (.map (es.modify i λ e=>(e.1,u,e.2.2)) k):=by
 unfold esM at h
 split at h
 ·rename_i es k hs
  split at h
  ·rename_i i hi;cases h;exact ⟨es,k,i,hs,hi,rfl⟩
  ·cases h
 ·cases h
theorem z8j {s u:Operand} (h:j8u (f x) (f s) (f u) K S=some r) :
 ∃ v S',K v S'=some r/\j0t P G ⟨d,.entryStore t x s u,ty,ps,ed,gd⟩ f S v S':=by
 obtain ⟨b,hx,h5⟩:=j5a h
 obtain ⟨n,S1,hn,h6⟩:=M.bind_some h5
 obtain ⟨hs,rfl⟩:=j57 hn
 obtain ⟨uu,S',he,h⟩:=M.bind_some h6
 cases uu
 obtain ⟨es,k,i,hb,hi,rfl⟩:=jbd he
 have hbl:b < S1.length:=by
  rcases Nat.lt_or_ge b S1.length with h | h
  ·exact h
  ·rw [List.getElem?_eq_none h] at hb;cases hb
 refine ⟨_,_,h,by simp,λ N τ a w hN hno hv hr=>?_⟩
 have h1:=hv x (by simp [Op.operands])
 have h2:=hv s (by simp [Op.operands])
 have h3:=hv u (by simp [Op.operands])
 rw [hx] at h1
 rw [hs] at h2
 obtain ⟨c,g,es',e1,e2,e3,e4⟩:=jwi hr hb h1
 have e5:a.eval s = .int .i64 n:=h2.int
 have hget:(getObj c).run P w = .ok (.map ⟨es'⟩ k) w:=by simp [getObj,Sem.run,e3]
 have hset:∀ o,(setObj c o).run P w = .ok () (z7z w c o):=λ o=>by simp [setObj,Sem.run,e3,z7z]
 have hblt:=(Array.getElem?_eq_some_iff.1 e3).1
 have hidx:=e4.idx n
 rw [hi] at hidx
 refine OS.skip (w':=z7z w c (.map ⟨es'.modify i λ e=>{ e with val:=a.eval u }⟩ k)) ?_ ⟨τ,.tuple .nil,?_,?_⟩
 ·simp only [execOp,Instr.entryStore,e1,e5,Sem.run_bind,hget,Result.andThen,asInt,asIntOf,Sem.run_pure,List.findIdx?_toArray,hidx,hset]
  simp
 ·refine hr.put e2 (OR.map (e4.mod h3 i)) (by simp [z7z,hblt]) (λ c' hc=>by simp [z7z]; rw [Array.getElem?_setIfInBounds_ne (λ e=>hc e.symm)]) (by simp [z7z])
 ·exact Ext.put e2 hbl (λ c' hc=>by simp [z7z]; rw [Array.getElem?_setIfInBounds_ne (λ e=>hc e.symm)]) (by simp [z7z]) rfl rfl rfl
end
def jw0:List (TypeId×String×FuncId×Option TypeId)->TypeId->String->Option (FuncId×Option TypeId)
 | [], _, _ => none
 | e :: r, t, m => if e.1 = t /\ e.2.1 = m then some e.2.2 else jw0 r t m
def j0m (P:Program) (t:TypeId) (m:String) (k:FuncId):Option TypeId->Prop
 | none => ∀ v w, (method (P.types.size + Made.depth) t v m).run P w = .ok (k, v) w
 | some e => ∀ a w, (method (P.types.size + Made.depth) t (.pointer (some a)) m).run P w = (do let u <- loadVar e a; pure (k, u) : Sem (FuncId × Value)).run P w
def j04 (P:Program):List (TypeId×String×FuncId×Option TypeId)->Prop
 | [] => True
 | (t, m, k, l) :: r => j0m P t m k l /\ j04 P r
theorem jw1:∀ {L:List (TypeId×String×FuncId×Option TypeId)},j04 P L->IOK P (jw0 L)
 | [], _ => λ t m k l h => by cases h
 | (t', m', k', l') :: r, h => λ t m k l hl => by
   unfold jw0 at hl
   split at hl
   ·rename_i e
    obtain ⟨e1,e2⟩:=e
    cases hl
    dsimp only at e1 e2
    subst e1 e2
    have:=h.1
    cases l' <;> exact this
   ·exact jw1 h.2 t m k l hl
def j05 (P:Program):List (Nat×List Value)->Prop
 | [] => True
 | (t, z) :: r => j0s P z t /\ j05 P r
def jw2:List (Nat×List Value)->TypeId->Option (List Value)
 | [], _ => none
 | (t', z) :: r, t => match Nat.beq t' t with
   | true=>some z
   | false=>jw2 r t
theorem jw3:∀ {L:List (Nat×List Value)},j05 P L->∀ t z,jw2 L t=some z->j0s P z t
 | [], _, t, z, h => by cases h
 | (t', z') :: r, h, t, z, hl => by
   unfold jw2 at hl
   cases hb:Nat.beq t' t with
   | true=>
     rw [hb] at hl
     have:=Nat.eq_of_beq_eq_true hb
     subst this
     cases hl
     exact h.1
   | false=>
     rw [hb] at hl
     exact jw3 h.2 t z hl
end Go.AM
namespace Go.AM
open Go
variable {P:Program} {G:List (Nat×Obj)} {ρ:Type}
structure Tb where
 T:TypeId->Option TI
 eq:TypeId->Option (List Value)
 isX:FuncId->Bool
 X:FuncId->List Value->Option (Bool×Value)
 C:FuncId->List Value->M Value
 I:j0l
 kk:TypeId->Option (List Value)
structure j1g (P:Program) (G:List (Nat×Obj)) (tb:Tb):Prop where
 T:TOK P tb.T
 eq:∀ t z,tb.eq t=some z->j0c P z t
 X:XOK P tb.X
 C:COK P G tb.C
 I:j0n P G tb.I
 kk:∀ t z,tb.kk t=some z->j0s P z t
 mixed:P.follows .mixedOrders=true
inductive Cls where
 | pure | read | make | eff | none
 deriving DecidableEq
def TD.isAr:TD->Bool
 | .array _ _ _ => true
 | _ => false
def cls (tb:Tb):Op->Cls
 | .move _ | .assign _ | .pick _ _ _ | .nilCheck _ | .binOp _ _ _ _ _ | .unOp _ _ _ | .convert _ _ _ | .makeInterface _ _ | .makeFunc _ _ _ | .fieldAddr _ _ _ | .field _ _ _
 | .indexAddr _ _ _ | .index _ _ _ | .typeAssert _ _ _ _ | .extract _ _ | .build _ _ | .sliceToArrayPointer _ _ => .pure
 | .slice t _ _ _ _ => match tb.T t with
   | some i=>match i.d.isSl with
     | true=>.pure
     | false=>.eff
   | none=>.none
 | .load _ _ => .read
 | .lookup _ _ _ _ => .read
 | .mapEntry _ _ _ => .eff
 | .entryStore _ _ _ _ => .eff
 | .call ⟨.invoke _ _, _, _⟩ => .eff
 | .alloc _ | .box _ _ | .buildSlice _ _ _ | .makeSlice _ _ _ | .makeMap _ none => .make
 | .store _ _ _ => .eff
 | .call ⟨.builtin .len, _, ts⟩ => match ts.toList with
   | [t]=>match tb.T t with
     | some i=>match i.d.isSl,i.d.isAr with
       | false,false=>.eff
       | _,_=>.pure
     | none=>.none
   | _=>.none
 | .call ⟨.builtin .max, _, _⟩ | .call ⟨.builtin .min, _, _⟩ => .pure
 | .call ⟨.builtin .append, _, _⟩ | .call ⟨.builtin .copy, _, _⟩ => .eff
 | .call ⟨.value (.func k), _, _⟩ => match tb.isX k with
   | true=>.pure
   | false=>.eff
 | .call ⟨.value _, _, _⟩ => .eff
 | _ => .none
def j9f (tb:Tb) (o:Oper) (f:Operand->Value) (K:Value->M ρ):M ρ:=
 match o.op with
 | .move x | .assign x => K (f x)
 | .pick c a b => j9d (f c) (f a) (f b) K
 | .nilCheck x => j9b (f x) K
 | .binOp op t x y _ => j8k tb.T tb.eq op t (f x) (f y) K
 | .unOp op _ x => dUn op (f x) K
 | .convert s t x => j8q tb.T s t (f x) K
 | .makeInterface t x => j9a tb.T t (f x) K
 | .makeFunc fn a b => K (.func fn ⟨a.toList.map f⟩ ⟨b.toList.map f⟩)
 | .fieldAddr t x n => j8x tb.T t (f x) n K
 | .field t x n => j8w tb.T t (f x) n K
 | .indexAddr t x i => j90 tb.T t (f x) (f i) K
 | .index t x i => j8z tb.T t (f x) (f i) K
 | .typeAssert x _ t ok => dTA tb.T (f x) t ok K
 | .extract x n => j8v (f x) n K
 | .build t ps => j8m tb.T t (ps.toList.map λ q => (q.1, f q.2)) K
 | .sliceToArrayPointer t x => j8j tb.T t (f x) K
 | .slice t x lo hi mx => j9n tb.T t (f x) (lo.map f) (hi.map f) (mx.map f) K
 | .call ⟨.builtin .len, ⟨[x]⟩, ⟨[t]⟩⟩ => j92 tb.T t (f x) K
 | .call ⟨.builtin .max, as, _⟩ => dMx true (as.toList.map f) K
 | .call ⟨.builtin .min, as, _⟩ => dMx false (as.toList.map f) K
 | .call ⟨.value g, as, _⟩ => j8p tb.X (f g) (as.toList.map f) K
 | _ => M.fail
def j96 (tb:Tb) (o:Oper) (f:Operand->Value) (K:Value->M ρ):M ρ:=
 match o.op with
 | .alloc t => j8f tb.T t K
 | .box t x => j8l t (f x) K
 | .buildSlice t n ps => j8n tb.T t n (ps.toList.map λ q => (q.1, f q.2)) K
 | .makeSlice t l c => j98 tb.T t (f l) (f c) K
 | .makeMap _ none => j97 K
 | _ => M.fail
def j9g (tb:Tb) (o:Oper) (f:Operand->Value) (K:Value->M ρ):M ρ:=
 match o.op with
 | .load t x => j94 tb.T t (f x) K
 | .lookup t m k ok => j95 tb.T tb.kk t (f m) (f k) ok K
 | _ => M.fail
def j8t (tb:Tb) (o:Oper) (f:Operand->Value) (K:Value->M ρ):M ρ:=
 match o.op with
 | .store t x y => j9o tb.T t (f x) (f y) K
 | .slice t x lo hi mx => j9m tb.T t (f x) (lo.map f) (hi.map f) (mx.map f) K
 | .call ⟨.builtin .len, ⟨[x]⟩, ⟨[t]⟩⟩ => j93 tb.T t (f x) K
 | .call ⟨.builtin .append, ⟨[x, y]⟩, ⟨[t, t1]⟩⟩ => j8g tb.T t t1 (f x) (f y) K
 | .call ⟨.builtin .copy, ⟨[x, y]⟩, ⟨[t, _]⟩⟩ => j8r tb.T t (f x) (f y) K
 | .call ⟨.value g, as, _⟩ => j8o tb.C tb.T o.type (f g) (as.toList.map f) K
 | .call ⟨.invoke g m, as, _⟩ => j91 tb.I tb.C tb.T o.type m (f g) (as.toList.map f) K
 | .mapEntry t m k => j99 tb.T tb.kk t (f m) (f k) K
 | .entryStore _ m s u => j8u (f m) (f s) (f u) K
 | _ => M.fail
section
variable {tb:Tb} (hT:j1g P G tb) {o:Oper} {f:Operand->Value} {K:Value->M ρ} {S:St} {r:ρ×St}
include hT
theorem z39 (h:j9f tb o f K S=some r):∃ v,K v S=some r/\∀ S,j0z P G o f S v:=by
 obtain ⟨d,op,ty,ps,ed,gd⟩:=o
 unfold j9f at h
 dsimp only at h
 split at h
 ·exact z8z h
 ·exact z8a h
 ·exact z92 h
 ·exact z91 h
 ·exact z8b hT.T hT.eq h
 ·exact z96 h
 ·exact z8h hT.T h
 ·exact z8y hT.T h
 ·exact z8x h
 ·exact z8m hT.T h
 ·exact z8l hT.T h
 ·exact z8o hT.T h
 ·exact z8n hT.T h
 ·exact z87 hT.T h
 ·exact z8k h
 ·exact z8d hT.T h
 ·exact z89 hT.T h
 ·exact z94 hT.T h
 ·exact z8q hT.T h
 ·exact z90 (mx:=true) h
 ·exact z90 (mx:=false) h
 ·exact z8g hT.X h
 ·cases h
theorem jwe (h:j96 tb o f K S=some r):∃ x mk,K (mk S.length) (S++[x])=some r/\j01 P o f x mk:=by
 obtain ⟨d,op,ty,ps,ed,gd⟩:=o
 unfold j96 at h
 dsimp only at h
 split at h
 ·exact z88 hT.T h
 ·exact z8c h
 ·exact z8e hT.T h
 ·exact z8v hT.T h
 ·exact z8u h
 ·cases h
theorem z56 (h:j9g tb o f K S=some r):∃ v,K v S=some r/\j0z P G o f S v/\∀ {σ:Type} (L:Value->M σ),j9g tb o f L S=L v S:=by
 obtain ⟨d,op,ty,ps,ed,gd⟩:=o
 unfold j9g at h
 dsimp only at h
 split at h
 ·exact z8s hT.T h
 ·exact z8t hT.T hT.kk h
 ·cases h
theorem jao (h:j8t tb o f K S=some r):∃ v S',K v S'=some r/\j0t P G o f S v S':=by
 obtain ⟨d,op,ty,ps,ed,gd⟩:=o
 unfold j8t at h
 dsimp only at h
 split at h
 ·exact z95 hT.T h
 ·obtain ⟨v,a,b⟩:=z93 (G:=G) (d:=d) (ty:=ty) (ps:=ps) (ed:=ed) (gd:=gd) hT.T h
  exact ⟨v,S,a,b.op⟩
 ·obtain ⟨v,a,b⟩:=z8r (G:=G) (d:=d) (ty:=ty) (ps:=ps) (ed:=ed) (gd:=gd) hT.T h
  exact ⟨v,S,a,b.op⟩
 ·exact HR.app_op hT.T h
 ·exact z8i hT.T h
 ·exact z8f hT.C h
 ·exact z8p hT.I hT.C h
 ·exact z8w hT.T hT.kk h
 ·exact z8j h
 ·cases h
end
def j9c (tb:Tb) (o:Oper) (f:Operand->Value) (K:Value->M ρ):M ρ:=
 match cls tb o.op with
 | .pure => j9f tb o f K
 | .read => j9g tb o f K
 | .make => j96 tb o f K
 | .eff => j8t tb o f K
 | .none => M.fail
theorem jzg {tb:Tb} (hT:j1g P G tb) {o:Oper} {f:Operand->Value} {K:Value->M ρ} {S:St} {r:ρ×St} (h:j9c tb o f K S=some r) :
 ∃ v S',K v S'=some r/\j0t P G o f S v S':=by
 unfold j9c at h
 generalize cls tb o.op=c at h
 cases c
 ·obtain ⟨v,a,b⟩:=z39 hT h
  exact ⟨v,S,a,(b S).op⟩
 ·obtain ⟨v,a,b,_⟩:=z56 hT h
  exact ⟨v,S,a,b.op⟩
 ·obtain ⟨x,mk,a,b⟩:=jwe hT h
  exact ⟨_,_,a,b.op⟩
 ·exact jao hT h
 ·cases h
def aev (fr:List Value):Operand->Value
 | .tmp t => fr.getD t zdj
 | .const v => v
 | .global _ => zdj
 | .func k => .func (.func k) #[] #[]
def z3c (fr:List Value) (d:Option Tmp) (v:Value):List Value:=match d with
 | some d => fr.set d v
 | none => fr
def jed:List Value->Nat->(Value->M ρ)->M ρ
 | [], _, K => K zdj
 | v :: _, 0, K => K v
 | _ :: l, t + 1, K => jed l t K
theorem jee:∀ (l:List Value) (t:Nat) (K:Value->M ρ),jed l t K=K (l.getD t zdj)
 | [], t, K => by simp [jed]
 | v :: l, 0, K => by simp [jed]
 | v :: l, t + 1, K => by simp only [jed, jee l t K]; simp
def z80:List Value->Nat->Value->(List Value->M ρ)->M ρ
 | [], _, _, K => K []
 | _ :: l, 0, v, K => K (v :: l)
 | x :: l, t + 1, v, K => z80 l t v λ l' => K (x :: l')
theorem z81:∀ (l:List Value) (t:Nat) (v:Value) (K:List Value->M ρ),z80 l t v K=K (l.set t v)
 | [], t, v, K => by simp [z80]
 | x :: l, 0, v, K => by simp [z80]
 | x :: l, t + 1, v, K => by simp only [z80, z81 l t v]; simp
def z3d (fr:List Value) (d:Option Tmp) (v:Value) (K:List Value->M ρ):M ρ:=match d with
 | some d => z80 fr d v K
 | none => K fr
theorem z3e (fr:List Value) (d:Option Tmp) (v:Value) (K:List Value->M ρ):z3d fr d v K=K (z3c fr d v):=by
 cases d with
 | none => rfl
 | some d => exact z81 fr d v K
def jef:List (Nat×Value)->Nat->Value
 | [], _ => zdj
 | (q, v) :: l, t => match Nat.beq q t with
   | true=>v
   | false=>jef l t
def j27 (ps:List (Nat×Value)):Operand->Value
 | .tmp t => jef ps t
 | .const v => v
 | .global _ => zdj
 | .func k => .func (.func k) #[] #[]
def evs (fr:List Value):List Operand->List (Nat×Value)->(List (Nat×Value)->M ρ)->M ρ
 | [], ps, K => K ps
 | .tmp t :: xs, ps, K => jed fr t λ v => evs fr xs ((t, v) :: ps) K
 | .const _ :: xs, ps, K => evs fr xs ps K
 | .global _ :: xs, ps, K => evs fr xs ps K
 | .func _ :: xs, ps, K => evs fr xs ps K
theorem jeg {fr:List Value} {t:Nat}:∀ {ps:List (Nat×Value)},(∀ p∈ps,p.2=fr.getD p.1 zdj)->(∃ v,(t,v)∈ps)->jef ps t=fr.getD t zdj
 | [], _, h => by obtain ⟨_, h⟩ := h; simp at h
 | (q, v) :: ps, hp, h => by
   simp only [jef]
   cases hb:Nat.beq q t with
   | true=>
     have:=Nat.eq_of_beq_eq_true hb
     subst this
     exact hp (q,v) (by simp)
   | false=>
     refine jeg (λ p hm=>hp p (by simp [hm])) ?_
     obtain ⟨u,h⟩:=h
     rcases List.mem_cons.1 h with h | h
     ·injection h with h1 _
      subst h1
      rw [Nat.beq_refl] at hb;cases hb
     ·exact ⟨u,h⟩
theorem jbj {fr:List Value}:∀ {xs:List Operand} {ps:List (Nat×Value)} (K:List (Nat×Value)->M ρ),(∀ p∈ps,p.2=fr.getD p.1 zdj) ->
 ∃ ps',evs fr xs ps K=K ps'/\(∀ p∈ps',p.2=fr.getD p.1 zdj)/\(∀ t v,(t,v)∈ps->(t,v)∈ps')/\∀ t,Operand.tmp t∈xs->∃ v,(t,v)∈ps'
 | [], ps, K, h => ⟨ps, rfl, h, λ _ _ h => h, λ t h => by simp at h⟩
 | .tmp t :: xs, ps, K, h => by
   obtain ⟨ps',h1,h2,h3,h4⟩:=jbj (xs:=xs) (ps:=(t,fr.getD t zdj) :: ps) K (λ p hp=>by
    rcases List.mem_cons.1 hp with rfl | hp
    ·rfl
    ·exact h p hp)
   refine ⟨ps',by simp only [evs,jee,h1],h2,λ t' v' hm=>h3 t' v' (by simp [hm]),λ t' ht=>?_⟩
   rcases List.mem_cons.1 ht with ht | ht
   ·injection ht with ht
    subst ht
    exact ⟨_,h3 t' (fr.getD t' zdj) (by simp)⟩
   ·exact h4 t' ht
 | .const v :: xs, ps, K, h => by
   obtain ⟨ps',h1,h2,h3,h4⟩:=jbj (xs:=xs) (ps:=ps) K h
   exact ⟨ps',by simp only [evs,h1],h2,h3,λ t ht=>h4 t (by simpa using ht)⟩
 | .global v :: xs, ps, K, h => by
   obtain ⟨ps',h1,h2,h3,h4⟩:=jbj (xs:=xs) (ps:=ps) K h
   exact ⟨ps',by simp only [evs,h1],h2,h3,λ t ht=>h4 t (by simpa using ht)⟩
 | .func v :: xs, ps, K, h => by
   obtain ⟨ps',h1,h2,h3,h4⟩:=jbj (xs:=xs) (ps:=ps) K h
   exact ⟨ps',by simp only [evs,h1],h2,h3,λ t ht=>h4 t (by simpa using ht)⟩
theorem jbl {fr:List Value} {xs:List Operand} {K:List (Nat×Value)->M ρ} {S:St} {r:ρ×St} (h:evs fr xs [] K S=some r) :
 ∃ ps,K ps S=some r/\∀ x∈xs,j27 ps x=aev fr x:=by
 obtain ⟨ps,h1,h2,_,h4⟩:=jbj (fr:=fr) (xs:=xs) (ps:=[]) K (by simp)
 rw [h1] at h
 refine ⟨ps,h,λ x hx=>?_⟩
 cases x with
 | tmp t => exact jeg h2 (h4 t hx)
 | _ => rfl
theorem j0t.congr {o:Oper} {f f':Operand->Value} {S S':St} {v:Value} (h:j0t P G o f S v S') (hf:∀ x∈o.op.operands,f x=f' x):j0t P G o f' S v S':=
 ⟨h.len,λ N τ a w h1 h2 h3 h4=>h.sim N τ a w h1 h2 (λ x hx=>by rw [hf x hx]; exact h3 x hx) h4⟩
theorem j0z.congr {o:Oper} {f f':Operand->Value} {S:St} {v:Value} (h:j0z P G o f S v) (hf:∀ x∈o.op.operands,f x=f' x):j0z P G o f' S v:=
 λ τ a w h1 h2=>h τ a w (λ x hx=>by rw [hf x hx]; exact h1 x hx) h2
theorem j01.congr {o:Oper} {f f':Operand->Value} {x:j00} {mk:Nat->Value} (h:j01 P o f x mk) (hf:∀ x∈o.op.operands,f x=f' x):j01 P o f' x mk:=
 ⟨λ τ a w h1=>h.run τ a w λ x hx=>by rw [hf x hx]; exact h1 x hx,h.val⟩
structure FR (τ:Nat->Tag) (fr:List Value) (a:Act):Prop where
 size:a.tmps.size=fr.length
 val:∀ t v,fr[t]? = some v->VR τ v (a.tmps.getD t undef)
def j7w:Operand->Bool
 | .const v => jcp v
 | _ => true
theorem FR.eval {τ:Nat->Tag} {fr:List Value} {a:Act} (h:FR τ fr a) {x:Operand} (hc:j7w x=true):VR τ (aev fr x) (a.eval x):=by
 cases x with
 | tmp t =>
   simp only [aev,Act.eval,List.getD]
   cases ht:fr[t]? with
   | none=>exact .top _
   | some v=>exact h.val t v ht
 | const v => exact .of_flat hc
 | global g => exact .top _
 | func k => exact .func .nil .nil
theorem FR.mono {τ τ':Nat->Tag} {fr:List Value} {a:Act} (h:FR τ fr a) (hl:TLe τ τ'):FR τ' fr a:=⟨h.size,λ t v ht=>(h.val t v ht).mono hl⟩
theorem FR.put {τ:Nat->Tag} {fr:List Value} {a:Act} (h:FR τ fr a) {d:Option Tmp} {v v':Value} (hv:VR τ v v'):FR τ (z3c fr d v) (a.put d v'):=by
 cases d with
 | none => exact h
 | some d =>
   refine ⟨by simp [z3c,Act.put,h.size],λ t u ht=>?_⟩
   simp only [z3c] at ht
   have hd:t < fr.length:=by
    rcases Nat.lt_or_ge t fr.length with h | h
    ·exact h
    ·rw [List.getElem?_eq_none (by simpa using h)] at ht;cases ht
   have hd':t < a.tmps.size:=by rw [h.size]; exact hd
   by_cases e:d=t
   ·subst e
    rw [List.getElem?_set_self hd] at ht
    cases ht
    simp [Act.put,hd',hv]
   ·rw [List.getElem?_set_ne e] at ht
    have:=h.val t u ht
    simpa [Act.put,Array.getElem?_setIfInBounds_ne e] using this
def j8y (ops:Array Oper) (o:Oper) (fr:List Value) (yes no:List Value->M ρ):M ρ:=
 match o.guard with
 | none => yes fr
 | some (j, want) =>
   match (ops[j]?).bind (·.dst) with
   | none=>no fr
   | some t=>
     jed fr t λ u=>match u with
     | .bool b=>match want with
       | true=>bif b then z80 fr t (.bool true) yes else z80 fr t (.bool false) no
       | false=>bif b then z80 fr t (.bool true) no else z80 fr t (.bool false) yes
     | .tuple ⟨[]⟩=>no fr
     | _=>M.fail
structure GR (τ:Nat->Tag) (ops:Array Oper) (o:Oper) (fr:List Value) (a:Act):Prop where
 size:a.tmps.size=fr.length
 val:∀ j want t,o.guard=some (j,want)->(ops[j]?).bind (·.dst)=some t->VR τ (fr.getD t zdj) (a.tmps.getD t undef)
theorem FR.guard {τ:Nat->Tag} {ops:Array Oper} {o:Oper} {fr:List Value} {a:Act} (h:FR τ fr a):GR τ ops o fr a where
 size:=h.size
 val:=λ _ _ t _ _=>by
  simp only [List.getD]
  cases ht:fr[t]? with
  | none=>exact .top _
  | some v=>exact h.val t v ht
theorem jr2 {ops:Array Oper} {o:Oper} {fr:List Value} {yes no:List Value->M ρ} {S:St} {r:ρ×St} (h:j8y ops o fr yes no S=some r) :
 (yes fr S=some r/\∀ τ a,GR τ ops o fr a->Region.wanted o (yielded ops a.tmps)=true)\/(no fr S=some r/\∀ τ a,GR τ ops o fr a->Region.wanted o (yielded ops a.tmps)=false):=by
 unfold j8y at h
 generalize hg:o.guard=g at h
 split at h
 ·exact .inl ⟨h,λ τ a _=>by simp [Region.wanted,hg]⟩
 ·rename_i j want
  generalize hj:(ops[j]?).bind (·.dst)=dj at h
  split at h
  ·exact .inr ⟨h,λ τ a _=>by simp [Region.wanted,hg,yielded,hj]⟩
  ·rename_i t
   have htv:∀ {τ:Nat->Tag} {a:Act} {v:Value},GR τ ops o fr a->fr.getD t zdj=v->v≠zdj->∃ v',a.tmps[t]? = some v'/\VR τ v v':=by
    intro τ a v hf hv hne
    have hval:=hf.val j want t hg hj
    cases hft:fr[t]? with
    | none=>simp [List.getD,hft] at hv;exact absurd hv.symm hne
    | some u=>
      simp [List.getD,hft] at hv hval
      subst hv
      have:=hval
      have hlt:t < a.tmps.size:=by
       rw [hf.size]
       rcases Nat.lt_or_ge t fr.length with h | h
       ·exact h
       ·rw [List.getElem?_eq_none h] at hft;cases hft
      refine ⟨a.tmps[t],Array.getElem?_eq_getElem hlt,?_⟩
      simpa [Array.getD,hlt] using this
   have hset:∀ {b:Bool},fr.getD t zdj = .bool b->fr.set t (.bool b)=fr:=by
    intro b hb
    apply List.ext_getElem?
    intro k
    by_cases e:t=k
    ·subst e
     cases hft:fr[t]? with
     | none=>simp [List.getD,hft] at hb
     | some u=>
       simp [List.getD,hft] at hb
       subst hb
       have hlt:t < fr.length:=by
        rcases Nat.lt_or_ge t fr.length with h | h
        ·exact h
        ·rw [List.getElem?_eq_none h] at hft;cases hft
       rw [List.getElem?_set_self hlt]
    ·rw [List.getElem?_set_ne e]
   rw [jee] at h
   generalize hv:fr.getD t zdj=v at h
   split at h
   ·rename_i b
    have fin:∀ τ a,GR τ ops o fr a->Region.wanted o (yielded ops a.tmps)=(b == want):=by
     intro τ a hf
     obtain ⟨v',h1,h2⟩:=htv hf hv (by simp)
     rw [h2.bool] at h1
     simp [Region.wanted,hg,yielded,hj,h1]
    cases want with
    | true=>
      dsimp only at h
      rcases j61 h with ⟨hb,h9⟩ | ⟨hb,h9⟩
      ·subst hb
       rw [z81,hset hv] at h9
       exact .inl ⟨h9,λ τ a hf=>by rw [fin τ a hf]; rfl⟩
      ·subst hb
       rw [z81,hset hv] at h9
       exact .inr ⟨h9,λ τ a hf=>by rw [fin τ a hf]; rfl⟩
    | false=>
      dsimp only at h
      rcases j61 h with ⟨hb,h9⟩ | ⟨hb,h9⟩
      ·subst hb
       rw [z81,hset hv] at h9
       exact .inr ⟨h9,λ τ a hf=>by rw [fin τ a hf]; rfl⟩
      ·subst hb
       rw [z81,hset hv] at h9
       exact .inl ⟨h9,λ τ a hf=>by rw [fin τ a hf]; rfl⟩
   ·refine .inr ⟨h,λ τ a hf=>?_⟩
    obtain ⟨v',h1,h2⟩:=htv hf hv (by simp)
    obtain ⟨l',e,hl⟩:=h2.tuple_inv
    cases hl
    subst e
    simp [Region.wanted,hg,yielded,hj,h1]
   ·cases h
end Go.AM
