/-
  Part of the proof of a law: contracts of functions that work with maps. Conditions: none.
-/
import Derived.WalkKit
import Derived.BigQuiet
import Derived.Deep.QuietTactic
import Derived.Deep.DeepFit
import Derived.WalkLawsBesides
import Derived.WalkSpells
import Derived.Deep.LoopGhost
import Derived.Deep.Draws
import Derived.Deep.AppendLies
import Derived.Maps.AppendAt
import Derived.Lib.Hide
import Derived.StillTailTactics
import Derived.Deep.RegionHeld3
import Derived.Deep.DeepCutAuto
import Derived.KernelRfl
import Derived.MapKept
import Derived.Maps.RangeRun
import Derived.Test.YtpecnaacgkgjmaaGreatDoorVL1
import Derived.Test.YtpecnaacgkgjmaaGreatDoorVP1
import Derived.Laws.Bits64
set_option linter.unusedVariables false
set_option linter.unusedSectionVars false
set_option linter.unusedSimpArgs false
set_option linter.deprecated false
namespace Go.Proofs.YtpecnaacgkgjmaaGreatDoor
open Go.RowKit
structure Ev where
 it:Int
 tr:Int
 wi:Int
 ti:Int
 ad:Int
 ma:Int
structure Rc where
 it:Int
 tr:Int
 wi:Int
 ad:Int
 ba:Int
 go:Int
theorem Ev.eq_iff (x y:Ev):x=y↔x.it=y.it/\x.tr=y.tr/\x.wi=y.wi/\x.ti=y.ti/\x.ad=y.ad/\x.ma=y.ma:=by
 cases x;cases y;simp
theorem Rc.eq_iff (x y:Rc):x=y↔x.it=y.it/\x.tr=y.tr/\x.wi=y.wi/\x.ad=y.ad/\x.ba=y.ba/\x.go=y.go:=by
 cases x;cases y;simp
instance:DecidableEq Ev:=λ x y=>decidable_of_iff _ (Ev.eq_iff x y).symm
instance:DecidableEq Rc:=λ x y=>decidable_of_iff _ (Rc.eq_iff x y).symm
def Ev.cells (x:Ev):List Value:=[.int .i64 x.it,.int .i64 x.tr,.int .i64 x.wi,.int .i64 x.ti,.int .i64 x.ad,.int .u64 x.ma]
abbrev Ev.val (x:Ev):Value:=.agg #[.int .i64 x.it,.int .i64 x.tr,.int .i64 x.wi,.int .i64 x.ti,.int .i64 x.ad,.int .u64 x.ma]
structure Kp (T:Nat->Prop) (w w':World):Prop where
 os:w'.os=w.os
 tape:w'.tape=w.tape
 output:w'.output=w.output
 size:w.heap.size<=w'.heap.size
 block:∀ k,k < w.heap.size->¬ T k->w'.heap[k]? = w.heap[k]?
theorem Kp.refl (T:Nat->Prop) (w:World):Kp T w w:=⟨rfl,rfl,rfl,Nat.le_refl _,λ _ _ _=>rfl⟩
theorem Kp.trans {T:Nat->Prop} {a b c:World} (h:Kp T a b) (k:Kp T b c):Kp T a c:=
 ⟨k.os.trans h.os,k.tape.trans h.tape,k.output.trans h.output,Nat.le_trans h.size k.size,λ i hi ht=>(k.block i (Nat.lt_of_lt_of_le hi h.size) ht).trans (h.block i hi ht)⟩
theorem Kp.mono {T T':Nat->Prop} {a b:World} (h:Kp T a b) (hT:∀ k,k < a.heap.size->T k->T' k):Kp T' a b:=⟨h.os,h.tape,h.output,h.size,λ i hi ht=>h.block i hi λ x=>ht (hT i hi x)⟩
theorem flat_len {α:Type} (f:α->List Value) (s:Nat) (hs:∀ x,(f x).length=s) (l:List α):(l.flatMap f).length=l.length*s:=by
 induction l with
 | nil => simp
 | cons x l ih => rw [List.flatMap_cons, List.length_append, hs, ih, List.length_cons, Nat.add_mul]; omega
def evs (l:List Ev):List Value:=l.flatMap Ev.cells
theorem add_addr (b o j:Nat):(⟨b,o,none⟩:Addr).add j=⟨b,o+j,none⟩:=by unfold Addr.add;split <;> simp_all
section
variable {P:Program} (t e:TypeId) (z:Value) (size bytes:Nat) (ht:P.underlying t=some (.slice e)) (hinfo:(P.info? e).map (λ i=>(i.zero,i.size,i.bytes))=some (some z,size,bytes))
include ht hinfo
end
def ints (k:IntKind) (l:List Int):List Value:=l.map (.int k)
def Stop (p:Prop):Prop:=p
theorem stop_at {P:Program} {ops:Array Oper} {rest:List Oper} {o:Oper} {a:Act} {w:World} {Q:Exit->Act->World->Prop} (n:Nat) (h:o.dst=some n) (k:Stop (wpList P ops Q (o :: rest) a w)):wpList P ops Q (o :: rest) a w:=k
section
variable {P:Program} (w:World)
end
open Go.ChangeMaps (setBlock)
section
variable {κ β:Type} [DecidableEq κ]
def fnd (k:κ):List (κ×β)->Nat->Option (Nat×β)
 | [], _ => none
 | (k', v) :: es, i => if k = k' then some (i, v) else fnd k es (i + 1)
def entOf (k:κ) (es:List (κ×β)) (z:β):List (κ×β)×Nat×β:=match fnd k es 0 with
 | some (i, v) => (es, i, v)
 | none => (es ++ [(k, z)], es.length, z)
def gAdd {α:Type} (k:κ) (x:α) (L:List (κ×List α)):List (κ×List α):=(entOf k L []).1.set (entOf k L []).2.1 (k,(entOf k L []).2.2++[x])
end
section
variable {κ:Type} [DecidableEq κ] (enc:κ->Value)
variable {enc} {P:Program} {kt et mt:TypeId} {w:World} {b:Nat} {es:List (κ×Value)}
variable {ops:Array Oper} {rest:List Oper} {o:Oper} {a:Act} {Q:Exit->Act->World->Prop}
end
end Go.Proofs.YtpecnaacgkgjmaaGreatDoor
namespace Go.Proofs.YtpecnaacgkgjmaaGreatDoor
open Go.RowKit
section
variable {κ:Type} [DecidableEq κ] {enc:κ->Value}
def groups {α:Type} (key:α->κ) (val:α->Int) (l:List α):List (κ×List Int):=l.foldl (λ L x=>gAdd (key x) (val x) L) []
end
def evKey (x:Ev):Int×Int:=(x.it,x.tr)
def sorted (l:List Int):List Int:=l.mergeSort λ x y=>decide (x<=y)
def far (a b:Int):Prop:=a+2<=b\/b+2<=a
def apart (a b:Ev):Prop:=evKey a=evKey b->far a.wi b.wi
end Go.Proofs.YtpecnaacgkgjmaaGreatDoor
namespace Go.AM
open Go Go.Proofs.YtpecnaacgkgjmaaGreatDoor
theorem Ar.getEv {S:St} {p:Option Addr} {n:Nat} {l:List Ev} (h:Ar S p n 6 Ev.cells l) {i:Nat} (hi:i < l.length) :
 ∃ a,p=some a/\S.cell (a.add (i*6))=some (vI l[i].it)/\S.cell ((a.add (i*6)).add 1)=some (vI l[i].tr)/\S.cell ((a.add (i*6)).add 2)=some (vI l[i].wi) /\
  S.cell ((a.add (i*6)).add 3)=some (vI l[i].ti)/\S.cell ((a.add (i*6)).add 4)=some (vI l[i].ad)/\S.cell ((a.add (i*6)).add 5)=some (vU l[i].ma):=by
 obtain ⟨a,h1,h2⟩:=h.2 i hi
 exact ⟨a,h1,by have:=h2 0 _ rfl;rwa [add_zero_] at this,h2 1 _ rfl,h2 2 _ rfl,h2 3 _ rfl,h2 4 _ rfl,h2 5 _ rfl⟩
theorem take_eq_step {α:Type} {x y:List α} {j:Nat} (h:x.take j=y.take j) (hx:j < x.length) (hy:j < y.length) (he:x[j]=y[j]):x.take (j+1)=y.take (j+1):=by
 rw [take_snoc hx,take_snoc hy,h,he]
end Go.AM
namespace Go.Proofs.YtpecnaacgkgjmaaGreatDoor
open Go.RowKit
def Ev.nothing (x:Ev) (n:Int):Bool:=x.ma == 0 || decide (x.ad < 0) || decide (n<=x.ad)
def hit (ws:List Int) (x:Ev):List Int:=if x.nothing ws.length then ws else ws.set x.ad.toNat (bits .xor .u64 (ws.getD x.ad.toNat 0) x.ma)
def strike (l:List Ev) (ws:List Int):List Int:=l.foldl hit ws
theorem hit_len (ws:List Int) (x:Ev):(hit ws x).length=ws.length:=by unfold hit;split <;> simp
theorem strike_len (l:List Ev):∀ ws,(strike l ws).length=ws.length:=by
 induction l with
 | nil => intro ws; rfl
 | cons x l ih => intro ws; show (strike l (hit ws x)).length = _; rw [ih, hit_len]
def u64r (x:Int):Prop:=0<=x/\x<=18446744073709551615
abbrev xor64 (a b:Int):Int:=bits .xor .u64 a b
theorem xor_nat {a b:Int} (ha:u64r a) (hb:u64r b):xor64 a b=((a.toNat ^^^ b.toNat:Nat):Int):=by
 obtain ⟨n,rfl⟩:=Int.eq_ofNat_of_zero_le ha.1
 obtain ⟨m,rfl⟩:=Int.eq_ofNat_of_zero_le hb.1
 have h1:=ha.2
 have h2:=hb.2
 unfold xor64
 rw [bits_xor_u64_nat n m (by omega) (by omega)]
 simp
theorem xor_r {a b:Int} (ha:u64r a) (hb:u64r b):u64r (xor64 a b):=by
 rw [xor_nat ha hb]
 have h1:=ha.2
 have h2:=hb.2
 have:=Nat.xor_lt_two_pow (x:=a.toNat) (y:=b.toNat) (n:=64) (by unfold u64r at *; omega) (by unfold u64r at *; omega)
 constructor <;> omega
theorem xor_comm3 {a b c:Int} (ha:u64r a) (hb:u64r b) (hc:u64r c):xor64 (xor64 a b) c=xor64 (xor64 a c) b:=by
 rw [xor_nat (xor_r ha hb) hc,xor_nat (xor_r ha hc) hb,xor_nat ha hb,xor_nat ha hc]
 simp only [Int.toNat_natCast,Nat.xor_assoc,Nat.xor_comm b.toNat]
theorem xor_self2 {a b:Int} (ha:u64r a) (hb:u64r b):xor64 (xor64 a b) b=a:=by
 rw [xor_nat (xor_r ha hb) hb,xor_nat ha hb]
 simp only [Int.toNat_natCast,Nat.xor_assoc,Nat.xor_self,Nat.xor_zero]
 unfold u64r at ha;omega
theorem xor_eq_iff {a b:Int} (ha:u64r a) (hb:u64r b):xor64 a b=a↔b=0:=by
 constructor
 ·intro h
  have h1:=xor_self2 ha hb
  rw [h] at h1
  have h2:xor64 a a=0:=by rw [xor_nat ha ha]; simp
  have h3:=xor_self2 ha hb
  have h4:xor64 (xor64 a b) a=b:=by
   rw [xor_nat (xor_r ha hb) ha,xor_nat ha hb]
   simp only [Int.toNat_natCast]
   rw [Nat.xor_comm a.toNat,Nat.xor_assoc,Nat.xor_self,Nat.xor_zero]
   unfold u64r at hb;omega
  rw [h,h2] at h4
  exact h4.symm
 ·rintro rfl
  rw [xor_nat ha hb]
  simp
  unfold u64r at ha;omega
def wsOk (ws:List Int):Prop:=∀ x∈ws,u64r x
theorem getD_ok {ws:List Int} (h:wsOk ws) (i:Nat):u64r (ws.getD i 0):=by
 rw [List.getD_eq_getElem?_getD]
 cases hx:ws[i]? with
 | none => simp [u64r]
 | some x => exact h x (List.mem_of_getElem? hx)
theorem hit_ok {ws:List Int} {x:Ev} (h:wsOk ws) (hx:u64r x.ma):wsOk (hit ws x):=by
 unfold hit
 split
 ·exact h
 ·intro y hy
  rcases List.mem_or_eq_of_mem_set hy with hy | rfl
  ·exact h y hy
  ·exact xor_r (getD_ok h _) hx
theorem strike_ok (l:List Ev):∀ ws,wsOk ws->(∀ x∈l,u64r x.ma)->wsOk (strike l ws):=by
 induction l with
 | nil => intro ws h _; exact h
 | cons x l ih => intro ws h hl; exact ih _ (hit_ok h (hl x (by simp))) (λ y hy => hl y (by simp [hy]))
theorem hit_comm {ws:List Int} {x y:Ev} (h:wsOk ws) (hx:u64r x.ma) (hy:u64r y.ma):hit (hit ws x) y=hit (hit ws y) x:=by
 unfold hit
 by_cases h1:x.nothing ws.length <;> by_cases h2:y.nothing ws.length <;> simp only [h1,h2,if_true,if_false,List.length_set,Bool.false_eq_true]
 have hxr:x.ad.toNat < ws.length:=by simp [Ev.nothing] at h1;omega
 have hyr:y.ad.toNat < ws.length:=by simp [Ev.nothing] at h2;omega
 by_cases he:x.ad.toNat=y.ad.toNat
 ·rw [he]
  simp only [List.getD_eq_getElem?_getD,List.getElem?_set_self hyr,Option.getD_some,List.set_set]
  congr 1
  have:=xor_comm3 (getD_ok h y.ad.toNat) hx hy
  simpa [List.getD_eq_getElem?_getD] using this
 ·simp only [List.getD_eq_getElem?_getD,List.getElem?_set_ne he,List.getElem?_set_ne (Ne.symm he)]
  rw [List.set_comm _ _ he]
end Go.Proofs.YtpecnaacgkgjmaaGreatDoor
