/-
  Part of the proof of a law: contracts of functions that work with maps. Conditions: none.
-/
import Derived.WalkKit
import Derived.BigQuiet
import Derived.Deep.QuietTactic
import Derived.Deep.DeepFit
import Derived.WalkLawsBesides
import Derived.WalkSpells
import Derived.Deep.LoopGhost
import Derived.Deep.Draws
import Derived.Deep.AppendLies
import Derived.Maps.AppendAt
import Derived.Lib.Hide
import Derived.StillTailTactics
import Derived.Deep.RegionHeld3
import Derived.Deep.DeepCutAuto
import Derived.KernelRfl
import Derived.MapKept
import Derived.Maps.RangeRun
import Derived.Test.YtpecnaacgkgjmaaGreatDoorVL1
import Derived.Test.YtpecnaacgkgjmaaGreatDoorVP1
import Derived.Laws.Bits64
set_option linter.unusedVariables false
set_option linter.unusedSectionVars false
set_option linter.unusedSimpArgs false
set_option linter.deprecated false
namespace Go.Proofs.YtpecnaacgkgjmaaGreatDoor
open Go.RowKit
structure Ev where
 it:Int
 tr:Int
 wi:Int
 ti:Int
 ad:Int
 ma:Int
structure Rc where
 it:Int
 tr:Int
 wi:Int
 ad:Int
 ba:Int
 go:Int
theorem Ev.eq_iff (x y:Ev):x=y↔x.it=y.it/\x.tr=y.tr/\x.wi=y.wi/\x.ti=y.ti/\x.ad=y.ad/\x.ma=y.ma:=by
 cases x;cases y;simp
theorem Rc.eq_iff (x y:Rc):x=y↔x.it=y.it/\x.tr=y.tr/\x.wi=y.wi/\x.ad=y.ad/\x.ba=y.ba/\x.go=y.go:=by
 cases x;cases y;simp
instance:DecidableEq Ev:=λ x y=>decidable_of_iff _ (Ev.eq_iff x y).symm
instance:DecidableEq Rc:=λ x y=>decidable_of_iff _ (Rc.eq_iff x y).symm
def Ev.cells (x:Ev):List Value:=[.int .i64 x.it,.int .i64 x.tr,.int .i64 x.wi,.int .i64 x.ti,.int .i64 x.ad,.int .u64 x.ma]
abbrev Ev.val (x:Ev):Value:=.agg #[.int .i64 x.it,.int .i64 x.tr,.int .i64 x.wi,.int .i64 x.ti,.int .i64 x.ad,.int .u64 x.ma]
structure Kp (T:Nat->Prop) (w w':World):Prop where
 os:w'.os=w.os
 tape:w'.tape=w.tape
 output:w'.output=w.output
 size:w.heap.size<=w'.heap.size
 block:∀ k,k < w.heap.size->¬ T k->w'.heap[k]? = w.heap[k]?
theorem Kp.refl (T:Nat->Prop) (w:World):Kp T w w:=⟨rfl,rfl,rfl,Nat.le_refl _,λ _ _ _=>rfl⟩
theorem Kp.trans {T:Nat->Prop} {a b c:World} (h:Kp T a b) (k:Kp T b c):Kp T a c:=
 ⟨k.os.trans h.os,k.tape.trans h.tape,k.output.trans h.output,Nat.le_trans h.size k.size,λ i hi ht=>(k.block i (Nat.lt_of_lt_of_le hi h.size) ht).trans (h.block i hi ht)⟩
theorem Kp.mono {T T':Nat->Prop} {a b:World} (h:Kp T a b) (hT:∀ k,k < a.heap.size->T k->T' k):Kp T' a b:=⟨h.os,h.tape,h.output,h.size,λ i hi ht=>h.block i hi λ x=>ht (hT i hi x)⟩
theorem jcv {α:Type} (f:α->List Value) (s:Nat) (hs:∀ x,(f x).length=s) (l:List α):(l.flatMap f).length=l.length*s:=by
 induction l with
 | nil => simp
 | cons x l ih => rw [List.flatMap_cons, List.length_append, hs, ih, List.length_cons, Nat.add_mul]; omega
def evs (l:List Ev):List Value:=l.flatMap Ev.cells
theorem j22 (b o j:Nat):(⟨b,o,none⟩:Addr).add j=⟨b,o+j,none⟩:=by unfold Addr.add;split <;> simp_all
section
variable {P:Program} (t e:TypeId) (z:Value) (size bytes:Nat) (ht:P.underlying t=some (.slice e)) (hinfo:(P.info? e).map (λ i=>(i.zero,i.size,i.bytes))=some (some z,size,bytes))
include ht hinfo
end
def ints (k:IntKind) (l:List Int):List Value:=l.map (.int k)
def j19 (p:Prop):Prop:=p
theorem zb5 {P:Program} {ops:Array Oper} {rest:List Oper} {o:Oper} {a:Act} {w:World} {Q:Exit->Act->World->Prop} (n:Nat) (h:o.dst=some n) (k:j19 (wpList P ops Q (o :: rest) a w)):wpList P ops Q (o :: rest) a w:=k
section
variable {P:Program} (w:World)
end
open Go.ChangeMaps (setBlock)
section
variable {κ β:Type} [DecidableEq κ]
def fnd (k:κ):List (κ×β)->Nat->Option (Nat×β)
 | [], _ => none
 | (k', v) :: es, i => if k = k' then some (i, v) else fnd k es (i + 1)
def jat (k:κ) (es:List (κ×β)) (z:β):List (κ×β)×Nat×β:=match fnd k es 0 with
 | some (i, v) => (es, i, v)
 | none => (es ++ [(k, z)], es.length, z)
def jdo {α:Type} (k:κ) (x:α) (L:List (κ×List α)):List (κ×List α):=(jat k L []).1.set (jat k L []).2.1 (k,(jat k L []).2.2++[x])
end
section
variable {κ:Type} [DecidableEq κ] (enc:κ->Value)
variable {enc} {P:Program} {kt et mt:TypeId} {w:World} {b:Nat} {es:List (κ×Value)}
variable {ops:Array Oper} {rest:List Oper} {o:Oper} {a:Act} {Q:Exit->Act->World->Prop}
end
end Go.Proofs.YtpecnaacgkgjmaaGreatDoor
namespace Go.Proofs.YtpecnaacgkgjmaaGreatDoor
open Go.RowKit
section
variable {κ:Type} [DecidableEq κ] {enc:κ->Value}
def jqp {α:Type} (key:α->κ) (val:α->Int) (l:List α):List (κ×List Int):=l.foldl (λ L x=>jdo (key x) (val x) L) []
end
def jbe (x:Ev):Int×Int:=(x.it,x.tr)
def z9k (l:List Int):List Int:=l.mergeSort λ x y=>decide (x<=y)
def far (a b:Int):Prop:=a+2<=b\/b+2<=a
def apart (a b:Ev):Prop:=jbe a=jbe b->far a.wi b.wi
end Go.Proofs.YtpecnaacgkgjmaaGreatDoor
namespace Go.AM
open Go Go.Proofs.YtpecnaacgkgjmaaGreatDoor
theorem Ar.getEv {S:St} {p:Option Addr} {n:Nat} {l:List Ev} (h:Ar S p n 6 Ev.cells l) {i:Nat} (hi:i < l.length) :
 ∃ a,p=some a/\S.cell (a.add (i*6))=some (vI l[i].it)/\S.cell ((a.add (i*6)).add 1)=some (vI l[i].tr)/\S.cell ((a.add (i*6)).add 2)=some (vI l[i].wi) /\
  S.cell ((a.add (i*6)).add 3)=some (vI l[i].ti)/\S.cell ((a.add (i*6)).add 4)=some (vI l[i].ad)/\S.cell ((a.add (i*6)).add 5)=some (vU l[i].ma):=by
 obtain ⟨a,h1,h2⟩:=h.2 i hi
 exact ⟨a,h1,by have:=h2 0 _ rfl;rwa [j25] at this,h2 1 _ rfl,h2 2 _ rfl,h2 3 _ rfl,h2 4 _ rfl,h2 5 _ rfl⟩
theorem zco {α:Type} {x y:List α} {j:Nat} (h:x.take j=y.take j) (hx:j < x.length) (hy:j < y.length) (he:x[j]=y[j]):x.take (j+1)=y.take (j+1):=by
 rw [zcr hx,zcr hy,h,he]
end Go.AM
namespace Go.Proofs.YtpecnaacgkgjmaaGreatDoor
open Go.RowKit
def Ev.nothing (x:Ev) (n:Int):Bool:=x.ma == 0 || decide (x.ad < 0) || decide (n<=x.ad)
def hit (ws:List Int) (x:Ev):List Int:=if x.nothing ws.length then ws else ws.set x.ad.toNat (bits .xor .u64 (ws.getD x.ad.toNat 0) x.ma)
def zb8 (l:List Ev) (ws:List Int):List Int:=l.foldl hit ws
theorem jre (ws:List Int) (x:Ev):(hit ws x).length=ws.length:=by unfold hit;split <;> simp
theorem zbb (l:List Ev):∀ ws,(zb8 l ws).length=ws.length:=by
 induction l with
 | nil => intro ws; rfl
 | cons x l ih => intro ws; show (zb8 l (hit ws x)).length = _; rw [ih, jre]
def u64r (x:Int):Prop:=0<=x/\x<=18446744073709551615
abbrev zhm (a b:Int):Int:=bits .xor .u64 a b
theorem zhp {a b:Int} (ha:u64r a) (hb:u64r b):zhm a b=((a.toNat ^^^ b.toNat:Nat):Int):=by
 obtain ⟨n,rfl⟩:=Int.eq_ofNat_of_zero_le ha.1
 obtain ⟨m,rfl⟩:=Int.eq_ofNat_of_zero_le hb.1
 have h1:=ha.2
 have h2:=hb.2
 unfold zhm
 rw [bits_xor_u64_nat n m (by omega) (by omega)]
 simp
theorem zhq {a b:Int} (ha:u64r a) (hb:u64r b):u64r (zhm a b):=by
 rw [zhp ha hb]
 have h1:=ha.2
 have h2:=hb.2
 have:=Nat.xor_lt_two_pow (x:=a.toNat) (y:=b.toNat) (n:=64) (by unfold u64r at *; omega) (by unfold u64r at *; omega)
 constructor <;> omega
theorem zhn {a b c:Int} (ha:u64r a) (hb:u64r b) (hc:u64r c):zhm (zhm a b) c=zhm (zhm a c) b:=by
 rw [zhp (zhq ha hb) hc,zhp (zhq ha hc) hb,zhp ha hb,zhp ha hc]
 simp only [Int.toNat_natCast,Nat.xor_assoc,Nat.xor_comm b.toNat]
theorem zhr {a b:Int} (ha:u64r a) (hb:u64r b):zhm (zhm a b) b=a:=by
 rw [zhp (zhq ha hb) hb,zhp ha hb]
 simp only [Int.toNat_natCast,Nat.xor_assoc,Nat.xor_self,Nat.xor_zero]
 unfold u64r at ha;omega
theorem zho {a b:Int} (ha:u64r a) (hb:u64r b):zhm a b=a↔b=0:=by
 constructor
 ·intro h
  have h1:=zhr ha hb
  rw [h] at h1
  have h2:zhm a a=0:=by rw [zhp ha ha]; simp
  have h3:=zhr ha hb
  have h4:zhm (zhm a b) a=b:=by
   rw [zhp (zhq ha hb) ha,zhp ha hb]
   simp only [Int.toNat_natCast]
   rw [Nat.xor_comm a.toNat,Nat.xor_assoc,Nat.xor_self,Nat.xor_zero]
   unfold u64r at hb;omega
  rw [h,h2] at h4
  exact h4.symm
 ·rintro rfl
  rw [zhp ha hb]
  simp
  unfold u64r at ha;omega
def zh8 (ws:List Int):Prop:=∀ x∈ws,u64r x
theorem jeb {ws:List Int} (h:zh8 ws) (i:Nat):u64r (ws.getD i 0):=by
 rw [List.getD_eq_getElem?_getD]
 cases hx:ws[i]? with
 | none => simp [u64r]
 | some x => exact h x (List.mem_of_getElem? hx)
theorem jrf {ws:List Int} {x:Ev} (h:zh8 ws) (hx:u64r x.ma):zh8 (hit ws x):=by
 unfold hit
 split
 ·exact h
 ·intro y hy
  rcases List.mem_or_eq_of_mem_set hy with hy | rfl
  ·exact h y hy
  ·exact zhq (jeb h _) hx
theorem zbc (l:List Ev):∀ ws,zh8 ws->(∀ x∈l,u64r x.ma)->zh8 (zb8 l ws):=by
 induction l with
 | nil => intro ws h _; exact h
 | cons x l ih => intro ws h hl; exact ih _ (jrf h (hl x (by simp))) (λ y hy => hl y (by simp [hy]))
theorem jrb {ws:List Int} {x y:Ev} (h:zh8 ws) (hx:u64r x.ma) (hy:u64r y.ma):hit (hit ws x) y=hit (hit ws y) x:=by
 unfold hit
 by_cases h1:x.nothing ws.length <;> by_cases h2:y.nothing ws.length <;> simp only [h1,h2,if_true,if_false,List.length_set,Bool.false_eq_true]
 have hxr:x.ad.toNat < ws.length:=by simp [Ev.nothing] at h1;omega
 have hyr:y.ad.toNat < ws.length:=by simp [Ev.nothing] at h2;omega
 by_cases he:x.ad.toNat=y.ad.toNat
 ·rw [he]
  simp only [List.getD_eq_getElem?_getD,List.getElem?_set_self hyr,Option.getD_some,List.set_set]
  congr 1
  have:=zhn (jeb h y.ad.toNat) hx hy
  simpa [List.getD_eq_getElem?_getD] using this
 ·simp only [List.getD_eq_getElem?_getD,List.getElem?_set_ne he,List.getElem?_set_ne (Ne.symm he)]
  rw [List.set_comm _ _ he]
end Go.Proofs.YtpecnaacgkgjmaaGreatDoor
