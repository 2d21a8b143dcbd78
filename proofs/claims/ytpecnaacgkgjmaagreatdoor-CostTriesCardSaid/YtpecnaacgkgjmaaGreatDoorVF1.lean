/-
  Part of the proof of a law: the functions, as programs over a store. Conditions: none.
-/
import Derived.Test.YtpecnaacgkgjmaaGreatDoorProg
import Derived.KernelRfl
import Derived.WalkKit
import Derived.Test.YtpecnaacgkgjmaaGreatDoorVL1
import Derived.Test.YtpecnaacgkgjmaaGreatDoorVA2
set_option linter.unusedVariables false
set_option linter.unusedSectionVars false
set_option linter.unusedSimpArgs false
set_option linter.deprecated false
noncomputable section
set_option maxRecDepth 100000
namespace Go.AM
open Go Go.Proofs Go.Proofs.YtpecnaacgkgjmaaGreatDoor
def TL : List (Nat × TI) := [(3, ⟨1, 8, .int .i64 0, false, .int .i64⟩), (23, ⟨1, 24, .slice none 0 0, false, .slice 82 6 48 [.int .i64 0, .int .i64 0, .int .i64 0, .int .i64 0, .int .i64 0, .int .u64 0]⟩), (273, ⟨7, 56, .agg ⟨[.int .i64 0, .int .i64 0, .int .i64 0, .int .i64 0, .int .i64 0, .int .u64 0, .int .i64 0]⟩, true, .struct [(0, 6, true), (6, 1, false)]⟩), (245, ⟨1, 24, .slice none 0 0, false, .slice 273 7 56 [.int .i64 0, .int .i64 0, .int .i64 0, .int .i64 0, .int .i64 0, .int .u64 0, .int .i64 0]⟩), (82, ⟨6, 48, .agg ⟨[.int .i64 0, .int .i64 0, .int .i64 0, .int .i64 0, .int .i64 0, .int .u64 0]⟩, true, .struct [(0, 1, false), (1, 1, false), (2, 1, false), (3, 1, false), (4, 1, false), (5, 1, false)]⟩), (4, ⟨1, 1, .bool false, false, .bool⟩), (0, ⟨1, 0, .tuple ⟨[]⟩, false, .tuple⟩), (20, ⟨1, 16, .nilIface, false, .iface⟩), (303, ⟨1, 16, .nilIface, false, .iface⟩), (135, ⟨1, 8, .pointer none, false, .ptr none⟩), (247, ⟨2, 32, .agg ⟨[.slice none 0 0, .int .i64 0]⟩, true, .struct [(0, 1, false), (1, 1, false)]⟩), (275, ⟨1, 8, .pointer none, false, .ptr none⟩), (37, ⟨1, 8, .int .i64 0, false, .int .i64⟩), (204, ⟨1, 0, .tuple ⟨[.pointer none, .int .i64 0]⟩, false, .tuple⟩), (137, ⟨4, 48, .agg ⟨[.slice none 0 0, .pointer none, .int .i64 0, .int .i64 0]⟩, true, .struct [(0, 1, false), (1, 1, false), (2, 1, false), (3, 1, false)]⟩), (22, ⟨1, 24, .slice none 0 0, false, .slice 24 1 8 [.int .u64 0]⟩), (34, ⟨1, 8, .pointer none, false, .ptr none⟩), (227, ⟨1, 8, .nilFunc, false, .scalar⟩), (24, ⟨1, 8, .int .u64 0, false, .int .u64⟩), (65, ⟨1, 0, .tuple ⟨[.int .i64 0, .int .i64 0]⟩, false, .tuple⟩), (142, ⟨1, 8, .nilFunc, false, .scalar⟩), (115, ⟨1, 0, .tuple ⟨[.pointer none, .int .i64 0]⟩, false, .tuple⟩), (25, ⟨1, 24, .slice none 0 0, false, .slice 113 2 16 [.int .i64 0, .bool false]⟩), (104, ⟨1, 24, .slice none 0 0, false, .slice 3 1 8 [.int .i64 0]⟩), (113, ⟨2, 16, .agg ⟨[.int .i64 0, .bool false]⟩, true, .struct [(0, 1, false), (1, 1, false)]⟩), (284, ⟨1, 8, .nilFunc, false, .scalar⟩), (197, ⟨1, 0, .tuple ⟨[.slice none 0 0, .int .i64 0]⟩, false, .tuple⟩), (298, ⟨2, 16, .agg ⟨[.int .u64 0, .int .u64 0]⟩, true, .struct [(0, 1, false), (1, 1, false)]⟩), (299, ⟨6, 48, .agg ⟨[.int .u64 0, .int .u64 0, .int .u64 0, .int .u64 0, .int .u64 0, .int .u64 0]⟩, true, .array 3 2 true⟩), (5, ⟨1, 1, .int .u8 0, false, .int .u8⟩), (9, ⟨1, 16, .string "".toUTF8, false, .scalar⟩), (234, ⟨1, 0, .tuple ⟨[.int .u64 0, .int .u64 0]⟩, false, .tuple⟩), (129, ⟨1, 0, .tuple ⟨[.int .u64 0, .int .i64 0]⟩, false, .tuple⟩), (27, ⟨3, 24, .agg ⟨[.int .i64 0, .int .i64 0, .int .i64 0]⟩, true, .struct [(0, 1, false), (1, 1, false), (2, 1, false)]⟩), (214, ⟨1, 24, .slice none 0 0, false, .slice 27 3 24 [.int .i64 0, .int .i64 0, .int .i64 0]⟩), (29, ⟨5, 40, .agg ⟨[.int .i64 0, .bool false, .int .i64 0, .int .i64 0, .int .i64 0]⟩, true, .struct [(0, 1, false), (1, 1, false), (2, 3, true)]⟩), (215, ⟨1, 0, .tuple ⟨[.slice none 0 0, .int .i64 0]⟩, false, .tuple⟩), (128, ⟨3, 72, .agg ⟨[.slice none 0 0, .slice none 0 0, .slice none 0 0]⟩, true, .struct [(0, 1, false), (1, 1, false), (2, 1, false)]⟩), (124, ⟨1, 24, .slice none 0 0, false, .slice 128 3 72 [.slice none 0 0, .slice none 0 0, .slice none 0 0]⟩), (229, ⟨1, 8, .nilFunc, false, .scalar⟩), (119, ⟨1, 0, .tuple ⟨[.slice none 0 0, .int .i64 0]⟩, false, .tuple⟩), (232, ⟨2, 32, .agg ⟨[.int .u64 0, .slice none 0 0]⟩, true, .struct [(0, 1, false), (1, 1, false)]⟩), (233, ⟨4, 32, .agg ⟨[.nilFunc, .nilFunc, .nilFunc, .nilFunc]⟩, true, .array 4 1 false⟩), (230, ⟨1, 8, .nilFunc, false, .scalar⟩), (237, ⟨1, 24, .slice none 0 0, false, .slice 22 1 24 [.slice none 0 0]⟩), (40, ⟨2, 16, .agg ⟨[.int .u64 0, .int .u64 0]⟩, true, .array 2 1 false⟩), (125, ⟨1, 0, .tuple ⟨[.slice none 0 0, .int .i64 0]⟩, false, .tuple⟩), (130, ⟨1, 8, .nilFunc, false, .scalar⟩), (41, ⟨1, 0, .tuple ⟨[.agg ⟨[.int .u64 0, .int .u64 0]⟩, .int .i64 0]⟩, false, .tuple⟩), (31, ⟨13, 152, .agg ⟨[.slice none 0 0, .slice none 0 0, .int .u64 0, .slice none 0 0, .bool false, .int .i64 0, .bool false, .int .i64 0, .int .i64 0, .int .i64 0, .int .i64 0, .int .i64 0, .int .i64 0]⟩, true, .struct [(0, 1, false), (1, 1, false), (2, 1, false), (3, 1, false), (4, 1, false), (5, 5, true), (10, 1, false), (11, 1, false), (12, 1, false)]⟩), (139, ⟨4, 64, .agg ⟨[.slice none 0 0, .slice none 0 0, .int .i64 0, .int .i64 0]⟩, true, .struct [(0, 1, false), (1, 1, false), (2, 1, false), (3, 1, false)]⟩), (36, ⟨1, 8, .pointer none, false, .ptr none⟩), (38, ⟨1, 0, .tuple ⟨[.pointer none, .int .i64 0]⟩, false, .tuple⟩), (286, ⟨1, 0, .tuple ⟨[.slice none 0 0, .int .i64 0]⟩, false, .tuple⟩), (145, ⟨3, 24, .agg ⟨[.pointer none, .int .i64 0, .int .i64 0]⟩, true, .struct [(0, 1, false), (1, 1, false), (2, 1, false)]⟩), (311, ⟨3, 24, .agg ⟨[.int .u64 0, .int .u64 0, .int .u64 0]⟩, true, .array 3 1 false⟩), (309, ⟨1, 0, .tuple ⟨[.int .u64 0, .slice none 0 0, .bool false]⟩, false, .tuple⟩), (280, ⟨1, 0, .tuple ⟨[.int .u64 0, .slice none 0 0, .int .i64 0]⟩, false, .tuple⟩), (78, ⟨3, 24, .agg ⟨[.int .i64 0, .int .u64 0, .int .u64 0]⟩, true, .struct [(0, 1, false), (1, 1, false), (2, 1, false)]⟩), (50, ⟨1, 24, .slice none 0 0, false, .slice 78 3 24 [.int .i64 0, .int .u64 0, .int .u64 0]⟩), (218, ⟨2, 16, .agg ⟨[.int .u64 0, .int .u64 0]⟩, true, .array 2 1 false⟩), (131, ⟨1, 8, .nilFunc, false, .scalar⟩), (252, ⟨1, 0, .tuple ⟨[.slice none 0 0, .slice none 0 0, .int .i64 0]⟩, false, .tuple⟩), (211, ⟨1, 0, .tuple ⟨[.slice none 0 0, .slice none 0 0, .int .i64 0]⟩, false, .tuple⟩), (255, ⟨1, 0, .tuple ⟨[.int .i64 0, .int .u64 0, .int .i64 0]⟩, false, .tuple⟩), (159, ⟨3, 24, .agg ⟨[.int .u64 0, .int .u64 0, .int .u64 0]⟩, true, .struct [(0, 1, false), (1, 2, true)]⟩), (93, ⟨1, 0, .tuple ⟨[.bool false, .int .i64 0]⟩, false, .tuple⟩), (157, ⟨1, 8, .nilFunc, false, .scalar⟩), (160, ⟨1, 8, .nilFunc, false, .scalar⟩), (52, ⟨2, 32, .agg ⟨[.bool false, .slice none 0 0]⟩, true, .struct [(0, 1, false), (1, 1, false)]⟩), (146, ⟨1, 24, .slice none 0 0, false, .slice 145 3 24 [.pointer none, .int .i64 0, .int .i64 0]⟩), (147, ⟨1, 0, .tuple ⟨[.slice none 0 0, .agg ⟨[.int .u64 0, .int .u64 0]⟩, .int .i64 0]⟩, false, .tuple⟩), (53, ⟨1, 0, .tuple ⟨[.agg ⟨[.bool false, .slice none 0 0]⟩, .int .i64 0]⟩, false, .tuple⟩), (48, ⟨13, 152, .agg ⟨[.slice none 0 0, .slice none 0 0, .int .u64 0, .slice none 0 0, .bool false, .int .i64 0, .bool false, .int .i64 0, .int .i64 0, .int .i64 0, .int .i64 0, .int .i64 0, .int .i64 0]⟩, true, .struct [(0, 1, false), (1, 1, false), (2, 1, false), (3, 1, false), (4, 1, false), (5, 5, true), (10, 1, false), (11, 1, false), (12, 1, false)]⟩), (57, ⟨1, 0, .tuple ⟨[.slice none 0 0, .agg ⟨[.bool false, .slice none 0 0]⟩, .int .i64 0]⟩, false, .tuple⟩), (62, ⟨8, 112, .agg ⟨[.int .u64 0, .slice none 0 0, .bool false, .int .i64 0, .slice none 0 0, .slice none 0 0, .int .i64 0, .int .i64 0]⟩, true, .struct [(0, 1, false), (1, 1, false), (2, 1, false), (3, 1, false), (4, 1, false), (5, 1, false), (6, 1, false), (7, 1, false)]⟩), (187, ⟨2, 16, .agg ⟨[.nilFunc, .int .i64 0]⟩, true, .struct [(0, 1, false), (1, 1, false)]⟩), (189, ⟨6, 48, .agg ⟨[.nilFunc, .int .i64 0, .nilFunc, .int .i64 0, .nilFunc, .int .i64 0]⟩, true, .array 3 2 true⟩), (185, ⟨1, 8, .nilFunc, false, .scalar⟩), (88, ⟨1, 24, .slice none 0 0, false, .slice 29 5 40 [.int .i64 0, .bool false, .int .i64 0, .int .i64 0, .int .i64 0]⟩), (163, ⟨1, 0, .tuple ⟨[.slice none 0 0, .int .i64 0]⟩, false, .tuple⟩), (90, ⟨4, 48, .agg ⟨[.int .i64 0, .int .i64 0, .int .i64 0, .slice none 0 0]⟩, true, .struct [(0, 1, false), (1, 1, false), (2, 1, false), (3, 1, false)]⟩), (262, ⟨1, 8, .nilFunc, false, .scalar⟩), (83, ⟨1, 8, .int .u64 0, false, .int .u64⟩), (173, ⟨1, 0, .tuple ⟨[.slice none 0 0, .int .i64 0]⟩, false, .tuple⟩), (172, ⟨10, 144, .agg ⟨[.bool false, .slice none 0 0, .slice none 0 0, .slice none 0 0, .int .i64 0, .pointer none, .slice none 0 0, .int .i64 0, .int .i64 0, .int .i64 0]⟩, true, .struct [(0, 5, true), (5, 1, false), (6, 1, false), (7, 1, false), (8, 1, false), (9, 1, false)]⟩), (167, ⟨1, 8, .pointer none, false, .ptr none⟩), (70, ⟨5, 88, .agg ⟨[.bool false, .slice none 0 0, .slice none 0 0, .slice none 0 0, .int .i64 0]⟩, true, .struct [(0, 1, false), (1, 1, false), (2, 1, false), (3, 1, false), (4, 1, false)]⟩), (67, ⟨1, 24, .slice none 0 0, false, .slice 80 6 48 [.int .i64 0, .int .i64 0, .int .i64 0, .int .i64 0, .int .u64 0, .int .u64 0]⟩), (80, ⟨6, 48, .agg ⟨[.int .i64 0, .int .i64 0, .int .i64 0, .int .i64 0, .int .u64 0, .int .u64 0]⟩, true, .struct [(0, 1, false), (1, 1, false), (2, 1, false), (3, 3, true)]⟩), (68, ⟨1, 24, .slice none 0 0, false, .slice 76 4 32 [.int .i64 0, .int .i64 0, .int .i64 0, .int .i64 0]⟩), (76, ⟨4, 32, .agg ⟨[.int .i64 0, .int .i64 0, .int .i64 0, .int .i64 0]⟩, true, .struct [(0, 1, false), (1, 1, false), (2, 1, false), (3, 1, false)]⟩), (221, ⟨1, 8, .nilFunc, false, .scalar⟩), (91, ⟨1, 0, .tuple ⟨[.agg ⟨[.int .i64 0, .int .i64 0, .int .i64 0, .slice none 0 0]⟩, .int .i64 0]⟩, false, .tuple⟩), (168, ⟨1, 0, .tuple ⟨[.pointer none, .int .i64 0]⟩, false, .tuple⟩), (71, ⟨1, 0, .tuple ⟨[.agg ⟨[.bool false, .slice none 0 0, .slice none 0 0, .slice none 0 0, .int .i64 0]⟩, .int .i64 0]⟩, false, .tuple⟩), (177, ⟨1, 0, .tuple ⟨[.int .i64 0, .slice none 0 0, .int .i64 0]⟩, false, .tuple⟩), (261, ⟨1, 8, .nilFunc, false, .scalar⟩), (264, ⟨1, 8, .nilFunc, false, .scalar⟩), (86, ⟨1, 0, .tuple ⟨[.slice none 0 0, .int .i64 0, .bool false]⟩, false, .tuple⟩), (99, ⟨5, 104, .agg ⟨[.slice none 0 0, .slice none 0 0, .slice none 0 0, .slice none 0 0, .int .i64 0]⟩, true, .struct [(0, 1, false), (1, 4, true)]⟩), (100, ⟨1, 0, .tuple ⟨[.agg ⟨[.slice none 0 0, .slice none 0 0, .slice none 0 0, .slice none 0 0, .int .i64 0]⟩, .int .i64 0]⟩, false, .tuple⟩), (97, ⟨4, 80, .agg ⟨[.slice none 0 0, .slice none 0 0, .slice none 0 0, .int .i64 0]⟩, true, .struct [(0, 1, false), (1, 1, false), (2, 1, false), (3, 1, false)]⟩), (95, ⟨1, 24, .slice none 0 0, false, .slice 106 2 16 [.int .i64 0, .int .i64 0]⟩), (106, ⟨2, 16, .agg ⟨[.int .i64 0, .int .i64 0]⟩, true, .struct [(0, 1, false), (1, 1, false)]⟩), (109, ⟨1, 0, .tuple ⟨[.agg ⟨[.int .u64 0, .slice none 0 0, .bool false, .int .i64 0, .slice none 0 0, .slice none 0 0, .int .i64 0, .int .i64 0]⟩, .slice none 0 0]⟩, false, .tuple⟩)]
theorem j1f:j06 Tryz.prog TL:=by repeat' first | exact trivial | apply And.intro | kernel_rfl
theorem jb1:j0c Tryz.prog [.int .i64 0,.int .i64 0,.int .i64 0] 27:=by
 intro l m hl hm w
 obtain ⟨a0,l0,rfl,hl0⟩:=z1a hl
 obtain ⟨a1,l1,rfl,hl1⟩:=z1a hl0
 obtain ⟨a2,l2,rfl,hl2⟩:=z1a hl1
 obtain rfl:=z1b hl2
 obtain ⟨b0,m0,rfl,hm0⟩:=z1a hm
 obtain ⟨b1,m1,rfl,hm1⟩:=z1a hm0
 obtain ⟨b2,m2,rfl,hm2⟩:=z1a hm1
 obtain rfl:=z1b hm2
 refine ⟨?_,jb6 (by kernel_rfl) _ _ w⟩
 refine jb7 ?_
 go_simp
 simp only [eqL]
 by_cases h0:a0=b0
 case neg=>simp [h0]
 by_cases h1:a1=b1
 case neg=>simp [h0,h1]
 by_cases h2:a2=b2
 case neg=>simp [h0,h1,h2]
 simp [h0,h1,h2]
theorem jb2:j0c Tryz.prog [.int .u64 0,.int .u64 0] 40:=by
 intro l m hl hm w
 obtain ⟨a0,l0,rfl,hl0⟩:=z1a hl
 obtain ⟨a1,l1,rfl,hl1⟩:=z1a hl0
 obtain rfl:=z1b hl1
 obtain ⟨b0,m0,rfl,hm0⟩:=z1a hm
 obtain ⟨b1,m1,rfl,hm1⟩:=z1a hm0
 obtain rfl:=z1b hm1
 refine ⟨?_,jb6 (by kernel_rfl) _ _ w⟩
 unfold Op.equal
 rw [show Op.maxDepth=9999+1 from rfl,Op.equalIn]
 simp only [Sem.run_bind,run_underlying Tryz.underlying40,Result.andThen_ok]
 simp only [Std.Legacy.Range.forIn_eq_forIn_range',Std.Legacy.Range.size,Nat.sub_zero,Nat.add_sub_cancel,Nat.div_one,List.range'_succ,List.range'_zero,List.forIn_cons,List.forIn_nil]
 go_simp
 simp only [eqL]
 by_cases h0:a0=b0
 case neg=>simp [h0]
 by_cases h1:a1=b1
 case neg=>simp [h0,h1]
 simp [h0,h1]
theorem jb0:j0c Tryz.prog [.int .u64 0,.int .u64 0] 218:=by
 intro l m hl hm w
 obtain ⟨a0,l0,rfl,hl0⟩:=z1a hl
 obtain ⟨a1,l1,rfl,hl1⟩:=z1a hl0
 obtain rfl:=z1b hl1
 obtain ⟨b0,m0,rfl,hm0⟩:=z1a hm
 obtain ⟨b1,m1,rfl,hm1⟩:=z1a hm0
 obtain rfl:=z1b hm1
 refine ⟨?_,jb6 (by kernel_rfl) _ _ w⟩
 unfold Op.equal
 rw [show Op.maxDepth=9999+1 from rfl,Op.equalIn]
 simp only [Sem.run_bind,run_underlying Tryz.underlying218,Result.andThen_ok]
 simp only [Std.Legacy.Range.forIn_eq_forIn_range',Std.Legacy.Range.size,Nat.sub_zero,Nat.add_sub_cancel,Nat.div_one,List.range'_succ,List.range'_zero,List.forIn_cons,List.forIn_nil]
 go_simp
 simp only [eqL]
 by_cases h0:a0=b0
 case neg=>simp [h0]
 by_cases h1:a1=b1
 case neg=>simp [h0,h1]
 simp [h0,h1]
theorem jb4:j0c Tryz.prog [.int .i64 0,.int .u64 0,.int .u64 0] 78:=by
 intro l m hl hm w
 obtain ⟨a0,l0,rfl,hl0⟩:=z1a hl
 obtain ⟨a1,l1,rfl,hl1⟩:=z1a hl0
 obtain ⟨a2,l2,rfl,hl2⟩:=z1a hl1
 obtain rfl:=z1b hl2
 obtain ⟨b0,m0,rfl,hm0⟩:=z1a hm
 obtain ⟨b1,m1,rfl,hm1⟩:=z1a hm0
 obtain ⟨b2,m2,rfl,hm2⟩:=z1a hm1
 obtain rfl:=z1b hm2
 refine ⟨?_,jb6 (by kernel_rfl) _ _ w⟩
 refine jb7 ?_
 go_simp
 simp only [eqL]
 by_cases h0:a0=b0
 case neg=>simp [h0]
 by_cases h1:a1=b1
 case neg=>simp [h0,h1]
 by_cases h2:a2=b2
 case neg=>simp [h0,h1,h2]
 simp [h0,h1,h2]
theorem jb5:j0c Tryz.prog [.int .i64 0,.int .i64 0,.int .i64 0,.int .i64 0,.int .u64 0,.int .u64 0] 80:=by
 intro l m hl hm w
 obtain ⟨a0,l0,rfl,hl0⟩:=z1a hl
 obtain ⟨a1,l1,rfl,hl1⟩:=z1a hl0
 obtain ⟨a2,l2,rfl,hl2⟩:=z1a hl1
 obtain ⟨a3,l3,rfl,hl3⟩:=z1a hl2
 obtain ⟨a4,l4,rfl,hl4⟩:=z1a hl3
 obtain ⟨a5,l5,rfl,hl5⟩:=z1a hl4
 obtain rfl:=z1b hl5
 obtain ⟨b0,m0,rfl,hm0⟩:=z1a hm
 obtain ⟨b1,m1,rfl,hm1⟩:=z1a hm0
 obtain ⟨b2,m2,rfl,hm2⟩:=z1a hm1
 obtain ⟨b3,m3,rfl,hm3⟩:=z1a hm2
 obtain ⟨b4,m4,rfl,hm4⟩:=z1a hm3
 obtain ⟨b5,m5,rfl,hm5⟩:=z1a hm4
 obtain rfl:=z1b hm5
 refine ⟨?_,jb6 (by kernel_rfl) _ _ w⟩
 refine jb7 ?_
 go_simp
 simp only [eqL]
 by_cases h0:a0=b0
 case neg=>simp [h0]
 by_cases h1:a1=b1
 case neg=>simp [h0,h1]
 by_cases h2:a2=b2
 case neg=>simp [h0,h1,h2]
 by_cases h3:a3=b3
 case neg=>simp [h0,h1,h2,h3]
 by_cases h4:a4=b4
 case neg=>simp [h0,h1,h2,h3,h4]
 by_cases h5:a5=b5
 case neg=>simp [h0,h1,h2,h3,h4,h5]
 simp [h0,h1,h2,h3,h4,h5]
theorem jb3:j0c Tryz.prog [.int .i64 0,.int .i64 0,.int .i64 0,.int .i64 0] 76:=by
 intro l m hl hm w
 obtain ⟨a0,l0,rfl,hl0⟩:=z1a hl
 obtain ⟨a1,l1,rfl,hl1⟩:=z1a hl0
 obtain ⟨a2,l2,rfl,hl2⟩:=z1a hl1
 obtain ⟨a3,l3,rfl,hl3⟩:=z1a hl2
 obtain rfl:=z1b hl3
 obtain ⟨b0,m0,rfl,hm0⟩:=z1a hm
 obtain ⟨b1,m1,rfl,hm1⟩:=z1a hm0
 obtain ⟨b2,m2,rfl,hm2⟩:=z1a hm1
 obtain ⟨b3,m3,rfl,hm3⟩:=z1a hm2
 obtain rfl:=z1b hm3
 refine ⟨?_,jb6 (by kernel_rfl) _ _ w⟩
 refine jb7 ?_
 go_simp
 simp only [eqL]
 by_cases h0:a0=b0
 case neg=>simp [h0]
 by_cases h1:a1=b1
 case neg=>simp [h0,h1]
 by_cases h2:a2=b2
 case neg=>simp [h0,h1,h2]
 by_cases h3:a3=b3
 case neg=>simp [h0,h1,h2,h3]
 simp [h0,h1,h2,h3]
theorem jaz:j0c Tryz.prog [.int .i64 0,.int .i64 0] 106:=by
 intro l m hl hm w
 obtain ⟨a0,l0,rfl,hl0⟩:=z1a hl
 obtain ⟨a1,l1,rfl,hl1⟩:=z1a hl0
 obtain rfl:=z1b hl1
 obtain ⟨b0,m0,rfl,hm0⟩:=z1a hm
 obtain ⟨b1,m1,rfl,hm1⟩:=z1a hm0
 obtain rfl:=z1b hm1
 refine ⟨?_,jb6 (by kernel_rfl) _ _ w⟩
 refine jb7 ?_
 go_simp
 simp only [eqL]
 by_cases h0:a0=b0
 case neg=>simp [h0]
 by_cases h1:a1=b1
 case neg=>simp [h0,h1]
 simp [h0,h1]
def EL:List (Nat×List Value):=[(27,[.int .i64 0,.int .i64 0,.int .i64 0]),(40,[.int .u64 0,.int .u64 0]),(218,[.int .u64 0,.int .u64 0]),(78,[.int .i64 0,.int .u64 0,.int .u64 0]),(80,[.int .i64 0,.int .i64 0,.int .i64 0,.int .i64 0,.int .u64 0,.int .u64 0]),(76,[.int .i64 0,.int .i64 0,.int .i64 0,.int .i64 0]),(106,[.int .i64 0,.int .i64 0])]
theorem j0b:j03 Tryz.prog EL:=⟨jb1,jb2,jb0,jb4,jb5,jb3,jaz,trivial⟩
def XL:List (Nat×(List Value->Option (Bool×Value))):=[(240,zhl),(241,zhk)]
theorem j1k:j07 Tryz.prog XL:=⟨zbk Tryz.func240 (by kernel_rfl) (by kernel_rfl) (by kernel_rfl) (by kernel_rfl),j24 Tryz.func241 (by kernel_rfl) (by kernel_rfl) (by kernel_rfl) (by kernel_rfl),trivial⟩
def KL:List (Nat×List Value):=[]
theorem j0p:j05 Tryz.prog KL:=trivial
def IL : List (TypeId × String × FuncId × Option TypeId) := [(275, "Push", 302, none), (275, "Len", 298, some 245), (275, "Swap", 300, some 245), (275, "Pop", 301, none), (275, "Less", 299, some 245)]
theorem j0k:j04 Tryz.prog IL:=⟨λ _ _=>by kernel_rfl,λ _ _=>by kernel_rfl,λ _ _=>by kernel_rfl,λ _ _=>by kernel_rfl,λ _ _=>by kernel_rfl,trivial⟩
def jwy:j0l:=jx0 (jw0 IL) (jw4 TL)
theorem jwz {G:List (Nat×Obj)}:j0n Tryz.prog G jwy:=jx1 (jw1 j0k) (jw5 j1f)
theorem jsd (C : FuncId → List Value → M Value) (v : Value) (args : List Value) : jwy C "Push" (.iface 275 v) args = C 302 (v :: args) := by simp [jwy, jx0, jw0, IL, jz2]
theorem jsa (C : FuncId → List Value → M Value) (v : Value) (args : List Value) : jwy C "Len" (.iface 275 v) args = j94 (jw4 TL) 245 v fun u => C 298 (u :: args) := by simp [jwy, jx0, jw0, IL, jz2]
theorem jse (C : FuncId → List Value → M Value) (v : Value) (args : List Value) : jwy C "Swap" (.iface 275 v) args = j94 (jw4 TL) 245 v fun u => C 300 (u :: args) := by simp [jwy, jx0, jw0, IL, jz2]
theorem jsc (C : FuncId → List Value → M Value) (v : Value) (args : List Value) : jwy C "Pop" (.iface 275 v) args = C 301 (v :: args) := by simp [jwy, jx0, jw0, IL, jz2]
theorem jsb (C : FuncId → List Value → M Value) (v : Value) (args : List Value) : jwy C "Less" (.iface 275 v) args = j94 (jw4 TL) 245 v fun u => C 299 (u :: args) := by simp [jwy, jx0, jw0, IL, jz2]
def tb (L:List (Nat×(List Value->M Value))) (C:FuncId->List Value->M Value):Tb:={ T:=jw4 TL,eq:=jvy EL,isX:=jsj XL,X:=jw6 XL,C:=jvv L C,I:=jwy,kk:=jw2 KL }
theorem zcs {G:List (Nat×Obj)} (L:List (Nat×(List Value->M Value))) (C:FuncId->List Value->M Value) (h:j02 Tryz.prog G L) (hC:COK Tryz.prog G C):j1g Tryz.prog G (tb L C):=⟨jw5 j1f,jvz j0b,jw7 j1k,jvx hC h,jwz,jw3 j0p,by kernel_rfl⟩
def fnG (L:List (Nat×(List Value->M Value))) (C:FuncId->List Value->M Value) (an:List (Nat×Ann)) (c:Code) (nt:Nat) (ts:List ResultVar) (args:List Value):M Value:=fnD (tb L C) (j8s (tb L C)) (jvu an) c nt ts args
theorem jd8 {G : List (Nat × Obj)} {L : List (Nat × (List Value → M Value))} {C : FuncId → List Value → M Value} {an : List (Nat × Ann)} {c : Code} {nt : Nat} {ts : List ResultVar} {k : FuncId} {fn : Func} (h : j02 Tryz.prog G L) (hC : COK Tryz.prog G C) (hf : Tryz.prog.funcs[k]? = some fn) (hb : fn.body = some c := by exact rfl) (hn : fn.ntmps = nt := by exact rfl) (hr : fn.results.toList = ts := by exact rfl) (hne : fn.name ≠ "runtime.NumGoroutine" := by decide +kernel) : j0i Tryz.prog G k (fnG L C an c nt ts) := fun _ _ _ _ h2 => jd9 (zcs L C h hC) (ja7 (zcs L C h hC)) hf hb hn hr hne h2
abbrev OKG (k:FuncId) (g:List Value->M Value):Prop:=∀ {G:List (Nat×Obj)},GT G->j0i Tryz.prog G k g
def jmp:=fnG [] noC [] (Tryz.f101.body.getD .skip) 6 [.tmp 2]
theorem jmr:OKG 101 jmp:=λ hG=>jd8 trivial jy5 Tryz.func101
theorem jmq (l ln lc):jmp [vS l ln lc] =
 (bif decide (1024 < (↑ln:Int)) then z5w 0 [vI 1] else z5w 0 [vI 0]).bind jzc:=by kernel_rfl
def jfm:=fnG [] noC [] (Tryz.f302.body.getD .skip) 20 []
theorem jfo:OKG 302 jfm:=λ hG=>jd8 trivial jy5 Tryz.func302
theorem jfn (q x):jfm [vP q,x] =
 ((asF x).bind λ q_1=>bif decide (q_1.fst=273) then (asA q_1.snd).bind λ vs=>gL vs 7 (hI vs λ n=>hI vs.tail λ n_1=>hI vs.tail.tail λ n_2=>hI vs.tail.tail.tail λ n_3=>hI vs.tail.tail.tail.tail λ n_4=>hU vs.tail.tail.tail.tail.tail λ n_5=>hI vs.tail.tail.tail.tail.tail.tail λ n_6=>nB [vI 0,vI 0,vI 0,vI 0,vI 0,vU 0,vI 0] 273 λ n_7=>sL (ad n_7 0) [vI n,vI n_1,vI n_2,vI n_3,vI n_4,vU n_5,vI n_6] λ x=>jz2 q λ a=>dS a λ s=>lI n_7 0 λ n=>lI n_7 1 λ n_8=>lI n_7 2 λ n_9=>lI n_7 3 λ n_10=>lI n_7 4 λ n_11=>lU n_7 5 λ n_12=>lI n_7 6 λ n_13=>nB [vI n,vI n_8,vI n_9,vI n_10,vI n_11,vU n_12,vI n_13] 273 λ b=>(rdN (some (ad b 0)) 7).bind λ xs=>(j33 273 7 56 s.a s.n s.c 1 xs).bind λ q_2=>jz2 q λ a=>sL a [vS q_2.a q_2.n q_2.c] λ x=>z5w 0 [vT []]) else nB [vI 0,vI 0,vI 0,vI 0,vI 0,vU 0,vI 0] 273 λ n=>sL (ad n 0) [vI 0,vI 0,vI 0,vI 0,vI 0,vU 0,vI 0] λ x=>z5w 0 [vT []]).bind jzc:=by kernel_rfl
def jfd:=fnG [] noC [] (Tryz.f298.body.getD .skip) 5 [.tmp 2]
theorem jff:OKG 298 jfd:=λ hG=>jd8 trivial jy5 Tryz.func298
theorem jfe (q qn qc):jfd [vS q qn qc] =
 (z5w 0 [vI (↑qn:Int)]).bind jzc:=by kernel_rfl
def jfp:=fnG [] noC [] (Tryz.f300.body.getD .skip) 20 []
theorem jfr:OKG 300 jfp:=λ hG=>jd8 trivial jy5 Tryz.func300
theorem jfq (q qn qc i j):jfp [vS q qn qc,vI i,vI j] =
 (onX j qn q (λ a=>xI a j 7 λ n=>dI ((ax a j 7).add 1) λ n_1=>dI ((ax a j 7).add 2) λ n_2=>dI ((ax a j 7).add 3) λ n_3=>dI ((ax a j 7).add 4) λ n_4=>dU ((ax a j 7).add 5) λ n_5=>dI ((ax a j 7).add 6) λ n_6=>onX i qn q (λ a=>xI a i 7 λ n_7=>dI ((ax a i 7).add 1) λ n_8=>dI ((ax a i 7).add 2) λ n_9=>dI ((ax a i 7).add 3) λ n_10=>dI ((ax a i 7).add 4) λ n_11=>dU ((ax a i 7).add 5) λ n_12=>dI ((ax a i 7).add 6) λ n_13=>onX i qn q (λ a=>sL (ax a i 7) [vI n,vI n_1,vI n_2,vI n_3,vI n_4,vU n_5,vI n_6] λ x=>onX j qn q (λ a=>sL (ax a j 7) [vI n_7,vI n_8,vI n_9,vI n_10,vI n_11,vU n_12,vI n_13] λ x=>z5w 0 [vT []]))))).bind jzc:=by kernel_rfl
def jfj:=fnG [] noC [] (Tryz.f301.body.getD .skip) 25 [.tmp 2]
theorem jfl:OKG 301 jfj:=λ hG=>jd8 trivial jy5 Tryz.func301
theorem jfk (q):jfj [vP q] =
 (jz2 q λ a=>dS a λ s=>jz2 q λ a=>dS a λ s_1=>onX (wI ((↑s.n:Int)-1)) s_1.n s_1.a (λ a=>(ld (a.add ((wI ((↑s.n:Int)-1)).toNat*7))).bI λ n=>(ld ((a.add ((wI ((↑s.n:Int)-1)).toNat*7)).add 1)).bI λ n_1=>(ld ((a.add ((wI ((↑s.n:Int)-1)).toNat*7)).add 2)).bI λ n_2=>(ld ((a.add ((wI ((↑s.n:Int)-1)).toNat*7)).add 3)).bI λ n_3=>(ld ((a.add ((wI ((↑s.n:Int)-1)).toNat*7)).add 4)).bI λ n_4=>(ld ((a.add ((wI ((↑s.n:Int)-1)).toNat*7)).add 5)).bU λ n_5=>(ld ((a.add ((wI ((↑s.n:Int)-1)).toNat*7)).add 6)).bI λ n_6=>nB [vI 0,vI 0,vI 0,vI 0,vI 0,vU 0,vI 0] 273 λ n_7=>sL (ad n_7 0) [vI n,vI n_1,vI n_2,vI n_3,vI n_4,vU n_5,vI n_6] λ x=>jz2 q λ a=>dS a λ s_2=>(j8c true true 7 s_2.a s_2.c (↑0:Int) (wI ((↑s.n:Int)-1)) (↑s_2.c:Int)).bind λ s=>jz2 q λ a=>sL a [vS s.a s.n s.c] λ x=>lI n_7 0 λ n=>lI n_7 1 λ n_8=>lI n_7 2 λ n_9=>lI n_7 3 λ n_10=>lI n_7 4 λ n_11=>lU n_7 5 λ n_12=>lI n_7 6 λ n_13=>z5w 0 [Value.iface 273 (vA [vI n,vI n_8,vI n_9,vI n_10,vI n_11,vU n_12,vI n_13])])).bind jzc:=by kernel_rfl
def jfg:=fnG [] noC [] (Tryz.f299.body.getD .skip) 44 [.tmp 6]
theorem jfi:OKG 299 jfg:=λ hG=>jd8 trivial jy5 Tryz.func299
theorem jfh (q qn qc i j):jfg [vS q qn qc,vI i,vI j] =
 (onX i qn q (λ a=>dI ((ax a i 7).add 3) λ n=>onX j qn q (λ a=>dI ((ax a j 7).add 3) λ n_1=>bif n != n_1 then onX i qn q (λ a=>dI ((ax a i 7).add 3) λ n=>onX j qn q (λ a=>dI ((ax a j 7).add 3) λ n_2=>z5w 0 [vB (decide (n < n_2))])) else onX i qn q (λ a=>dI ((ax a i 7).add 6) λ n=>onX j qn q (λ a=>dI ((ax a j 7).add 6) λ n_2=>z5w 0 [vB (decide (n < n_2))]))))).bind jzc:=by kernel_rfl
def j3d:List (Nat×Ann):=[(2,⟨[1],[.int .i64 0],[⟨.ex 0,[],[]⟩]⟩)]
def jh3 (C:FuncId->List Value->M Value):=fnG [] C j3d (Tryz.f266.body.getD .skip) 23 []
theorem jh5 {G:List (Nat×Obj)} (hG:GT G) (C:FuncId->List Value->M Value) (hC:COK Tryz.prog G C):j0i Tryz.prog G 266 (jh3 C):=jd8 trivial hC Tryz.func266
theorem jh4 (C h j):jh3 C [h,vI j] =
 ((jw8 (fun st => gL st 1 (hI st fun n => bif wI ((wI (n - 1)).tdiv 2) == n then z5w 1 [] else (jwy C "Less" h [vI n, vI (wI ((wI (n - 1)).tdiv 2))]).bB fun b => bif !b then z5w 1 [] else (jwy C "Swap" h [vI (wI ((wI (n - 1)).tdiv 2)), vI n]).bN 0 fun vs => (z5w 0 [vI (wI ((wI (n - 1)).tdiv 2))]))) [vI j]).bind fun q => gL q.snd 0 (z5w 0 [vT []])).bind jzc := by kernel_rfl
def jgx (C:FuncId->List Value->M Value):=fnG [(266,jh3 C)] C [] (Tryz.f243.body.getD .skip) 12 []
theorem jgz {G:List (Nat×Obj)} (hG:GT G) (C:FuncId->List Value->M Value) (hC:COK Tryz.prog G C):j0i Tryz.prog G 243 (jgx C):=jd8 ⟨jh5 hG _ hC,trivial⟩ hC Tryz.func243
theorem jgy (C h x):jgx C [h,x] =
 ((jwy (jvv [(266, jh3 C)] C) "Push" h [x]).bN 0 fun vs => ((jwy (jvv [(266, jh3 C)] C) "Len" h []).bI fun n => (jh3 C [h, vI (wI (n - 1))]).bN 0 fun vs => (z5w 0 [vT []]))).bind jzc := by kernel_rfl
def j36:List (Nat×Ann):=[(3,⟨[],[],[⟨.norm,[],[]⟩,⟨.ret,[4],[.int .i64 0]⟩]⟩),(6,⟨[],[],[⟨.norm,[19],[.bool false]⟩]⟩),(58,⟨[22],[.int .i64 0],[⟨.ex 0,[],[]⟩]⟩)]
def jey:=fnG [(243,jgx (jvv [(299,jfg)] (jvv [(301,jfj)] (jvv [(300,jfp)] (jvv [(298,jfd)] (jvv [(302,jfm)] noC))))))] (jvv [(299,jfg)] (jvv [(301,jfj)] (jvv [(300,jfp)] (jvv [(298,jfd)] (jvv [(302,jfm)] noC))))) j36 (Tryz.f201.body.getD .skip) 46 [.tmp 4]
theorem jf0:OKG 201 jey:=λ hG=>jd8 ⟨jgz hG _ (jvx (L:=[(299,jfg)]) (jvx (L:=[(301,jfj)]) (jvx (L:=[(300,jfp)]) (jvx (L:=[(298,jfd)]) (jvx (L:=[(302,jfm)]) jy5 ⟨jfo hG,trivial⟩) ⟨jff hG,trivial⟩) ⟨jfr hG,trivial⟩) ⟨jfl hG,trivial⟩) ⟨jfi hG,trivial⟩),trivial⟩ (jvx (L:=[(299,jfg)]) (jvx (L:=[(301,jfj)]) (jvx (L:=[(300,jfp)]) (jvx (L:=[(298,jfd)]) (jvx (L:=[(302,jfm)]) jy5 ⟨jfo hG,trivial⟩) ⟨jff hG,trivial⟩) ⟨jfr hG,trivial⟩) ⟨jfl hG,trivial⟩) ⟨jfi hG,trivial⟩) Tryz.func201
def jtd:Option Addr->Option Addr->Nat->Nat×List Value->M (Nat×List Value):=
 λ a l ln q=>z0t [gL q.snd 0 ((jw8 (λ st=>gL st 1 (hI st λ n=>bif decide (n < (↑ln:Int)) then onX n ln l (λ a_1=>xI a_1 n 6 λ n_1=>dI ((ax a_1 n 6).add 1) λ n_2=>dI ((ax a_1 n 6).add 2) λ n_3=>dI ((ax a_1 n 6).add 3) λ n_4=>dI ((ax a_1 n 6).add 4) λ n_5=>dU ((ax a_1 n 6).add 5) λ n_6=>nB [vI 0,vI 0,vI 0,vI 0,vI 0,vU 0] 82 λ n_7=>sL (ad n_7 0) [vI n_1,vI n_2,vI n_3,vI n_4,vI n_5,vU n_6] λ x=>jz2 a λ a_2=>lI n_7 0 λ n_8=>lI n_7 1 λ n_9=>lI n_7 2 λ n_10=>lI n_7 3 λ n_11=>lI n_7 4 λ n_12=>lU n_7 5 λ n_13=>jz2 a λ a_3=>dI (a_3.add 1) λ n_14=>(jgx (jvv [(299,jfg)] (jvv [(301,jfj)] (jvv [(300,jfp)] (jvv [(298,jfd)] (jvv [(302,jfm)] noC))))) [Value.iface 275 (vP (some a_2)),Value.iface 273 (vA [vI n_8,vI n_9,vI n_10,vI n_11,vI n_12,vU n_13,vI n_14])]).bN 0 λ vs=>(jz2 a λ a_4=>dI (a_4.add 1) λ n_15=>jz2 a λ a=>sL (a.add 1) [vI (wI (n_15+1))] λ x=>z5w 0 [vI (wI (n+1))])) else z5w 1 [])) [vI 0]).bind λ q=>gL q.snd 0 (z5w 0 [vI 0])),gL q.snd 1 (hI q.snd λ n=>z5w 0 [vI n])] q.fst
theorem jez (a l ln lc):jey [vP a,vS l ln lc] =
 (((bif a.isNone then z5w 0 [vB true] else jz2 a λ a=>dS a λ s=>z5w 0 [vB (decide (wI (1024-(↑s.n:Int)) < (↑ln:Int)))]).bind λ q=>gL q.snd 1 (hB q.snd λ b=>bif b then z5w 1 [vI 1] else z5w 0 [])).bind (jtd a l ln)).bind jzc:=by kernel_rfl
def jf7:=fnG [(201,jey)] noC [] (Tryz.f150.body.getD .skip) 15 [.tmp 2,.tmp 3]
theorem jf9:OKG 150 jf7:=λ hG=>jd8 ⟨jf0 hG,trivial⟩ jy5 Tryz.func150
theorem jf8 (l ln lc):jf7 [vS l ln lc] =
 (nB [vS none 0 0,vI 0] 247 λ n=>(jey [vP (some (ad n 0)),vS l ln lc]).bI λ n_1=>bif n_1 != 0 then z5w 0 [vT [vP none,vI n_1]] else z5w 0 [vT [vP (some (ad n 0)),vI 0]]).bind jzc:=by kernel_rfl
def jk8:=fnG [(101,jmp),(150,jf7)] noC [] (Tryz.f77.body.getD .skip) 25 [.tmp 4]
theorem jka:OKG 77 jk8:=λ hG=>jd8 ⟨jmr hG,jf9 hG,trivial⟩ jy5 Tryz.func77
theorem jk9 (m l ln lc):jk8 [vP m,vS l ln lc] =
 ((jmp [vS l ln lc]).bI λ n=>bif n != 0 then z5w 0 [vI n] else (jf7 [vS l ln lc]).bN 2 λ vs=>(hP vs λ p=>hI vs.tail λ n=>bif n != 0 then z5w 0 [vI n] else jz2 m λ a=>sL (a.add 1) [vP p] λ x=>z5w 0 [vI 0])).bind jzc:=by kernel_rfl
def j3s:List (Nat×Ann):=[(3,⟨[],[],[⟨.norm,[],[]⟩,⟨.ret,[4,5],[.pointer none,.int .i64 0]⟩]⟩)]
def jke:=fnG [(77,jk8)] noC j3s (Tryz.f62.body.getD .skip) 25 [.tmp 4,.tmp 5]
theorem jkg:OKG 62 jke:=λ hG=>jd8 ⟨jka hG,trivial⟩ jy5 Tryz.func62
theorem jkf (words l ln lc):jke [vI words,vS l ln lc] =
 ((bif decide (words < 1) then z5w 1 [vP none,vI 1] else bif decide (16384 < words) then z5w 1 [vP none,vI 1] else z5w 0 []).bind λ q=>z0t [gL q.snd 0 (jr0 (0<=words/\words<=words/\words<=281474976710656/\(↑8:Int)*words<=281474976710656/\[vU 0].all jcs=true) (nB (zht words.toNat [vU 0]) 24 λ n=>nB [vS (some (ad n 0)) words.toNat words.toNat,vP none,vI 0,vI 0] 137 λ n=>(jk8 [vP (some (ad n 0)),vS l ln lc]).bI λ n_1=>bif n_1 != 0 then z5w 0 [vT [vP none,vI n_1]] else z5w 0 [vT [vP (some (ad n 0)),vI 0]])),gL q.snd 2 (hP q.snd λ p=>hI q.snd.tail λ n=>z5w 0 [vT [vP p,vI n]])] q.fst).bind jzc:=by kernel_rfl
def j35:List (Nat×Ann):=[(3,⟨[],[],[⟨.norm,[],[]⟩,⟨.ret,[2,3],[.int .i64 0,.int .i64 0]⟩]⟩)]
def jev:=fnG [] noC j35 (Tryz.f195.body.getD .skip) 22 [.tmp 2,.tmp 3]
theorem jex:OKG 195 jev:=λ hG=>jd8 trivial jy5 Tryz.func195
theorem jew (a):jev [vP a] =
 ((bif a.isNone then z5w 1 [vI 0,vI 9] else jz2 a λ a=>dS a λ s=>bif (↑s.n:Int) == 0 then z5w 1 [vI 0,vI 9] else z5w 0 []).bind λ q=>z0t [gL q.snd 0 (jz2 a λ a=>dS a λ s=>jr0 (0<=Int.ofNat 0/\0 < (↑s.n:Int)) (jz2 s.a λ a=>dI (a.add 3) λ n=>z5w 0 [vT [vI n,vI 0]])),gL q.snd 2 (hI q.snd λ n=>hI q.snd.tail λ n_1=>z5w 0 [vT [vI n,vI n_1]])] q.fst).bind jzc:=by kernel_rfl
def jfa:=fnG [] noC [] (Tryz.f203.body.getD .skip) 8 [.tmp 4]
theorem jfc:OKG 203 jfa:=λ hG=>jd8 trivial jy5 Tryz.func203
theorem jfb (t tick):jfa [vI t,vI tick] =
 (z5w 0 [vB (decide (tick<=t))]).bind jzc:=by kernel_rfl
def j3c:List (Nat×Ann):=[(28,⟨[7],[.int .i64 0],[⟨.ex 0,[7],[.int .i64 0]⟩]⟩),(225,⟨[],[],[⟨.norm,[],[]⟩,⟨.ex 0,[],[]⟩]⟩),(903,⟨[],[],[⟨.norm,[9],[.int .i64 0]⟩]⟩)]
def jh0 (C:FuncId->List Value->M Value):=fnG [] C j3c (Tryz.f267.body.getD .skip) 48 [.tmp 6]
theorem jh2 {G:List (Nat×Obj)} (hG:GT G) (C:FuncId->List Value->M Value) (hC:COK Tryz.prog G C):j0i Tryz.prog G 267 (jh0 C):=jd8 trivial hC Tryz.func267
theorem jh1 (C h i0 n):jh0 C [h,vI i0,vI n] =
 ((jw8 (fun st => gL st 1 (hI st fun n_1 => (bif decide (n ≤ wI (wI (2 * n_1) + 1)) then z5w 1 [] else bif decide (wI (wI (2 * n_1) + 1) < 0) then z5w 1 [] else z5w 0 []).bind fun q => z0t [gL q.snd 0 ((bif decide (wI (wI (wI (2 * n_1) + 1) + 1) < n) then (jwy C "Less" h [vI (wI (wI (wI (2 * n_1) + 1) + 1)), vI (wI (wI (2 * n_1) + 1))]).bB fun b => bif b then z5w 0 [vI (wI (wI (wI (2 * n_1) + 1) + 1))] else z5w 0 [vI (wI (wI (2 * n_1) + 1))] else z5w 0 [vI (wI (wI (2 * n_1) + 1))]).bind fun q => gL q.snd 1 (hI q.snd fun n => (jwy C "Less" h [vI n, vI n_1]).bB fun b => bif !b then z5w 1 [vI n_1] else (jwy C "Swap" h [vI n_1, vI n]).bN 0 fun vs => (z5w 0 [vI n]))), gL q.snd 0 (z5w 1 [vI n_1])] q.fst)) [vI i0]).bind fun q => gL q.snd 1 (hI q.snd fun n => z5w 0 [vB (decide (i0 < n))])).bind jzc := by kernel_rfl
def jgu (C:FuncId->List Value->M Value):=fnG [(267,jh0 C)] C [] (Tryz.f244.body.getD .skip) 15 [.tmp 2]
theorem jgw {G:List (Nat×Obj)} (hG:GT G) (C:FuncId->List Value->M Value) (hC:COK Tryz.prog G C):j0i Tryz.prog G 244 (jgu C):=jd8 ⟨jh2 hG _ hC,trivial⟩ hC Tryz.func244
theorem jgv (C h):jgu C [h] =
 ((jwy (jvv [(267, jh0 C)] C) "Len" h []).bI fun n => (jwy (jvv [(267, jh0 C)] C) "Swap" h [vI 0, vI (wI (n - 1))]).bN 0 fun vs => ((jh0 C [h, vI 0, vI (wI (n - 1))]).bB fun b => (jwy (jvv [(267, jh0 C)] C) "Pop" h []).bind fun v => z5w 0 [v])).bind jzc := by kernel_rfl
def j37:List (Nat×Ann):=[(28,⟨[5],[.slice none 0 0],[⟨.ex 0,[5],[.slice none 0 0]⟩]⟩),(56,⟨[],[],[⟨.norm,[],[]⟩,⟨.ex 0,[],[]⟩]⟩)]
def jf4 (C:FuncId->List Value->M Value):=fnG [(244,jgu (jvv [(299,jfg)] (jvv [(301,jfj)] (jvv [(300,jfp)] (jvv [(298,jfd)] (jvv [(302,jfm)] C))))))] (jvv [(299,jfg)] (jvv [(301,jfj)] (jvv [(300,jfp)] (jvv [(298,jfd)] (jvv [(302,jfm)] C))))) j37 (Tryz.f202.body.getD .skip) 42 [.tmp 4]
theorem jf6 {G:List (Nat×Obj)} (hG:GT G) (C:FuncId->List Value->M Value) (hC:COK Tryz.prog G C):j0i Tryz.prog G 202 (jf4 C):=jd8 ⟨jgw hG _ (jvx (L:=[(299,jfg)]) (jvx (L:=[(301,jfj)]) (jvx (L:=[(300,jfp)]) (jvx (L:=[(298,jfd)]) (jvx (L:=[(302,jfm)]) hC ⟨jfo hG,trivial⟩) ⟨jff hG,trivial⟩) ⟨jfr hG,trivial⟩) ⟨jfl hG,trivial⟩) ⟨jfi hG,trivial⟩),trivial⟩ (jvx (L:=[(299,jfg)]) (jvx (L:=[(301,jfj)]) (jvx (L:=[(300,jfp)]) (jvx (L:=[(298,jfd)]) (jvx (L:=[(302,jfm)]) hC ⟨jfo hG,trivial⟩) ⟨jff hG,trivial⟩) ⟨jfr hG,trivial⟩) ⟨jfl hG,trivial⟩) ⟨jfi hG,trivial⟩) Tryz.func202
theorem jf5 (C a may):jf4 C [vP a,may] =
 ((jw8 (λ st=>gL st 1 (hS st λ s=>(jz2 a λ a_1=>dS a_1 λ s=>bif decide (0 < (↑s.n:Int)) then jz2 a λ a=>dS a λ s=>jr0 (0<=Int.ofNat 0/\0 < (↑s.n:Int)) (jz2 s.a λ a=>dI (a.add 3) λ n=>(j6k (jvv [(244,jgu (jvv [(299,jfg)] (jvv [(301,jfj)] (jvv [(300,jfp)] (jvv [(298,jfd)] (jvv [(302,jfm)] C))))))] (jvv [(299,jfg)] (jvv [(301,jfj)] (jvv [(300,jfp)] (jvv [(298,jfd)] (jvv [(302,jfm)] C)))))) may [vI n]).bB λ b=>bif b then z5w 0 [] else z5w 1 []) else z5w 1 []).bind λ q=>z0t [gL q.snd 0 (jz2 a λ a=>(jgu (jvv [(299,jfg)] (jvv [(301,jfj)] (jvv [(300,jfp)] (jvv [(298,jfd)] (jvv [(302,jfm)] C))))) [Value.iface 275 (vP (some a))]).bind λ v=>(asF v).bind λ q=>bif decide (q.fst=273) then (asA q.snd).bind λ vs=>gL vs 7 (hI vs λ n=>hI vs.tail λ n_1=>hI vs.tail.tail λ n_2=>hI vs.tail.tail.tail λ n_3=>hI vs.tail.tail.tail.tail λ n_4=>hU vs.tail.tail.tail.tail.tail λ n_5=>hI vs.tail.tail.tail.tail.tail.tail λ n_6=>nB [vI 0,vI 0,vI 0,vI 0,vI 0,vU 0,vI 0] 273 λ n_7=>sL (ad n_7 0) [vI n,vI n_1,vI n_2,vI n_3,vI n_4,vU n_5,vI n_6] λ x=>lI n_7 0 λ n=>lI n_7 1 λ n_8=>lI n_7 2 λ n_9=>lI n_7 3 λ n_10=>lI n_7 4 λ n_11=>lU n_7 5 λ n_12=>nB [vI n,vI n_8,vI n_9,vI n_10,vI n_11,vU n_12] 82 λ b=>(rdN (some (ad b 0)) 6).bind λ xs=>(j33 82 6 48 s.a s.n s.c 1 xs).bind λ q=>z5w 0 [vS q.a q.n q.c]) else nB [vI 0,vI 0,vI 0,vI 0,vI 0,vU 0,vI 0] 273 λ n=>sL (ad n 0) [vI 0,vI 0,vI 0,vI 0,vI 0,vU 0,vI 0] λ x=>z5w 0 [vS s.a s.n s.c]),gL q.snd 0 (z5w 1 [vS s.a s.n s.c])] q.fst)) [vS none 0 0]).bind λ q=>gL q.snd 1 (hS q.snd λ s=>z5w 0 [vS s.a s.n s.c])).bind jzc:=by kernel_rfl
def jes:=fnG [(202,jf4 (jvv [(203,jfa)] noC))] (jvv [(203,jfa)] noC) [] (Tryz.f151.body.getD .skip) 11 [.tmp 4]
theorem jeu:OKG 151 jes:=λ hG=>jd8 ⟨jf6 hG _ (jvx (L:=[(203,jfa)]) jy5 ⟨jfc hG,trivial⟩),trivial⟩ (jvx (L:=[(203,jfa)]) jy5 ⟨jfc hG,trivial⟩) Tryz.func151
theorem jet (a tick):jes [vP a,vI tick] =
 (bif a.isNone then z5w 0 [vS none 0 0] else (jf4 (jvv [(203,jfa)] noC) [vP a,Value.func (Fn.func 203) (ar ([vI tick])) (ar ([]))]).bS λ s=>z5w 0 [vS s.a s.n s.c]).bind jzc:=by kernel_rfl
def jk5:=fnG [(151,jes)] noC [] (Tryz.f196.body.getD .skip) 11 [.tmp 1]
theorem jk7:OKG 196 jk5:=λ hG=>jd8 ⟨jeu hG,trivial⟩ jy5 Tryz.func196
theorem jk6 (c0):jk5 [vP c0] =
 (jz2 c0 λ a=>dP a λ p=>jz2 p λ a=>dP (a.add 1) λ p=>jz2 c0 λ a=>dP a λ p_1=>jz2 p_1 λ a=>dI (a.add 2) λ n=>(jes [vP p,vI n]).bS λ s=>z5w 0 [vS s.a s.n s.c]).bind jzc:=by kernel_rfl
def j3r:List (Nat×Ann):=[(6,⟨[9],[.int .i64 0],[⟨.ex 0,[],[]⟩]⟩),(51,⟨[],[],[⟨.norm,[],[]⟩]⟩),(409,⟨[],[],[⟨.norm,[25],[.bool false]⟩]⟩)]
def jkb (C:FuncId->List Value->M Value):=fnG [] C j3r (Tryz.f78.body.getD .skip) 39 []
theorem jkd {G:List (Nat×Obj)} (hG:GT G) (C:FuncId->List Value->M Value) (hC:COK Tryz.prog G C):j0i Tryz.prog G 78 (jkb C):=jd8 trivial hC Tryz.func78
def jtj:Option Addr->Nat->Nat×List Value->M (Nat×List Value):=
 λ m n q=>gL q.snd 1 (hB q.snd λ b=>bif b then jz2 m λ a=>dS a λ s=>lI n 4 λ n_1=>onX n_1 s.n s.a (λ a=>xU a n_1 1 λ n_2=>lU n 5 λ n=>onX n_1 s.n s.a (λ a=>sL (ax a n_1 1) [vU (wU (↑(BitVec.ofInt IntKind.u64.bits n_2 ^^^ BitVec.ofInt IntKind.u64.bits n).toNat:Int))] λ x=>z5w 0 [])) else z5w 0 [])
theorem jkc (C m told):jkb C [vP m,told] =
 ((j6k C told []).bS λ s=>(jw8 (λ st=>gL st 1 (hI st λ n=>bif decide (n < (↑s.n:Int)) then (onX n s.n s.a (λ a=>xI a n 6 λ n_1=>dI ((ax a n 6).add 1) λ n_2=>dI ((ax a n 6).add 2) λ n_3=>dI ((ax a n 6).add 3) λ n_4=>dI ((ax a n 6).add 4) λ n_5=>dU ((ax a n 6).add 5) λ n=>nB [vI 0,vI 0,vI 0,vI 0,vI 0,vU 0] 82 λ n_6=>sL (ad n_6 0) [vI n_1,vI n_2,vI n_3,vI n_4,vI n_5,vU n] λ x=>(lI n_6 4 λ n=>bif decide (0<=n) then lI n_6 4 λ n=>jz2 m λ a=>dS a λ s=>z5w 0 [vB (decide (n < (↑s.n:Int)))] else z5w 0 [vB false]).bind (jtj m n_6))).bind λ q=>gL q.snd 0 (z5w 0 [vI (wI (n+1))]) else z5w 1 [])) [vI 0]).bind λ q=>gL q.snd 0 (z5w 0 [vT []])).bind jzc:=by kernel_rfl
def j3q:List (Nat×Ann):=[(3,⟨[],[],[⟨.norm,[],[]⟩,⟨.ret,[4],[.int .i64 0]⟩]⟩),(6,⟨[],[],[⟨.norm,[21],[.bool false]⟩]⟩),(7,⟨[],[],[⟨.norm,[],[]⟩]⟩)]
def jk2:=fnG [(195,jev),(78,jkb (jvv [(196,jk5)] noC))] (jvv [(196,jk5)] noC) j3q (Tryz.f135.body.getD .skip) 50 [.tmp 4]
theorem jk4:OKG 135 jk2:=λ hG=>jd8 ⟨jex hG,jkd hG _ (jvx (L:=[(196,jk5)]) jy5 ⟨jk7 hG,trivial⟩),trivial⟩ (jvx (L:=[(196,jk5)]) jy5 ⟨jk7 hG,trivial⟩) Tryz.func135
def jti:Nat->Nat×List Value->M (Nat×List Value):=
 λ n q=>z0t [gL q.snd 0 ((lP n 0 λ p=>jz2 p λ a=>dP (a.add 1) λ p=>(jev [vP p]).bN 2 λ vs=>(hI vs λ n_1=>hI vs.tail λ n_2=>bif n_2 == 0 then lP n 0 λ p=>jz2 p λ a=>dI (a.add 2) λ n_3=>bif decide (n_1<=n_3) then lP n 0 λ p=>(jkb (jvv [(196,jk5)] noC) [vP p,Value.func (Fn.func 196) (ar ([])) (ar ([vP (some (ad n 0))]))]).bN 0 λ vs=>(z5w 0 []) else z5w 0 [] else z5w 0 [])).bind λ q=>gL q.snd 0 (lP n 0 λ p=>jz2 p λ a=>dI (a.add 2) λ n=>jz2 p λ a=>sL (a.add 2) [vI (wI (n+1))] λ x=>z5w 0 [vI 0])),gL q.snd 1 (hI q.snd λ n=>z5w 0 [vI n])] q.fst
theorem jk3 (m addr):jk2 [vP m,vI addr] =
 (nB [vP m] 34 λ n=>((lP n 0 λ p=>bif p.isNone then z5w 0 [vB true] else bif decide (addr < 0) then z5w 0 [vB true] else lP n 0 λ p=>jz2 p λ a=>dS a λ s=>z5w 0 [vB (decide ((↑s.n:Int)<=addr))]).bind λ q=>gL q.snd 1 (hB q.snd λ b=>bif b then z5w 1 [vI 1] else z5w 0 [])).bind (jti n)).bind jzc:=by kernel_rfl
def jjw:=fnG [(135,jk2)] noC [] (Tryz.f63.body.getD .skip) 21 [.tmp 6]
theorem jjy:OKG 63 jjw:=λ hG=>jd8 ⟨jk4 hG,trivial⟩ jy5 Tryz.func63
theorem jjx (m addr w):jjw [vP m,vI addr,vU w] =
 ((jk2 [vP m,vI addr]).bI λ n=>bif n != 0 then z5w 0 [vI n] else jz2 m λ a=>dS a λ s=>onX addr s.n s.a (λ a=>sL (ax a addr 1) [vU w] λ x=>z5w 0 [vI 0])).bind jzc:=by kernel_rfl
def jf1:=fnG [(151,jes)] noC [] (Tryz.f79.body.getD .skip) 5 [.tmp 2]
theorem jf3:OKG 79 jf1:=λ hG=>jd8 ⟨jeu hG,trivial⟩ jy5 Tryz.func79
theorem jf2 (a):jf1 [vP a] =
 ((jes [vP a,vI 9223372036854775807]).bS λ s=>z5w 0 [vS s.a s.n s.c]).bind jzc:=by kernel_rfl
def jjt:=fnG [(77,jk8),(78,jkb (jvv [(79,jf1)] noC))] (jvv [(79,jf1)] noC) [] (Tryz.f28.body.getD .skip) 37 [.tmp 4]
theorem jjv:OKG 28 jjt:=λ hG=>jd8 ⟨jka hG,jkd hG _ (jvx (L:=[(79,jf1)]) jy5 ⟨jf3 hG,trivial⟩),trivial⟩ (jvx (L:=[(79,jf1)]) jy5 ⟨jf3 hG,trivial⟩) Tryz.func28
theorem jju (m l ln lc):jjt [vP m,vS l ln lc] =
 (bif m.isNone then z5w 0 [vI 1] else jz2 m λ a=>dP (a.add 1) λ p=>(jk8 [vP m,vS l ln lc]).bI λ n=>bif n != 0 then z5w 0 [vI n] else (jkb (jvv [(79,jf1)] noC) [vP m,Value.func (Fn.func 79) (ar ([vP p])) (ar ([]))]).bN 0 λ vs=>(jz2 m λ a=>dI (a.add 3) λ n=>jz2 m λ a=>dI (a.add 2) λ n_1=>jz2 m λ a=>sL (a.add 3) [vI (wI (n+n_1))] λ x=>jz2 m λ a=>sL (a.add 2) [vI 0] λ x=>z5w 0 [vI 0])).bind jzc:=by kernel_rfl
def jhw:=fnG [] noC [] (Tryz.f167.body.getD .skip) 8 [.tmp 2]
theorem jhy:OKG 167 jhw:=λ hG=>jd8 trivial jy5 Tryz.func167
theorem jhx (p):jhw [vU p] =
 (bif p == 18446744069414584321 then z5w 0 [vB true] else bif p == 998244353 then z5w 0 [vB true] else bif p == 2013265921 then z5w 0 [vB true] else z5w 0 [vB false]).bind jzc:=by kernel_rfl
def j3o:List (Nat×Ann):=[(58,⟨[11],[.int .i64 0],[⟨.ex 0,[],[]⟩]⟩)]
def jj5:=fnG [] noC j3o (Tryz.f117.body.getD .skip) 23 [.tmp 2]
theorem jj7:OKG 117 jj5:=λ hG=>jd8 trivial jy5 Tryz.func117
theorem jj6 (axes axesn axesc):jj5 [vS axes axesn axesc] =
 (jr0 (0<=(↑axesn:Int)/\(↑axesn:Int)<=(↑axesn:Int)/\(↑axesn:Int)<=281474976710656/\(↑8:Int)*(↑axesn:Int)<=281474976710656/\[vI 0].all jcs=true) (nB (zht (↑axesn:Int).toNat [vI 0]) 3 λ n=>(jw8 (λ st=>gL st 1 (hI st λ n_1=>bif decide (n_1 < (↑axesn:Int)) then onX n_1 axesn axes (λ a=>xI a n_1 2 λ n_2=>dB ((ax a n_1 2).add 1) λ b=>nB [vI 0,vB false] 113 λ n_3=>sL (ad n_3 0) [vI n_2,vB b] λ x=>lI n_3 0 λ n_4=>jr0 (0<=n_1/\n_1 < (↑(↑axesn:Int).toNat:Int)) (sL ((ad n 0).add (n_1.toNat*1)) [vI n_4] λ x=>z5w 0 [vI (wI (n_1+1))])) else z5w 1 [])) [vI 0]).bind λ q=>gL q.snd 0 (z5w 0 [vS (some (ad n 0)) (↑axesn:Int).toNat (↑axesn:Int).toNat]))).bind jzc:=by kernel_rfl
def j47:List (Nat×Ann):=[(3,⟨[],[],[⟨.norm,[],[]⟩,⟨.ret,[2,3],[.int .i64 0,.int .i64 0]⟩]⟩),(122,⟨[4,17],[.int .i64 0,.int .i64 0],[⟨.ex 0,[4],[.int .i64 0]⟩,⟨.ret,[2,3],[.int .i64 0,.int .i64 0]⟩]⟩)]
def jmy:=fnG [] noC j47 (Tryz.f116.body.getD .skip) 34 [.tmp 2,.tmp 3]
theorem jn0:OKG 116 jmy:=λ hG=>jd8 trivial jy5 Tryz.func116
theorem jmz (dims dimsn dimsc):jmy [vS dims dimsn dimsc] =
 ((bif decide ((↑dimsn:Int) < 1) then z5w 1 [vI 0,vI 3] else bif decide (4 < (↑dimsn:Int)) then z5w 1 [vI 0,vI 3] else z5w 0 []).bind λ q=>z0t [gL q.snd 0 ((jw8 (λ st=>gL st 2 (hI st λ n=>hI st.tail λ n_1=>bif decide (n_1 < (↑dimsn:Int)) then onX n_1 dimsn dims (λ a=>xI a n_1 1 λ n_2=>bif decide (n_2 < 1) then z5w 2 [vI 0,vI 3] else bif decide (4096 < n_2) then z5w 2 [vI 0,vI 3] else bif decide (4096 < wI (n*n_2)) then z5w 2 [vI 0,vI 3] else z5w 0 [vI (wI (n*n_2)),vI (wI (n_1+1))]) else z5w 1 [vI n])) [vI 1,vI 0]).bind λ q=>z0t [gL q.snd 1 (hI q.snd λ n=>z5w 0 [vT [vI n,vI 0]]),gL q.snd 2 (hI q.snd λ n=>hI q.snd.tail λ n_1=>z5w 0 [vT [vI n,vI n_1]])] (q.fst-1)),gL q.snd 2 (hI q.snd λ n=>hI q.snd.tail λ n_1=>z5w 0 [vT [vI n,vI n_1]])] q.fst).bind jzc:=by kernel_rfl
def jhj:List Value->M Value:=z48
theorem jhl {G:List (Nat×Obj)} (hG:GT G):j0i Tryz.prog G 214 jhj:=z4n hG
def jhm:=fnG [(214,jhj)] noC [] (Tryz.f179.body.getD .skip) 12 [.tmp 2]
theorem jho:OKG 179 jhm:=λ hG=>jd8 ⟨jhl hG,trivial⟩ jy5 Tryz.func179
theorem jhn (n):jhm [vI n] =
 ((jhj [vI n]).bN 2 λ vs=>(hS vs λ s=>hI vs.tail λ n=>z5w 0 [vB (n == 0)])).bind jzc:=by kernel_rfl
def jmm:=fnG [(167,jhw)] noC [] (Tryz.f232.body.getD .skip) 16 [.tmp 4]
theorem jmo:OKG 232 jmm:=λ hG=>jd8 ⟨jhy hG,trivial⟩ jy5 Tryz.func232
theorem jmn (p n):jmm [vU p,vI n] =
 ((jhw [vU p]).bB λ b=>bif !b then z5w 0 [vI 2] else bif decide (n < 1) then z5w 0 [vI 1] else bif decide (8192 < n) then z5w 0 [vI 1] else z5w 0 [vI 0]).bind jzc:=by kernel_rfl
def jmg:List Value->M Value:=jdw
theorem jmi {G:List (Nat×Obj)} (hG:GT G):j0i Tryz.prog G 233 jmg:=je0
def ji2:List Value->M Value:=z5d
theorem ji4 {G:List (Nat×Obj)} (hG:GT G):j0i Tryz.prog G 130 ji2:=z5h
def jfs:List Value->M Value:=juz
theorem jft {G:List (Nat×Obj)} (hG:GT G):j0i Tryz.prog G 246 jfs:=jv1
def jhz:List Value->M Value:=jxi
theorem ji1 {G:List (Nat×Obj)} (hG:GT G):j0i Tryz.prog G 132 jhz:=jxm
def j3z:List (Nat×Ann):=[(58,⟨[7,8],[.int .u64 0,.int .i64 0],[⟨.ex 0,[7],[.int .u64 0]⟩]⟩)]
def jlk:=fnG [(130,ji2),(246,jfs),(132,jhz)] noC j3z (Tryz.f207.body.getD .skip) 32 [.tmp 6]
theorem jlm:OKG 207 jlk:=λ hG=>jd8 ⟨ji4 hG,jft hG,ji1 hG,trivial⟩ jy5 Tryz.func207
theorem jll (p a n):jlk [vU p,vU a,vU n] =
 ((ji2 [vU p,vU 1]).bU λ n_1=>(jfs [vU n]).bI λ n_2=>(jw8 (λ st=>gL st 2 (hU st λ n_3=>hI st.tail λ n_4=>bif decide (0<=n_4) then (jhz [vU p,vU n_3,vU n_3]).bU λ n_5=>jr0 (0<=n_4) (bif wU (↑(BitVec.ofInt IntKind.u64.bits (n.fdiv (2 ^ min n_4.toNat IntKind.u64.bits)) &&& BitVec.ofInt IntKind.u64.bits 1).toNat:Int) == 1 then (jhz [vU p,vU n_5,vU a]).bU λ n=>z5w 0 [vU n,vI (wI (n_4-1))] else z5w 0 [vU n_5,vI (wI (n_4-1))]) else z5w 1 [vU n_3])) [vU n_1,vI (wI (n_2-1))]).bind λ q=>gL q.snd 1 (hU q.snd λ n=>z5w 0 [vU n])).bind jzc:=by kernel_rfl
def jmj:=fnG [(232,jmm),(233,jmg),(207,jlk)] noC [] (Tryz.f180.body.getD .skip) 28 [.tmp 4,.tmp 5]
theorem jml:OKG 180 jmj:=λ hG=>jd8 ⟨jmo hG,jmi hG,jlm hG,trivial⟩ jy5 Tryz.func180
theorem jmk (p n):jmj [vU p,vI n] =
 ((jmm [vU p,vI n]).bI λ n_1=>bif n_1 != 0 then z5w 0 [vT [vU 0,vI n_1]] else jr0 (wU n≠0) (bif decide (0 < (wU (p-1)).tmod (wU n)) then z5w 0 [vT [vU 0,vI 5]] else jr0 (wU n≠0) ((jmg [vU p]).bU λ n_2=>(jlk [vU p,vU n_2,vU (wU ((wU (p-1)).tdiv (wU n)))]).bU λ n=>z5w 0 [vT [vU n,vI 0]]))).bind jzc:=by kernel_rfl
def j3n:List (Nat×Ann):=[(250,⟨[7,26],[.int .i64 0,.int .i64 0],[⟨.ex 0,[7],[.int .i64 0]⟩,⟨.ret,[4],[.int .i64 0]⟩]⟩)]
def jj2:=fnG [(167,jhw),(117,jj5),(116,jmy),(179,jhm),(180,jmj)] noC j3n (Tryz.f121.body.getD .skip) 50 [.tmp 4]
theorem jj4:OKG 121 jj2:=λ hG=>jd8 ⟨jhy hG,jj7 hG,jn0 hG,jho hG,jml hG,trivial⟩ jy5 Tryz.func121
theorem jj3 (p axes axesn axesc):jj2 [vU p,vS axes axesn axesc] =
 ((jhw [vU p]).bB λ b=>bif !b then z5w 0 [vI 2] else (jj5 [vS axes axesn axesc]).bS λ s=>(jmy [vS s.a s.n s.c]).bN 2 λ vs=>(hI vs λ n=>hI vs.tail λ n=>bif n != 0 then z5w 0 [vI 3] else (jw8 (λ st=>gL st 2 (hI st λ n=>hI st.tail λ n_1=>bif decide (n_1 < (↑axesn:Int)) then onX n_1 axesn axes (λ a=>xI a n_1 2 λ n_2=>dB ((ax a n_1 2).add 1) λ b=>nB [vI 0,vB false] 113 λ n_3=>sL (ad n_3 0) [vI n_2,vB b] λ x=>lI n_3 0 λ n_4=>lB n_3 1 λ b=>bif b then lI n_3 0 λ n_5=>(jhm [vI n_5]).bB λ b=>bif !b then z5w 2 [vI 4] else (jmj [vU p,vI (wI (n_4*2))]).bN 2 λ vs=>(hU vs λ n_6=>hI vs.tail λ n_7=>bif n_7 != 0 then z5w 0 [vI 5,vI (wI (n_1+1))] else z5w 0 [vI n,vI (wI (n_1+1))]) else lI n_3 0 λ n_5=>(jhm [vI n_5]).bB λ b=>bif !b then z5w 2 [vI 4] else (jmj [vU p,vI n_4]).bN 2 λ vs=>(hU vs λ n_6=>hI vs.tail λ n_7=>bif n_7 != 0 then z5w 0 [vI 5,vI (wI (n_1+1))] else z5w 0 [vI n,vI (wI (n_1+1))])) else z5w 1 [vI n])) [vI 0,vI 0]).bind λ q=>z0t [gL q.snd 1 (hI q.snd λ n=>z5w 0 [vI n]),gL q.snd 1 (hI q.snd λ n=>z5w 0 [vI n])] (q.fst-1))).bind jzc:=by kernel_rfl
def j3h:List (Nat×Ann):=[(250,⟨[2,6,19],[.slice none 0 0,.int .i64 0,.int .i64 0],[⟨.ex 0,[2],[.slice none 0 0]⟩]⟩)]
def jhp:=fnG [(214,jhj)] noC j3h (Tryz.f164.body.getD .skip) 39 [.tmp 2,.tmp 3]
theorem jhq:OKG 164 jhp:=λ hG=>jd8 ⟨jhl hG,trivial⟩ jy5 Tryz.func164
theorem zio (n):jhp [vI n] =
 ((jhj [vI n]).bN 2 λ vs=>(hS vs λ s=>hI vs.tail λ n_1=>bif n_1 != 0 then z5w 0 [vT [vS none 0 0,vI n_1]] else (jw8 (λ st=>gL st 3 (hS st λ s_1=>hI st.tail λ n_2=>hI st.tail.tail λ n_3=>bif decide (n_3 < (↑s.n:Int)) then onX n_3 s.n s.a (λ a=>xI a n_3 1 λ n_4=>jr0 (n_2≠0) (jr0 (n_4≠0) (nB [vI n_4,vI n_2,vI (wI ((wI (n.tdiv n_2)).tdiv n_4))] 27 λ b=>(rdN (some (ad b 0)) 3).bind λ xs=>(j33 27 3 24 s_1.a s_1.n s_1.c 1 xs).bind λ q=>z5w 0 [vS q.a q.n q.c,vI (wI (n_2*n_4)),vI (wI (n_3+1))]))) else z5w 1 [vS s_1.a s_1.n s_1.c])) [vS none 0 0,vI 1,vI 0]).bind λ q=>gL q.snd 1 (hS q.snd λ s=>z5w 0 [vT [vS s.a s.n s.c,vI 0]]))).bind jzc:=by kernel_rfl
def j4c:List (Nat×Ann):=[(26,⟨[8],[.int .i64 0],[⟨.ex 0,[],[]⟩,⟨.ret,[4],[.int .i64 0]⟩]⟩)]
def jnj:=fnG [] noC j4c (Tryz.f245.body.getD .skip) 19 [.tmp 4]
theorem jnl:OKG 245 jnj:=λ hG=>jd8 trivial jy5 Tryz.func245
theorem jnk (s sn sc v0 v1 v2):jnj [vS s sn sc,.agg ⟨[vI v0,vI v1,vI v2]⟩] =
 (nB [vI v0,vI v1,vI v2] 27 λ n=>(jw8 (λ st=>gL st 1 (hI st λ n_1=>bif decide (n_1 < (↑sn:Int)) then lI n 0 λ n_2=>lI n 1 λ n_3=>lI n 2 λ n=>onX n_1 sn s (λ a=>xI a n_1 3 λ n_4=>dI ((ax a n_1 3).add 1) λ n_5=>dI ((ax a n_1 3).add 2) λ n_6=>bif eqL (ar ([vI n_2,vI n_3,vI n])).toList (ar ([vI n_4,vI n_5,vI n_6])).toList then z5w 2 [vI n_1] else z5w 0 [vI (wI (n_1+1))]) else z5w 1 [])) [vI 0]).bind λ q=>z0t [gL q.snd 0 (z5w 0 [vI (-1)]),gL q.snd 1 (hI q.snd λ n=>z5w 0 [vI n])] (q.fst-1)).bind jzc:=by kernel_rfl
def jnd:=fnG [(245,jnj)] noC [] (Tryz.f205.body.getD .skip) 9 [.tmp 4]
theorem jnf:OKG 205 jnd:=λ hG=>jd8 ⟨jnl hG,trivial⟩ jy5 Tryz.func205
theorem jne (s sn sc v0 v1 v2):jnd [vS s sn sc,.agg ⟨[vI v0,vI v1,vI v2]⟩] =
 (nB [vI v0,vI v1,vI v2] 27 λ n=>lI n 0 λ n_1=>lI n 1 λ n_2=>lI n 2 λ n=>(jnj [vS s sn sc,vA [vI n_1,vI n_2,vI n]]).bI λ n=>z5w 0 [vB (decide (0<=n))]).bind jzc:=by kernel_rfl
def j4i:List (Nat×Ann):=[(7,⟨[],[],[⟨.norm,[],[]⟩,⟨.ret,[6],[.int .i64 0]⟩]⟩)]
def jo4:=fnG [(121,jj2),(164,jhp),(205,jnd)] noC j4i (Tryz.f153.body.getD .skip) 51 [.tmp 6]
theorem jo6:OKG 153 jo4:=λ hG=>jd8 ⟨jj4 hG,jhq hG,jnf hG,trivial⟩ jy5 Tryz.func153
theorem jo5 (p axes axesn axesc s0 s1 s2 s3 s4):jo4 [vU p,vS axes axesn axesc,.agg ⟨[vI s0,vB s1,vI s2,vI s3,vI s4]⟩] =
 (nB [vI s0,vB s1,vI s2,vI s3,vI s4] 29 λ n=>(jj2 [vU p,vS axes axesn axesc]).bI λ n_1=>bif n_1 != 0 then z5w 0 [vI n_1] else (lI n 0 λ n_2=>bif decide (n_2 < 0) then z5w 1 [vI 1] else lI n 0 λ n=>bif decide ((↑axesn:Int)<=n) then z5w 1 [vI 1] else z5w 0 []).bind λ q=>z0t [gL q.snd 0 (nB [vI 0,vI 0,vI 0] 27 λ b=>lB n 1 λ b_1=>bif !b_1 then lI n 0 λ n_2=>onX n_2 axesn axes (λ a=>xI a n_2 2 λ n_3=>(jhp [vI n_3]).bN 2 λ vs=>(hS vs λ s=>hI vs.tail λ n_4=>bif n_4 != 0 then z5w 0 [vI n_4] else lI n 2 λ n_5=>lI n 3 λ n_6=>lI n 4 λ n=>(jnd [vS s.a s.n s.c,vA [vI n_5,vI n_6,vI n]]).bB λ b=>bif !b then z5w 0 [vI 1] else z5w 0 [vI 0])) else lI n 2 λ n_2=>lI n 3 λ n_3=>lI n 4 λ n=>(jnd [vS (some (ad b 0)) 1 1,vA [vI n_2,vI n_3,vI n]]).bB λ b=>bif !b then z5w 0 [vI 1] else z5w 0 [vI 0]),gL q.snd 1 (hI q.snd λ n=>z5w 0 [vI n])] q.fst).bind jzc:=by kernel_rfl
def joa:=fnG [] noC [] (Tryz.f182.body.getD .skip) 7 []
theorem joc:OKG 182 joa:=λ hG=>jd8 trivial jy5 Tryz.func182
theorem job (g0 g0n g0c g1 g1n g1c g2 g2n g2c c0):joa [.agg ⟨[vS g0 g0n g0c,vS g1 g1n g1c,vS g2 g2n g2c]⟩,vP c0] =
 (nB [vS g0 g0n g0c,vS g1 g1n g1c,vS g2 g2n g2c] 128 λ n=>jz2 c0 λ a=>dS a λ s=>lS n 0 λ s_1=>lS n 1 λ s_2=>lS n 2 λ s_3=>nB [vS s_1.a s_1.n s_1.c,vS s_2.a s_2.n s_2.c,vS s_3.a s_3.n s_3.c] 128 λ b=>(rdN (some (ad b 0)) 3).bind λ xs=>(j33 128 3 72 s.a s.n s.c 1 xs).bind λ q=>jz2 c0 λ a=>sL a [vS q.a q.n q.c] λ x=>z5w 0 [vT []]).bind jzc:=by kernel_rfl
def j48:List (Nat×Ann):=[(7,⟨[],[],[⟨.norm,[],[]⟩,⟨.ret,[4,5],[.slice none 0 0,.int .i64 0]⟩]⟩),(250,⟨[1,9],[.int .i64 0,.int .i64 0],[⟨.ex 1,[],[]⟩]⟩)]
def jn1:=fnG [(116,jmy)] noC j48 (Tryz.f234.body.getD .skip) 53 [.tmp 4,.tmp 5]
theorem jn3:OKG 234 jn1:=λ hG=>jd8 ⟨jn0 hG,trivial⟩ jy5 Tryz.func234
theorem jn2 (dims dimsn dimsc i):jn1 [vS dims dimsn dimsc,vI i] =
 ((jmy [vS dims dimsn dimsc]).bN 2 λ vs=>(hI vs λ n=>hI vs.tail λ n_1=>(bif n_1 != 0 then z5w 1 [vS none 0 0,vI n_1] else bif decide (i < 0) then z5w 1 [vS none 0 0,vI 1] else bif decide (n<=i) then z5w 1 [vS none 0 0,vI 1] else z5w 0 []).bind λ q=>z0t [gL q.snd 0 (jr0 (0<=(↑dimsn:Int)/\(↑dimsn:Int)<=(↑dimsn:Int)/\(↑dimsn:Int)<=281474976710656/\(↑8:Int)*(↑dimsn:Int)<=281474976710656/\[vI 0].all jcs=true) (nB (zht (↑dimsn:Int).toNat [vI 0]) 3 λ n=>(jw8 (λ st=>gL st 2 (hI st λ n_2=>hI st.tail λ n_3=>bif decide (0<=n_3) then onX n_3 dimsn dims (λ a=>xI a n_3 1 λ n_4=>jr0 (n_4≠0) (onX n_3 dimsn dims (λ a=>xI a n_3 1 λ n_5=>jr0 (n_5≠0) (jr0 (0<=n_3/\n_3 < (↑(↑dimsn:Int).toNat:Int)) (sL ((ad n 0).add (n_3.toNat*1)) [vI (n_2.tmod n_4)] λ x=>z5w 0 [vI (wI (n_2.tdiv n_5)),vI (wI (n_3-1))]))))) else z5w 1 [])) [vI i,vI (wI ((↑dimsn:Int)-1))]).bind λ q=>gL q.snd 0 (z5w 0 [vT [vS (some (ad n 0)) (↑dimsn:Int).toNat (↑dimsn:Int).toNat,vI 0]]))),gL q.snd 2 (hS q.snd λ s=>hI q.snd.tail λ n=>z5w 0 [vT [vS s.a s.n s.c,vI n]])] q.fst)).bind jzc:=by kernel_rfl
def j49:List (Nat×Ann):=[(7,⟨[],[],[⟨.norm,[],[]⟩,⟨.ret,[4,5],[.int .i64 0,.int .i64 0]⟩]⟩),(250,⟨[8,34],[.int .i64 0,.int .i64 0],[⟨.ex 1,[8],[.int .i64 0]⟩]⟩)]
def jn4:=fnG [(116,jmy)] noC j49 (Tryz.f262.body.getD .skip) 43 [.tmp 4,.tmp 5]
theorem jn6:OKG 262 jn4:=λ hG=>jd8 ⟨jn0 hG,trivial⟩ jy5 Tryz.func262
theorem jn5 (dims dimsn dimsc axis):jn4 [vS dims dimsn dimsc,vI axis] =
 ((jmy [vS dims dimsn dimsc]).bN 2 λ vs=>(hI vs λ n=>hI vs.tail λ n=>(bif n != 0 then z5w 1 [vI 0,vI n] else bif decide (axis < 0) then z5w 1 [vI 0,vI 1] else bif decide ((↑dimsn:Int)<=axis) then z5w 1 [vI 0,vI 1] else z5w 0 []).bind λ q=>z0t [gL q.snd 0 ((j8c true true 1 dims dimsc (wI (axis+1)) (↑dimsn:Int) (↑dimsc:Int)).bind λ s=>(jw8 (λ st=>gL st 2 (hI st λ n=>hI st.tail λ n_1=>bif decide (n_1 < (↑s.n:Int)) then onX n_1 s.n s.a (λ a=>xI a n_1 1 λ n_2=>z5w 0 [vI (wI (n*n_2)),vI (wI (n_1+1))]) else z5w 1 [vI n])) [vI 1,vI 0]).bind λ q=>gL q.snd 1 (hI q.snd λ n=>z5w 0 [vT [vI n,vI 0]])),gL q.snd 2 (hI q.snd λ n=>hI q.snd.tail λ n_1=>z5w 0 [vT [vI n,vI n_1]])] q.fst)).bind jzc:=by kernel_rfl
def j4a:List (Nat×Ann):=[(63,⟨[],[],[⟨.norm,[],[]⟩,⟨.ret,[6,7],[.slice none 0 0,.int .i64 0]⟩]⟩),(126,⟨[],[],[⟨.norm,[45],[.bool false]⟩]⟩),(4090,⟨[61],[.int .i64 0],[⟨.ex 0,[],[]⟩]⟩)]
def jn7:=fnG [(262,jn4),(116,jmy)] noC j4a (Tryz.f227.body.getD .skip) 74 [.tmp 6,.tmp 7]
theorem jn9:OKG 227 jn7:=λ hG=>jd8 ⟨jn6 hG,jn0 hG,trivial⟩ jy5 Tryz.func227
def jtp:Int->Int->Int->Nat×List Value->M (Nat×List Value):=
 λ k' n n_1 q=>z0t [gL q.snd 0 (jr0 (0<=n_1/\n_1<=n_1/\n_1<=281474976710656/\(↑8:Int)*n_1<=281474976710656/\[vI 0].all jcs=true) (nB (zht n_1.toNat [vI 0]) 3 λ n_2=>jr0 (n≠0) (jr0 (n≠0) ((jw8 (λ st=>gL st 1 (hI st λ n_3=>bif decide (n_3 < (↑n_1.toNat:Int)) then jr0 (0<=n_3/\n_3 < (↑n_1.toNat:Int)) (sL ((ad n_2 0).add (n_3.toNat*1)) [vI (wI (wI (wI (wI (wI (k'.tdiv n)*n_1)*n)+k'.tmod n)+wI (n_3*n)))] λ x=>z5w 0 [vI (wI (n_3+1))]) else z5w 1 [])) [vI 0]).bind λ q=>gL q.snd 0 (z5w 0 [vT [vS (some (ad n_2 0)) n_1.toNat n_1.toNat,vI 0]]))))),gL q.snd 2 (hS q.snd λ s=>hI q.snd.tail λ n=>z5w 0 [vT [vS s.a s.n s.c,vI n]])] q.fst
theorem jn8 (dims dimsn dimsc axis k'):jn7 [vS dims dimsn dimsc,vI axis,vI k'] =
 ((jn4 [vS dims dimsn dimsc,vI axis]).bN 2 λ vs=>(hI vs λ n=>hI vs.tail λ n_1=>bif n_1 != 0 then z5w 0 [vT [vS none 0 0,vI n_1]] else (jmy [vS dims dimsn dimsc]).bN 2 λ vs=>(hI vs λ n_2=>hI vs.tail λ n_3=>onX axis dimsn dims (λ a=>xI a axis 1 λ n_4=>((bif n_3 != 0 then z5w 0 [vB true] else bif decide (k' < 0) then z5w 0 [vB true] else jr0 (n_4≠0) (z5w 0 [vB (decide (wI (n_2.tdiv n_4)<=k'))])).bind λ q=>gL q.snd 1 (hB q.snd λ b=>bif b then z5w 1 [vS none 0 0,vI 1] else z5w 0 [])).bind (jtp k' n n_4))))).bind jzc:=by kernel_rfl
def j4o:List (Nat×Ann):=[(58,⟨[13],[.int .i64 0],[⟨.ex 0,[],[]⟩]⟩)]
def jov:=fnG [] noC j4o (Tryz.f236.body.getD .skip) 26 [.tmp 6]
theorem jox:OKG 236 jov:=λ hG=>jd8 trivial jy5 Tryz.func236
theorem jow (from' more many):jov [vI from',vI more,vI many] =
 (jr0 (0<=many/\many<=many/\many<=281474976710656/\(↑8:Int)*many<=281474976710656/\[vI 0].all jcs=true) (nB (zht many.toNat [vI 0]) 3 λ n=>(jw8 (λ st=>gL st 1 (hI st λ n_1=>bif decide (n_1 < (↑many.toNat:Int)) then jr0 (0<=n_1/\n_1 < (↑many.toNat:Int)) (sL ((ad n 0).add (n_1.toNat*1)) [vI (wI (from'+wI (more*n_1)))] λ x=>z5w 0 [vI (wI (n_1+1))]) else z5w 1 [])) [vI 0]).bind λ q=>gL q.snd 0 (z5w 0 [vS (some (ad n 0)) many.toNat many.toNat]))).bind jzc:=by kernel_rfl
def j4n:List (Nat×Ann):=[(58,⟨[13],[.int .i64 0],[⟨.ex 0,[],[]⟩]⟩)]
def jos:=fnG [] noC j4n (Tryz.f235.body.getD .skip) 27 [.tmp 4]
theorem jou:OKG 235 jos:=λ hG=>jd8 trivial jy5 Tryz.func235
theorem jot (line linen linec at' at'n at'c):jos [vS line linen linec,vS at' at'n at'c] =
 (jr0 (0<=(↑at'n:Int)/\(↑at'n:Int)<=(↑at'n:Int)/\(↑at'n:Int)<=281474976710656/\(↑8:Int)*(↑at'n:Int)<=281474976710656/\[vI 0].all jcs=true) (nB (zht (↑at'n:Int).toNat [vI 0]) 3 λ n=>(jw8 (λ st=>gL st 1 (hI st λ n_1=>bif decide (n_1 < (↑at'n:Int)) then onX n_1 at'n at' (λ a=>xI a n_1 1 λ n_2=>onX n_2 linen line (λ a=>xI a n_2 1 λ n_3=>jr0 (0<=n_1/\n_1 < (↑(↑at'n:Int).toNat:Int)) (sL ((ad n 0).add (n_1.toNat*1)) [vI n_3] λ x=>z5w 0 [vI (wI (n_1+1))]))) else z5w 1 [])) [vI 0]).bind λ q=>gL q.snd 0 (z5w 0 [vS (some (ad n 0)) (↑at'n:Int).toNat (↑at'n:Int).toNat]))).bind jzc:=by kernel_rfl
def j4m:List (Nat×Ann):=[(2002,⟨[31],[.int .i64 0],[⟨.ex 0,[],[]⟩,⟨.ret,[6],[.int .i64 0]⟩]⟩),(506,⟨[64],[.int .i64 0],[⟨.ex 2,[],[]⟩,⟨.ret,[6],[.int .i64 0]⟩]⟩),(518558,⟨[81],[.int .i64 0],[⟨.ex 4,[],[]⟩]⟩),(132750950,⟨[87],[.int .i64 0],[⟨.ex 6,[],[]⟩]⟩)]
def jop (C:FuncId->List Value->M Value):=fnG [(117,jj5),(116,jmy),(234,jn1),(227,jn7),(236,jov),(235,jos)] C j4m (Tryz.f181.body.getD .skip) 145 [.tmp 6]
theorem jor {G:List (Nat×Obj)} (hG:GT G) (C:FuncId->List Value->M Value) (hC:COK Tryz.prog G C):j0i Tryz.prog G 181 (jop C):=jd8 ⟨jj7 hG,jn0 hG,jn3 hG,jn9 hG,jox hG,jou hG,trivial⟩ hC Tryz.func181
theorem joq (C axes axesn axesc s0 s1 s2 s3 s4 tell):jop C [vS axes axesn axesc,.agg ⟨[vI s0,vB s1,vI s2,vI s3,vI s4]⟩,tell] =
 (nB [vI s0,vB s1,vI s2,vI s3,vI s4] 29 λ n=>(jj5 [vS axes axesn axesc]).bS λ s=>(jmy [vS s.a s.n s.c]).bN 2 λ vs=>(hI vs λ n_1=>hI vs.tail λ n_2=>bif n_2 != 0 then z5w 0 [vI n_2] else lB n 1 λ b=>bif b then (jw8 (λ st=>gL st 1 (hI st λ n_3=>bif decide (n_3 < n_1) then (jn1 [vS s.a s.n s.c,vI n_3]).bN 2 λ vs=>(hS vs λ s=>hI vs.tail λ n_4=>bif n_4 != 0 then z5w 2 [vI n_4] else nB [vI n_3] 3 λ b=>lI n 0 λ n=>onX n s.n s.a (λ a=>xI a n 1 λ n=>nB [vI n] 3 λ b_1=>nB [vI n_3] 3 λ b_2=>(j6k (jvv [(117,jj5),(116,jmy),(234,jn1),(227,jn7),(236,jov),(235,jos)] C) tell [vA [vS (some (ad b 0)) 1 1,vS (some (ad b_1 0)) 1 1,vS (some (ad b_2 0)) 1 1]]).bN 0 λ vs=>(z5w 0 [vI (wI (n_3+1))]))) else z5w 1 [])) [vI 0]).bind λ q=>z0t [gL q.snd 0 (z5w 0 [vI 0]),gL q.snd 1 (hI q.snd λ n=>z5w 0 [vI n])] (q.fst-1) else lI n 0 λ n_3=>onX n_3 s.n s.a (λ a=>xI a n_3 1 λ n_4=>jr0 (n_4≠0) ((jw8 (λ st=>gL st 1 (hI st λ n_5=>bif decide (n_5 < wI (n_1.tdiv n_4)) then lI n 0 λ n_6=>(jn7 [vS s.a s.n s.c,vI n_6,vI n_5]).bN 2 λ vs=>(hS vs λ s=>hI vs.tail λ n_7=>bif n_7 != 0 then z5w 2 [vI n_7] else lI n 4 λ n_8=>(jw8 (λ st=>gL st 1 (hI st λ n_9=>bif decide (n_9 < n_8) then lI n 3 λ n_10=>(jw8 (λ st=>gL st 1 (hI st λ n_11=>bif decide (n_11 < n_10) then lI n 3 λ n_12=>lI n 3 λ n_13=>lI n 4 λ n_14=>lI n 2 λ n_15=>lI n 2 λ n_16=>lI n 2 λ n_17=>lI n 3 λ n_18=>lI n 2 λ n_19=>lI n 3 λ n_20=>lI n 2 λ n_21=>(jov [vI (wI (n_11+wI (n_12*n_9))),vI (wI (n_13*n_14)),vI n_15]).bS λ s_1=>(chk (lI n 2 λ n=>M.ret (vI n)) (vI n_21)).bind λ u=>(chk (lI n 3 λ n=>M.ret (vI n)) (vI n_20)).bind λ u=>(chk (lI n 2 λ n=>M.ret (vI n)) (vI n_19)).bind λ u=>(chk (lI n 3 λ n=>M.ret (vI n)) (vI n_18)).bind λ u=>(chk (lI n 2 λ n=>M.ret (vI n)) (vI n_17)).bind λ u=>(chk (lI n 2 λ n=>M.ret (vI n)) (vI n_16)).bind λ u=>(jos [vS s.a s.n s.c,vS s_1.a s_1.n s_1.c]).bS λ s_2=>(chk (lI n 2 λ n=>M.ret (vI n)) (vI n_21)).bind λ u=>(chk (lI n 3 λ n=>M.ret (vI n)) (vI n_20)).bind λ u=>(chk (lI n 2 λ n=>M.ret (vI n)) (vI n_19)).bind λ u=>(chk (lI n 3 λ n=>M.ret (vI n)) (vI n_18)).bind λ u=>(chk (lI n 2 λ n=>M.ret (vI n)) (vI n_17)).bind λ u=>(chk (lI n 2 λ n=>M.ret (vI n)) (vI n_16)).bind λ u=>(jov [vI (wI (n_9*n_16)),vI 1,vI n_17]).bS λ s_3=>(chk (lI n 2 λ n=>M.ret (vI n)) (vI n_21)).bind λ u=>(chk (lI n 3 λ n=>M.ret (vI n)) (vI n_20)).bind λ u=>(chk (lI n 2 λ n=>M.ret (vI n)) (vI n_19)).bind λ u=>(chk (lI n 3 λ n=>M.ret (vI n)) (vI n_18)).bind λ u=>(jov [vI (wI (n_11+wI (wI (n_18*n_19)*n_9))),vI n_20,vI n_21]).bS λ s_4=>(jos [vS s.a s.n s.c,vS s_4.a s_4.n s_4.c]).bS λ s=>(j6k (jvv [(117,jj5),(116,jmy),(234,jn1),(227,jn7),(236,jov),(235,jos)] C) tell [vA [vS s_2.a s_2.n s_2.c,vS s_3.a s_3.n s_3.c,vS s.a s.n s.c]]).bN 0 λ vs=>(z5w 0 [vI (wI (n_11+1))]) else z5w 1 [])) [vI 0]).bind λ q=>gL q.snd 0 (z5w 0 [vI (wI (n_9+1))]) else z5w 1 [])) [vI 0]).bind λ q=>gL q.snd 0 (z5w 0 [vI (wI (n_5+1))])) else z5w 1 [])) [vI 0]).bind λ q=>z0t [gL q.snd 0 (z5w 0 [vI 0]),gL q.snd 1 (hI q.snd λ n=>z5w 0 [vI n])] (q.fst-1))))).bind jzc:=by kernel_rfl
def jo7:=fnG [(153,jo4),(181,jop (jvv [(182,joa)] noC))] (jvv [(182,joa)] noC) [] (Tryz.f126.body.getD .skip) 26 [.tmp 6,.tmp 7]
theorem jo9:OKG 126 jo7:=λ hG=>jd8 ⟨jo6 hG,jor hG _ (jvx (L:=[(182,joa)]) jy5 ⟨joc hG,trivial⟩),trivial⟩ (jvx (L:=[(182,joa)]) jy5 ⟨joc hG,trivial⟩) Tryz.func126
theorem jo8 (p axes axesn axesc s0 s1 s2 s3 s4):jo7 [vU p,vS axes axesn axesc,.agg ⟨[vI s0,vB s1,vI s2,vI s3,vI s4]⟩] =
 (nB [vI s0,vB s1,vI s2,vI s3,vI s4] 29 λ n=>lI n 0 λ n_1=>lB n 1 λ b=>lI n 2 λ n_2=>lI n 3 λ n_3=>lI n 4 λ n_4=>(jo4 [vU p,vS axes axesn axesc,vA [vI n_1,vB b,vI n_2,vI n_3,vI n_4]]).bI λ n_5=>bif n_5 != 0 then z5w 0 [vT [vS none 0 0,vI n_5]] else nB [vS none 0 0] 124 λ n_6=>lI n 0 λ n_7=>lB n 1 λ b=>lI n 2 λ n_8=>lI n 3 λ n_9=>lI n 4 λ n=>(jop (jvv [(182,joa)] noC) [vS axes axesn axesc,vA [vI n_7,vB b,vI n_8,vI n_9,vI n],Value.func (Fn.func 182) (ar ([])) (ar ([vP (some (ad n_6 0))]))]).bI λ n=>bif n != 0 then z5w 0 [vT [vS none 0 0,vI n]] else lS n_6 0 λ s=>z5w 0 [vT [vS s.a s.n s.c,vI 0]]).bind jzc:=by kernel_rfl
def jlh:=fnG [(167,jhw),(130,ji2),(207,jlk)] noC [] (Tryz.f156.body.getD .skip) 20 [.tmp 4,.tmp 5]
theorem jlj:OKG 156 jlh:=λ hG=>jd8 ⟨jhy hG,ji4 hG,jlm hG,trivial⟩ jy5 Tryz.func156
theorem jli (p a):jlh [vU p,vU a] =
 ((jhw [vU p]).bB λ b=>bif !b then z5w 0 [vT [vU 0,vI 2]] else (ji2 [vU p,vU a]).bU λ n=>bif n == 0 then z5w 0 [vT [vU 0,vI 9]] else (jlk [vU p,vU a,vU (wU (p-2))]).bU λ n=>z5w 0 [vT [vU n,vI 0]]).bind jzc:=by kernel_rfl
def jmd:=fnG [(180,jmj),(156,jlh)] noC [] (Tryz.f206.body.getD .skip) 22 [.tmp 4,.tmp 5]
theorem jmf:OKG 206 jmd:=λ hG=>jd8 ⟨jml hG,jlj hG,trivial⟩ jy5 Tryz.func206
theorem jme (p n):jmd [vU p,vI n] =
 ((jmj [vU p,vI n]).bN 2 λ vs=>(hU vs λ n=>hI vs.tail λ n_1=>bif n_1 != 0 then z5w 0 [vT [vU 0,vI n_1]] else (jlh [vU p,vU n]).bN 2 λ vs=>(hU vs λ n=>hI vs.tail λ n_2=>z5w 0 [vT [vU n,vI n_2]]))).bind jzc:=by kernel_rfl
def j4l:List (Nat×Ann):=[(7,⟨[],[],[⟨.norm,[10],[.int .i64 0]⟩,⟨.ret,[8,9],[.int .u64 0,.int .i64 0]⟩]⟩),(28,⟨[],[],[⟨.norm,[18],[.bool false]⟩]⟩)]
def jom:=fnG [(206,jmd),(180,jmj)] noC j4l (Tryz.f154.body.getD .skip) 43 [.tmp 8,.tmp 9]
theorem joo:OKG 154 jom:=λ hG=>jd8 ⟨jmf hG,jml hG,trivial⟩ jy5 Tryz.func154
def jtu:Int->Bool->Nat×List Value->M (Nat×List Value):=
 λ p inv q=>z0t [gL q.snd 1 (hI q.snd λ n=>bif inv then (jmd [vU p,vI n]).bN 2 λ vs=>(hU vs λ n=>hI vs.tail λ n_1=>z5w 0 [vT [vU n,vI n_1]]) else (jmj [vU p,vI n]).bN 2 λ vs=>(hU vs λ n=>hI vs.tail λ n_1=>z5w 0 [vT [vU n,vI n_1]])),gL q.snd 2 (hU q.snd λ n=>hI q.snd.tail λ n_1=>z5w 0 [vT [vU n,vI n_1]])] q.fst
theorem jon (p a0 a1 inv s0 s1 s2 s3 s4):jom [vU p,.agg ⟨[vI a0,vB a1]⟩,vB inv,.agg ⟨[vI s0,vB s1,vI s2,vI s3,vI s4]⟩] =
 (nB [vI a0,vB a1] 113 λ n=>nB [vI s0,vB s1,vI s2,vI s3,vI s4] 29 λ n_1=>lI n_1 2 λ n_2=>lI n_1 4 λ n_3=>((lB n_1 1 λ b=>bif b then lB n 1 λ b=>z5w 0 [vB !b] else z5w 0 [vB false]).bind λ q=>gL q.snd 1 (hB q.snd λ b=>bif b then z5w 1 [vU 1,vI 0] else lB n_1 1 λ b=>bif b then lI n 0 λ n=>z5w 0 [vI (wI (2*n))] else z5w 0 [vI (wI (n_2*n_3))])).bind (jtu p inv)).bind jzc:=by kernel_rfl
def j40:List (Nat×Ann):=[(3,⟨[],[],[⟨.norm,[],[]⟩,⟨.ret,[6,7],[.slice none 0 0,.int .i64 0]⟩]⟩),(250,⟨[9,26],[.int .u64 0,.int .i64 0],[⟨.ex 1,[],[]⟩]⟩)]
def jln:=fnG [(167,jhw),(132,jhz)] noC j40 (Tryz.f155.body.getD .skip) 39 [.tmp 6,.tmp 7]
theorem jlp:OKG 155 jln:=λ hG=>jd8 ⟨jhy hG,ji1 hG,trivial⟩ jy5 Tryz.func155
theorem jlo (p a many):jln [vU p,vU a,vI many] =
 (((jhw [vU p]).bB λ b=>bif !b then z5w 1 [vS none 0 0,vI 2] else bif decide (many < 0) then z5w 1 [vS none 0 0,vI 1] else bif decide (65536 < many) then z5w 1 [vS none 0 0,vI 1] else z5w 0 []).bind λ q=>z0t [gL q.snd 0 (jr0 (0<=many/\many<=many/\many<=281474976710656/\(↑8:Int)*many<=281474976710656/\[vU 0].all jcs=true) (nB (zht many.toNat [vU 0]) 24 λ n=>(jw8 (λ st=>gL st 2 (hU st λ n_1=>hI st.tail λ n_2=>bif decide (n_2 < (↑many.toNat:Int)) then (jhz [vU p,vU n_1,vU a]).bU λ n_3=>jr0 (0<=n_2/\n_2 < (↑many.toNat:Int)) (sL ((ad n 0).add (n_2.toNat*1)) [vU n_1] λ x=>z5w 0 [vU n_3,vI (wI (n_2+1))]) else z5w 1 [])) [vU 1,vI 0]).bind λ q=>gL q.snd 0 (z5w 0 [vT [vS (some (ad n 0)) many.toNat many.toNat,vI 0]]))),gL q.snd 2 (hS q.snd λ s=>hI q.snd.tail λ n=>z5w 0 [vT [vS s.a s.n s.c,vI n]])] q.fst).bind jzc:=by kernel_rfl
def j4k:List (Nat×Ann):=[(8106,⟨[14,15],[.slice none 0 0,.int .u64 0],[⟨.ex 0,[14],[.slice none 0 0]⟩,⟨.ret,[8,9],[.slice none 0 0,.int .i64 0]⟩]⟩),(255,⟨[],[],[⟨.norm,[],[]⟩,⟨.ret,[8,9],[.slice none 0 0,.int .i64 0]⟩]⟩),(16378,⟨[115],[.int .i64 0],[⟨.ex 2,[],[]⟩]⟩)]
def joj:=fnG [(153,jo4),(154,jom),(155,jln),(132,jhz),(156,jlh)] noC j4k (Tryz.f82.body.getD .skip) 129 [.tmp 8,.tmp 9]
theorem jol:OKG 82 joj:=λ hG=>jd8 ⟨jo6 hG,joo hG,jlp hG,ji1 hG,jlj hG,trivial⟩ jy5 Tryz.func82
theorem jok (p axes axesn axesc inv s0 s1 s2 s3 s4):joj [vU p,vS axes axesn axesc,vB inv,.agg ⟨[vI s0,vB s1,vI s2,vI s3,vI s4]⟩] =
 (nB [vI s0,vB s1,vI s2,vI s3,vI s4] 29 λ n=>lI n 0 λ n_1=>lB n 1 λ b=>lI n 2 λ n_2=>lI n 3 λ n_3=>lI n 4 λ n_4=>(jo4 [vU p,vS axes axesn axesc,vA [vI n_1,vB b,vI n_2,vI n_3,vI n_4]]).bI λ n_5=>bif n_5 != 0 then z5w 0 [vT [vS none 0 0,vI n_5]] else lI n 0 λ n_6=>onX n_6 axesn axes (λ a=>xI a n_6 2 λ n_7=>dB ((ax a n_6 2).add 1) λ b=>nB [vI 0,vB false] 113 λ n_8=>sL (ad n_8 0) [vI n_7,vB b] λ x=>lI n_8 0 λ n_9=>lB n_8 1 λ b=>lI n 0 λ n_10=>lB n 1 λ b_1=>lI n 2 λ n_11=>lI n 3 λ n_12=>lI n 4 λ n_13=>(jom [vU p,vA [vI n_9,vB b],vB inv,vA [vI n_10,vB b_1,vI n_11,vI n_12,vI n_13]]).bN 2 λ vs=>(hU vs λ n_14=>hI vs.tail λ n_15=>bif n_15 != 0 then z5w 0 [vT [vS none 0 0,vI n_15]] else lB n 1 λ b=>bif !b then lI n 4 λ n_16=>lI n 2 λ n_17=>jr0 (0<=Int.ofNat 0/\0<=wI (n_16*n_17)/\wI (n_16*n_17)<=281474976710656/\(↑8:Int)*wI (n_16*n_17)<=281474976710656/\[vU 0].all jcs=true) (nB (zht (wI (n_16*n_17)).toNat [vU 0]) 24 λ n_18=>(jw8 (λ st=>gL st 2 (hS st λ s=>hU st.tail λ n_19=>lI n 4 λ n_20=>lI n 2 λ n_21=>bif decide ((↑s.n:Int) < wI (n_20*n_21)) then lI n 2 λ n=>(jln [vU p,vU n_19,vI n]).bN 2 λ vs=>(hS vs λ s_1=>hI vs.tail λ n=>bif n != 0 then z5w 2 [vS none 0 0,vI n] else (rdN s_1.a (s_1.n*1)).bind λ xs=>(j33 24 1 8 s.a s.n s.c s_1.n xs).bind λ q=>(jhz [vU p,vU n_19,vU n_14]).bU λ n=>z5w 0 [vS q.a q.n q.c,vU n]) else z5w 1 [vS s.a s.n s.c])) [vS (some (ad n_18 0)) 0 (wI (n_16*n_17)).toNat,vU 1]).bind λ q=>z0t [gL q.snd 1 (hS q.snd λ s=>z5w 0 [vT [vS s.a s.n s.c,vI 0]]),gL q.snd 2 (hS q.snd λ s=>hI q.snd.tail λ n=>z5w 0 [vT [vS s.a s.n s.c,vI n]])] (q.fst-1)) else lI n_8 0 λ n=>(jln [vU p,vU n_14,vI n]).bN 2 λ vs=>(hS vs λ s=>hI vs.tail λ n=>(bif n != 0 then z5w 1 [vS s.a s.n s.c,vI n] else bif !inv then z5w 1 [vS s.a s.n s.c,vI n] else z5w 0 []).bind λ q=>z0t [gL q.snd 0 (lI n_8 0 λ n=>(jlh [vU p,vU (wU n)]).bN 2 λ vs=>(hU vs λ n=>hI vs.tail λ n_16=>bif n_16 != 0 then z5w 0 [vT [vS none 0 0,vI n_16]] else (jw8 (λ st=>gL st 1 (hI st λ n_17=>bif decide (n_17 < (↑s.n:Int)) then onX n_17 s.n s.a (λ a=>xU a n_17 1 λ n_18=>(jhz [vU p,vU n_18,vU n]).bU λ n=>onX n_17 s.n s.a (λ a=>sL (ax a n_17 1) [vU n] λ x=>z5w 0 [vI (wI (n_17+1))])) else z5w 1 [])) [vI 0]).bind λ q=>gL q.snd 0 (z5w 0 [vT [vS s.a s.n s.c,vI 0]]))),gL q.snd 2 (hS q.snd λ s=>hI q.snd.tail λ n=>z5w 0 [vT [vS s.a s.n s.c,vI n]])] q.fst)))).bind jzc:=by kernel_rfl
def jna:=fnG [] noC [] (Tryz.f76.body.getD .skip) 8 [.tmp 2]
theorem jnc:OKG 76 jna:=λ hG=>jd8 trivial jy5 Tryz.func76
theorem jnb (s sn sc):jna [vS s sn sc] =
 (bif s.isNone then z5w 0 [vS none 0 0] else nB [] 24 λ b=>(rdN s (sn*1)).bind λ xs=>(j33 24 1 8 (some (ad b 0)) 0 0 sn xs).bind λ q=>z5w 0 [vS q.a q.n q.c]).bind jzc:=by kernel_rfl
def jjz:=fnG [(76,jna)] noC [] (Tryz.f26.body.getD .skip) 10 [.tmp 2]
theorem jk1:OKG 26 jjz:=λ hG=>jd8 ⟨jnc hG,trivial⟩ jy5 Tryz.func26
theorem jk0 (m):jjz [vP m] =
 (bif m.isNone then z5w 0 [vS none 0 0] else jz2 m λ a=>dS a λ s=>(jna [vS s.a s.n s.c]).bS λ s=>z5w 0 [vS s.a s.n s.c]).bind jzc:=by kernel_rfl
def jkk:=fnG [(26,jjz)] noC [] (Tryz.f127.body.getD .skip) 33 [.tmp 6]
theorem jkm:OKG 127 jkk:=λ hG=>jd8 ⟨jk1 hG,trivial⟩ jy5 Tryz.func127
theorem jkl (m at' many):jkk [vP m,vI at',vI many] =
 ((jjz [vP m]).bS λ s=>bif !m.isNone then bif decide (0<=at') then bif decide (0<=many) then bif decide (many<=(↑s.n:Int)) then z5w 0 [vB (decide (at'<=wI ((↑s.n:Int)-many)))] else z5w 0 [vB false] else z5w 0 [vB false] else z5w 0 [vB false] else z5w 0 [vB false]).bind jzc:=by kernel_rfl
def jjq:=fnG [(135,jk2)] noC [] (Tryz.f129.body.getD .skip) 20 [.tmp 4,.tmp 5]
theorem jjs:OKG 129 jjq:=λ hG=>jd8 ⟨jk4 hG,trivial⟩ jy5 Tryz.func129
theorem jjr (m addr):jjq [vP m,vI addr] =
 ((jk2 [vP m,vI addr]).bI λ n=>bif n != 0 then z5w 0 [vT [vU 0,vI n]] else jz2 m λ a=>dS a λ s=>onX addr s.n s.a (λ a=>xU a addr 1 λ n=>z5w 0 [vT [vU n,vI 0]])).bind jzc:=by kernel_rfl
def j3u:List (Nat×Ann):=[(58,⟨[18],[.int .i64 0],[⟨.ex 0,[],[]⟩,⟨.ret,[6,7],[.slice none 0 0,.int .i64 0]⟩]⟩)]
def jkn (C:FuncId->List Value->M Value):=fnG [] C j3u (Tryz.f128.body.getD .skip) 40 [.tmp 6,.tmp 7]
theorem jkp {G:List (Nat×Obj)} (hG:GT G) (C:FuncId->List Value->M Value) (hC:COK Tryz.prog G C):j0i Tryz.prog G 128 (jkn C):=jd8 trivial hC Tryz.func128
theorem jko (C load from' at' at'n at'c):jkn C [load,vI from',vS at' at'n at'c] =
 (jr0 (0<=(↑at'n:Int)/\(↑at'n:Int)<=(↑at'n:Int)/\(↑at'n:Int)<=281474976710656/\(↑8:Int)*(↑at'n:Int)<=281474976710656/\[vU 0].all jcs=true) (nB (zht (↑at'n:Int).toNat [vU 0]) 24 λ n=>(jw8 (λ st=>gL st 1 (hI st λ n_1=>bif decide (n_1 < (↑at'n:Int)) then onX n_1 at'n at' (λ a=>xI a n_1 1 λ n_2=>(j6k C load [vI (wI (from'+n_2))]).bN 2 λ vs=>(hU vs λ n_3=>hI vs.tail λ n_4=>bif n_4 != 0 then z5w 2 [vS none 0 0,vI n_4] else jr0 (0<=n_1/\n_1 < (↑(↑at'n:Int).toNat:Int)) (sL ((ad n 0).add (n_1.toNat*1)) [vU n_3] λ x=>z5w 0 [vI (wI (n_1+1))]))) else z5w 1 [])) [vI 0]).bind λ q=>z0t [gL q.snd 0 (z5w 0 [vT [vS (some (ad n 0)) (↑at'n:Int).toNat (↑at'n:Int).toNat,vI 0]]),gL q.snd 2 (hS q.snd λ s=>hI q.snd.tail λ n=>z5w 0 [vT [vS s.a s.n s.c,vI n]])] (q.fst-1))).bind jzc:=by kernel_rfl
def j3j:List (Nat×Ann):=[(3,⟨[],[],[⟨.norm,[],[]⟩,⟨.ret,[6,7],[.slice none 0 0,.int .i64 0]⟩]⟩)]
def jib (C:FuncId->List Value->M Value):=fnG [(167,jhw),(155,jln)] (jvv [(206,jmd)] (jvv [(180,jmj)] C)) j3j (Tryz.f183.body.getD .skip) 38 [.tmp 6,.tmp 7]
theorem jid {G:List (Nat×Obj)} (hG:GT G) (C:FuncId->List Value->M Value) (hC:COK Tryz.prog G C):j0i Tryz.prog G 183 (jib C):=jd8 ⟨jhy hG,jlp hG,trivial⟩ (jvx (L:=[(206,jmd)]) (jvx (L:=[(180,jmj)]) hC ⟨jml hG,trivial⟩) ⟨jmf hG,trivial⟩) Tryz.func183
theorem jic (C p r inv):jib C [vU p,vI r,vB inv] =
 (((jhw [vU p]).bB λ b=>bif !b then z5w 1 [vS none 0 0,vI 2] else bif decide (r < 2) then z5w 1 [vS none 0 0,vI 4] else bif decide (5 < r) then z5w 1 [vS none 0 0,vI 4] else z5w 0 []).bind λ q=>z0t [gL q.snd 0 (bif inv then (jmd [vU p,vI r]).bN 2 λ vs=>(hU vs λ n=>hI vs.tail λ n_1=>bif n_1 != 0 then z5w 0 [vT [vS none 0 0,vI 5]] else (jln [vU p,vU n,vI r]).bN 2 λ vs=>(hS vs λ s=>hI vs.tail λ n=>z5w 0 [vT [vS s.a s.n s.c,vI n]])) else (jmj [vU p,vI r]).bN 2 λ vs=>(hU vs λ n=>hI vs.tail λ n_1=>bif n_1 != 0 then z5w 0 [vT [vS none 0 0,vI 5]] else (jln [vU p,vU n,vI r]).bN 2 λ vs=>(hS vs λ s=>hI vs.tail λ n=>z5w 0 [vT [vS s.a s.n s.c,vI n]]))),gL q.snd 2 (hS q.snd λ s=>hI q.snd.tail λ n=>z5w 0 [vT [vS s.a s.n s.c,vI n]])] q.fst).bind jzc:=by kernel_rfl
def j3i:List (Nat×Ann):=[(26,⟨[9],[.int .i64 0],[⟨.ex 0,[],[]⟩,⟨.ret,[4],[.bool false]⟩]⟩)]
def jht:=fnG [(167,jhw)] noC j3i (Tryz.f124.body.getD .skip) 19 [.tmp 4]
theorem jhv:OKG 124 jht:=λ hG=>jd8 ⟨jhy hG,trivial⟩ jy5 Tryz.func124
theorem jhu (p l ln lc):jht [vU p,vS l ln lc] =
 ((jw8 (λ st=>gL st 1 (hI st λ n=>bif decide (n < (↑ln:Int)) then onX n ln l (λ a=>xU a n 1 λ n_1=>bif decide (p<=n_1) then z5w 2 [vB false] else z5w 0 [vI (wI (n+1))]) else z5w 1 [])) [vI 0]).bind λ q=>z0t [gL q.snd 0 ((jhw [vU p]).bB λ b=>z5w 0 [vB b]),gL q.snd 1 (hB q.snd λ b=>z5w 0 [vB b])] (q.fst-1)).bind jzc:=by kernel_rfl
def jhr:=fnG [(167,jhw),(130,ji2)] noC [] (Tryz.f194.body.getD .skip) 33 [.tmp 6]
theorem jhs:OKG 194 jhr:=λ hG=>jd8 ⟨jhy hG,ji4 hG,trivial⟩ jy5 Tryz.func194
theorem zia (p a b):jhr [vU p,vU a,vU b] =
 ((jhw [vU p]).bB λ b_1=>bif !b_1 then z5w 0 [vU 0] else (ji2 [vU p,vU a]).bU λ n=>(ji2 [vU p,vU b]).bU λ n_1=>jr0 (inA n n_1 0=true) (bif decide (0 < j6m n n_1 0) then z5w 0 [vU (wU (zbl n n_1 0-p))] else bif decide (p<=zbl n n_1 0) then z5w 0 [vU (wU (zbl n n_1 0-p))] else z5w 0 [vU (zbl n n_1 0)])).bind jzc:=by kernel_rfl
def j3l:List (Nat×Ann):=[(58,⟨[5,10],[.int .u64 0,.int .i64 0],[⟨.ex 0,[5],[.int .u64 0]⟩]⟩)]
def jih:=fnG [(194,jhr)] noC j3l (Tryz.f237.body.getD .skip) 21 [.tmp 4]
theorem jij:OKG 237 jih:=λ hG=>jd8 ⟨jhs hG,trivial⟩ jy5 Tryz.func237
theorem jii (f0 f1 f1n f1c l ln lc):jih [.agg ⟨[vU f0,vS f1 f1n f1c]⟩,vS l ln lc] =
 (nB [vU f0,vS f1 f1n f1c] 232 λ n=>(jw8 (λ st=>gL st 2 (hU st λ n_1=>hI st.tail λ n_2=>bif decide (n_2 < (↑ln:Int)) then onX n_2 ln l (λ a=>xU a n_2 1 λ n_3=>lU n 0 λ n=>(jhr [vU n,vU n_1,vU n_3]).bU λ n=>z5w 0 [vU n,vI (wI (n_2+1))]) else z5w 1 [vU n_1])) [vU 0,vI 0]).bind λ q=>gL q.snd 1 (hU q.snd λ n=>z5w 0 [vU n])).bind jzc:=by kernel_rfl
def ji5:=fnG [(167,jhw),(130,ji2)] noC [] (Tryz.f248.body.getD .skip) 28 [.tmp 6]
theorem ji7:OKG 248 ji5:=λ hG=>jd8 ⟨jhy hG,ji4 hG,trivial⟩ jy5 Tryz.func248
theorem ji6 (p a b):ji5 [vU p,vU a,vU b] =
 ((jhw [vU p]).bB λ b_1=>bif !b_1 then z5w 0 [vU 0] else (ji2 [vU p,vU a]).bU λ n=>(ji2 [vU p,vU b]).bU λ n_1=>jr0 (inS n n_1 0=true) (bif decide (0 < j6c n n_1 0) then z5w 0 [vU (wU (j9w n n_1 0+p))] else z5w 0 [vU (j9w n n_1 0)])).bind jzc:=by kernel_rfl
def jit:=fnG [(248,ji5)] noC [] (Tryz.f238.body.getD .skip) 12 [.tmp 6]
theorem jiv:OKG 238 jit:=λ hG=>jd8 ⟨ji7 hG,trivial⟩ jy5 Tryz.func238
theorem jiu (f0 f1 f1n f1c a b):jit [.agg ⟨[vU f0,vS f1 f1n f1c]⟩,vU a,vU b] =
 (nB [vU f0,vS f1 f1n f1c] 232 λ n=>lU n 0 λ n=>(ji5 [vU n,vU a,vU b]).bU λ n=>z5w 0 [vU n]).bind jzc:=by kernel_rfl
def jiz:=fnG [(237,jih),(238,jit)] noC [] (Tryz.f184.body.getD .skip) 23 [.tmp 4]
theorem jj1:OKG 184 jiz:=λ hG=>jd8 ⟨jij hG,jiv hG,trivial⟩ jy5 Tryz.func184
theorem jj0 (f0 f1 f1n f1c x xn xc):jiz [.agg ⟨[vU f0,vS f1 f1n f1c]⟩,vS x xn xc] =
 (nB [vU f0,vS f1 f1n f1c] 232 λ n=>lU n 0 λ n_1=>lS n 1 λ s=>jr0 (0<=Int.ofNat 0/\0 < (↑xn:Int)) (jz2 x λ a=>dU a λ n_2=>jr0 (0<=Int.ofNat 1/\1 < (↑xn:Int)) (jz2 x λ a=>dU (a.add 1) λ n_3=>nB [vU n_2,vU n_3] 24 λ b=>lU n 0 λ n_4=>lS n 1 λ s_1=>jr0 (0<=Int.ofNat 0/\0 < (↑xn:Int)) (jz2 x λ a=>dU a λ n_5=>jr0 (0<=Int.ofNat 1/\1 < (↑xn:Int)) (jz2 x λ a_1=>dU (a_1.add 1) λ n_6=>(jih [vA [vU n_1,vS s.a s.n s.c],vS (some (ad b 0)) 2 2]).bU λ n_7=>(chk (dU (a_1.add 1) λ n=>M.ret (vU n)) (vU n_6)).bind λ u=>(chk (dU a λ n=>M.ret (vU n)) (vU n_5)).bind λ u=>(chk (lU n 0 λ n_8=>lS n 1 λ s=>M.ret (vA [vU n_8,vS s.a s.n s.c])) (vA [vU n_4,vS s_1.a s_1.n s_1.c])).bind λ u=>(jit [vA [vU n_4,vS s_1.a s_1.n s_1.c],vU n_5,vU n_6]).bU λ n=>nB [vU n_7,vU n] 24 λ b=>z5w 0 [vS (some (ad b 0)) 2 2]))))).bind jzc:=by kernel_rfl
def jiq:=fnG [(132,jhz)] noC [] (Tryz.f239.body.getD .skip) 12 [.tmp 6]
theorem jis:OKG 239 jiq:=λ hG=>jd8 ⟨ji1 hG,trivial⟩ jy5 Tryz.func239
theorem jir (f0 f1 f1n f1c a b):jiq [.agg ⟨[vU f0,vS f1 f1n f1c]⟩,vU a,vU b] =
 (nB [vU f0,vS f1 f1n f1c] 232 λ n=>lU n 0 λ n=>(jhz [vU n,vU a,vU b]).bU λ n=>z5w 0 [vU n]).bind jzc:=by kernel_rfl
def jiw:=fnG [(238,jit),(239,jiq),(237,jih)] noC [] (Tryz.f185.body.getD .skip) 47 [.tmp 4]
theorem jiy:OKG 185 jiw:=λ hG=>jd8 ⟨jiv hG,jis hG,jij hG,trivial⟩ jy5 Tryz.func185
theorem jix (f0 f1 f1n f1c x xn xc):jiw [.agg ⟨[vU f0,vS f1 f1n f1c]⟩,vS x xn xc] =
 (nB [vU f0,vS f1 f1n f1c] 232 λ n=>lU n 0 λ n_1=>lS n 1 λ s=>lU n 0 λ n_2=>lS n 1 λ s_1=>jr0 (0<=Int.ofNat 1/\1 < (↑xn:Int)) (jz2 x λ a=>dU (a.add 1) λ n_3=>jr0 (0<=Int.ofNat 2/\2 < (↑xn:Int)) (jz2 x λ a=>dU (a.add 2) λ n_4=>lS n 1 λ s_2=>jr0 (0<=Int.ofNat 1/\1 < (↑s_2.n:Int)) (jz2 s_2.a λ a=>dU (a.add 1) λ n_5=>(jit [vA [vU n_2,vS s_1.a s_1.n s_1.c],vU n_3,vU n_4]).bU λ n_6=>(chk (dU (a.add 1) λ n=>M.ret (vU n)) (vU n_5)).bind λ u=>(chk (lS n 1 λ s=>M.ret (vS s.a s.n s.c)) (vS s_2.a s_2.n s_2.c)).bind λ u=>(chk (lU n 0 λ n_7=>lS n 1 λ s=>M.ret (vA [vU n_7,vS s.a s.n s.c])) (vA [vU n_1,vS s.a s.n s.c])).bind λ u=>(jiq [vA [vU n_1,vS s.a s.n s.c],vU n_6,vU n_5]).bU λ n_7=>lU n 0 λ n_8=>lS n 1 λ s=>lU n 0 λ n_9=>lS n 1 λ s_3=>lU n 0 λ n_10=>lS n 1 λ s_4=>jr0 (0<=Int.ofNat 0/\0 < (↑xn:Int)) (jz2 x λ a=>dU a λ n_11=>jr0 (0<=Int.ofNat 2/\2 < (↑xn:Int)) (jz2 x λ a_1=>dU (a_1.add 2) λ n_12=>lU n 0 λ n_13=>lS n 1 λ s_5=>lU n 0 λ n_14=>lS n 1 λ s_6=>jr0 (0<=Int.ofNat 0/\0 < (↑xn:Int)) (jz2 x λ a_2=>dU a_2 λ n_15=>jr0 (0<=Int.ofNat 1/\1 < (↑xn:Int)) (jz2 x λ a_3=>dU (a_3.add 1) λ n_16=>(jih [vA [vU n_8,vS s.a s.n s.c],vS x xn xc]).bU λ n_17=>(chk (dU (a_3.add 1) λ n=>M.ret (vU n)) (vU n_16)).bind λ u=>(chk (dU a_2 λ n=>M.ret (vU n)) (vU n_15)).bind λ u=>(chk (lU n 0 λ n_18=>lS n 1 λ s=>M.ret (vA [vU n_18,vS s.a s.n s.c])) (vA [vU n_14,vS s_6.a s_6.n s_6.c])).bind λ u=>(chk (lU n 0 λ n_18=>lS n 1 λ s=>M.ret (vA [vU n_18,vS s.a s.n s.c])) (vA [vU n_13,vS s_5.a s_5.n s_5.c])).bind λ u=>(chk (dU (a_1.add 2) λ n=>M.ret (vU n)) (vU n_12)).bind λ u=>(chk (dU a λ n=>M.ret (vU n)) (vU n_11)).bind λ u=>(chk (lU n 0 λ n_18=>lS n 1 λ s=>M.ret (vA [vU n_18,vS s.a s.n s.c])) (vA [vU n_10,vS s_4.a s_4.n s_4.c])).bind λ u=>(chk (lU n 0 λ n_18=>lS n 1 λ s=>M.ret (vA [vU n_18,vS s.a s.n s.c])) (vA [vU n_9,vS s_3.a s_3.n s_3.c])).bind λ u=>(jit [vA [vU n_10,vS s_4.a s_4.n s_4.c],vU n_11,vU n_12]).bU λ n_18=>(chk (dU (a_3.add 1) λ n=>M.ret (vU n)) (vU n_16)).bind λ u=>(chk (dU a_2 λ n=>M.ret (vU n)) (vU n_15)).bind λ u=>(chk (lU n 0 λ n_19=>lS n 1 λ s=>M.ret (vA [vU n_19,vS s.a s.n s.c])) (vA [vU n_14,vS s_6.a s_6.n s_6.c])).bind λ u=>(chk (lU n 0 λ n_19=>lS n 1 λ s=>M.ret (vA [vU n_19,vS s.a s.n s.c])) (vA [vU n_13,vS s_5.a s_5.n s_5.c])).bind λ u=>(chk (lU n 0 λ n_19=>lS n 1 λ s=>M.ret (vA [vU n_19,vS s.a s.n s.c])) (vA [vU n_9,vS s_3.a s_3.n s_3.c])).bind λ u=>nB [vU n_18,vU n_7] 24 λ b=>(jih [vA [vU n_9,vS s_3.a s_3.n s_3.c],vS (some (ad b 0)) 2 2]).bU λ n_19=>(chk (dU (a_3.add 1) λ n=>M.ret (vU n)) (vU n_16)).bind λ u=>(chk (dU a_2 λ n=>M.ret (vU n)) (vU n_15)).bind λ u=>(chk (lU n 0 λ n_20=>lS n 1 λ s=>M.ret (vA [vU n_20,vS s.a s.n s.c])) (vA [vU n_14,vS s_6.a s_6.n s_6.c])).bind λ u=>(chk (lU n 0 λ n_20=>lS n 1 λ s=>M.ret (vA [vU n_20,vS s.a s.n s.c])) (vA [vU n_13,vS s_5.a s_5.n s_5.c])).bind λ u=>(jit [vA [vU n_14,vS s_6.a s_6.n s_6.c],vU n_15,vU n_16]).bU λ n_20=>(chk (lU n 0 λ n_21=>lS n 1 λ s=>M.ret (vA [vU n_21,vS s.a s.n s.c])) (vA [vU n_13,vS s_5.a s_5.n s_5.c])).bind λ u=>(jit [vA [vU n_13,vS s_5.a s_5.n s_5.c],vU n_20,vU n_7]).bU λ n=>nB [vU n_17,vU n_19,vU n] 24 λ b=>z5w 0 [vS (some (ad b 0)) 3 3])))))))).bind jzc:=by kernel_rfl
def jin:=fnG [(184,jiz),(239,jiq),(237,jih),(238,jit)] noC [] (Tryz.f186.body.getD .skip) 66 [.tmp 4]
theorem jip:OKG 186 jin:=λ hG=>jd8 ⟨jj1 hG,jis hG,jij hG,jiv hG,trivial⟩ jy5 Tryz.func186
theorem jio (f0 f1 f1n f1c x xn xc):jin [.agg ⟨[vU f0,vS f1 f1n f1c]⟩,vS x xn xc] =
 (nB [vU f0,vS f1 f1n f1c] 232 λ n=>lU n 0 λ n_1=>lS n 1 λ s=>jr0 (0<=Int.ofNat 0/\0 < (↑xn:Int)) (jz2 x λ a=>dU a λ n_2=>jr0 (0<=Int.ofNat 2/\2 < (↑xn:Int)) (jz2 x λ a=>dU (a.add 2) λ n_3=>nB [vU n_2,vU n_3] 24 λ b=>lU n 0 λ n_4=>lS n 1 λ s_1=>jr0 (0<=Int.ofNat 1/\1 < (↑xn:Int)) (jz2 x λ a=>dU (a.add 1) λ n_5=>jr0 (0<=Int.ofNat 3/\3 < (↑xn:Int)) (jz2 x λ a_1=>dU (a_1.add 3) λ n_6=>nB [vU n_5,vU n_6] 24 λ b_1=>(jiz [vA [vU n_1,vS s.a s.n s.c],vS (some (ad b 0)) 2 2]).bS λ s=>(chk (dU (a_1.add 3) λ n=>M.ret (vU n)) (vU n_6)).bind λ u=>(chk (dU (a.add 1) λ n=>M.ret (vU n)) (vU n_5)).bind λ u=>(chk (lU n 0 λ n_7=>lS n 1 λ s=>M.ret (vA [vU n_7,vS s.a s.n s.c])) (vA [vU n_4,vS s_1.a s_1.n s_1.c])).bind λ u=>(jiz [vA [vU n_4,vS s_1.a s_1.n s_1.c],vS (some (ad b_1 0)) 2 2]).bS λ s_2=>lU n 0 λ n_7=>lS n 1 λ s_3=>jr0 (0<=Int.ofNat 1/\1 < (↑s_2.n:Int)) (jz2 s_2.a λ a=>dU (a.add 1) λ n_8=>lS n 1 λ s_4=>jr0 (0<=Int.ofNat 1/\1 < (↑s_4.n:Int)) (jz2 s_4.a λ a=>dU (a.add 1) λ n_9=>(jiq [vA [vU n_7,vS s_3.a s_3.n s_3.c],vU n_8,vU n_9]).bU λ n_10=>lU n 0 λ n_11=>lS n 1 λ s_5=>jr0 (0<=Int.ofNat 0/\0 < (↑s.n:Int)) (jz2 s.a λ a=>dU a λ n_12=>jr0 (0<=Int.ofNat 0/\0 < (↑s_2.n:Int)) (jz2 s_2.a λ a=>dU a λ n_13=>nB [vU n_12,vU n_13] 24 λ b=>lU n 0 λ n_14=>lS n 1 λ s_6=>jr0 (0<=Int.ofNat 1/\1 < (↑s.n:Int)) (jz2 s.a λ a=>dU (a.add 1) λ n_15=>nB [vU n_15,vU n_10] 24 λ b_2=>lU n 0 λ n_16=>lS n 1 λ s_7=>jr0 (0<=Int.ofNat 0/\0 < (↑s.n:Int)) (jz2 s.a λ a_2=>dU a_2 λ n_17=>jr0 (0<=Int.ofNat 0/\0 < (↑s_2.n:Int)) (jz2 s_2.a λ a_3=>dU a_3 λ n_18=>lU n 0 λ n_19=>lS n 1 λ s_8=>jr0 (0<=Int.ofNat 1/\1 < (↑s.n:Int)) (jz2 s.a λ a_4=>dU (a_4.add 1) λ n_20=>(jih [vA [vU n_11,vS s_5.a s_5.n s_5.c],vS (some (ad b 0)) 2 2]).bU λ n_21=>(chk (dU (a_4.add 1) λ n=>M.ret (vU n)) (vU n_20)).bind λ u=>(chk (lU n 0 λ n_22=>lS n 1 λ s=>M.ret (vA [vU n_22,vS s.a s.n s.c])) (vA [vU n_19,vS s_8.a s_8.n s_8.c])).bind λ u=>(chk (dU a_3 λ n=>M.ret (vU n)) (vU n_18)).bind λ u=>(chk (dU a_2 λ n=>M.ret (vU n)) (vU n_17)).bind λ u=>(chk (lU n 0 λ n_22=>lS n 1 λ s=>M.ret (vA [vU n_22,vS s.a s.n s.c])) (vA [vU n_16,vS s_7.a s_7.n s_7.c])).bind λ u=>(chk (dU (a.add 1) λ n=>M.ret (vU n)) (vU n_15)).bind λ u=>(chk (lU n 0 λ n_22=>lS n 1 λ s=>M.ret (vA [vU n_22,vS s.a s.n s.c])) (vA [vU n_14,vS s_6.a s_6.n s_6.c])).bind λ u=>(jih [vA [vU n_14,vS s_6.a s_6.n s_6.c],vS (some (ad b_2 0)) 2 2]).bU λ n_22=>(chk (dU (a_4.add 1) λ n=>M.ret (vU n)) (vU n_20)).bind λ u=>(chk (lU n 0 λ n_23=>lS n 1 λ s=>M.ret (vA [vU n_23,vS s.a s.n s.c])) (vA [vU n_19,vS s_8.a s_8.n s_8.c])).bind λ u=>(chk (dU a_3 λ n=>M.ret (vU n)) (vU n_18)).bind λ u=>(chk (dU a_2 λ n=>M.ret (vU n)) (vU n_17)).bind λ u=>(chk (lU n 0 λ n_23=>lS n 1 λ s=>M.ret (vA [vU n_23,vS s.a s.n s.c])) (vA [vU n_16,vS s_7.a s_7.n s_7.c])).bind λ u=>(jit [vA [vU n_16,vS s_7.a s_7.n s_7.c],vU n_17,vU n_18]).bU λ n_23=>(chk (dU (a_4.add 1) λ n=>M.ret (vU n)) (vU n_20)).bind λ u=>(chk (lU n 0 λ n_24=>lS n 1 λ s=>M.ret (vA [vU n_24,vS s.a s.n s.c])) (vA [vU n_19,vS s_8.a s_8.n s_8.c])).bind λ u=>(jit [vA [vU n_19,vS s_8.a s_8.n s_8.c],vU n_20,vU n_10]).bU λ n=>nB [vU n_21,vU n_22,vU n_23,vU n] 24 λ b=>z5w 0 [vS (some (ad b 0)) 4 4]))))))))))))).bind jzc:=by kernel_rfl
def j3m:List (Nat×Ann):=[(58,⟨[5,6],[.slice none 0 0,.int .i64 0],[⟨.ex 0,[5],[.slice none 0 0]⟩]⟩),(14922,⟨[7,8],[.int .u64 0,.int .i64 0],[⟨.ex 2,[7],[.int .u64 0]⟩]⟩)]
def jik:=fnG [(237,jih),(239,jiq)] noC j3m (Tryz.f187.body.getD .skip) 47 [.tmp 4]
theorem jim:OKG 187 jik:=λ hG=>jd8 ⟨jij hG,jis hG,trivial⟩ jy5 Tryz.func187
theorem jil (f0 f1 f1n f1c x xn xc):jik [.agg ⟨[vU f0,vS f1 f1n f1c]⟩,vS x xn xc] =
 (nB [vU f0,vS f1 f1n f1c] 232 λ n=>lU n 0 λ n_1=>lS n 1 λ s=>(jih [vA [vU n_1,vS s.a s.n s.c],vS x xn xc]).bU λ n_2=>nB [vU n_2] 24 λ b=>(jw8 (λ st=>gL st 2 (hS st λ s=>hI st.tail λ n_3=>bif decide (n_3 < 5) then jr0 (0<=Int.ofNat 0/\0 < (↑xn:Int)) (jz2 x λ a=>dU a λ n_4=>(jw8 (λ st=>gL st 2 (hU st λ n_5=>hI st.tail λ n_6=>bif decide (n_6 < 5) then lU n 0 λ n_7=>lS n 1 λ s=>lU n 0 λ n_8=>lS n 1 λ s_1=>onX n_6 xn x (λ a=>xU a n_6 1 λ n_9=>lS n 1 λ s_2=>onX ((wI (n_6*n_3)).tmod 5) s_2.n s_2.a (λ a=>(ld (a.add (((wI (n_6*n_3)).tmod 5).toNat*1))).bU λ n_10=>(jiq [vA [vU n_8,vS s_1.a s_1.n s_1.c],vU n_9,vU n_10]).bU λ n_11=>(chk (lU n 0 λ n_12=>lS n 1 λ s=>M.ret (vA [vU n_12,vS s.a s.n s.c])) (vA [vU n_7,vS s.a s.n s.c])).bind λ u=>nB [vU n_5,vU n_11] 24 λ b=>(jih [vA [vU n_7,vS s.a s.n s.c],vS (some (ad b 0)) 2 2]).bU λ n=>z5w 0 [vU n,vI (wI (n_6+1))])) else z5w 1 [vU n_5])) [vU n_4,vI 1]).bind λ q=>gL q.snd 1 (hU q.snd λ n=>nB [vU n] 24 λ b=>(rdN (some (ad b 0)) 1).bind λ xs=>(j33 24 1 8 s.a s.n s.c 1 xs).bind λ q=>z5w 0 [vS q.a q.n q.c,vI (wI (n_3+1))])) else z5w 1 [vS s.a s.n s.c])) [vS (some (ad b 0)) 1 1,vI 1]).bind λ q=>gL q.snd 1 (hS q.snd λ s=>z5w 0 [vS s.a s.n s.c])).bind jzc:=by kernel_rfl
def ji8 (C:FuncId->List Value->M Value):=fnG [(183,jib (jvv [(187,jik)] (jvv [(186,jin)] (jvv [(185,jiw)] (jvv [(184,jiz)] C))))),(124,jht)] (jvv [(187,jik)] (jvv [(186,jin)] (jvv [(185,jiw)] (jvv [(184,jiz)] C)))) [] (Tryz.f131.body.getD .skip) 39 [.tmp 6,.tmp 7]
theorem jia {G:List (Nat×Obj)} (hG:GT G) (C:FuncId->List Value->M Value) (hC:COK Tryz.prog G C):j0i Tryz.prog G 131 (ji8 C):=jd8 ⟨jid hG _ (jvx (L:=[(187,jik)]) (jvx (L:=[(186,jin)]) (jvx (L:=[(185,jiw)]) (jvx (L:=[(184,jiz)]) hC ⟨jj1 hG,trivial⟩) ⟨jiy hG,trivial⟩) ⟨jip hG,trivial⟩) ⟨jim hG,trivial⟩),jhv hG,trivial⟩ (jvx (L:=[(187,jik)]) (jvx (L:=[(186,jin)]) (jvx (L:=[(185,jiw)]) (jvx (L:=[(184,jiz)]) hC ⟨jj1 hG,trivial⟩) ⟨jiy hG,trivial⟩) ⟨jip hG,trivial⟩) ⟨jim hG,trivial⟩) Tryz.func131
theorem ji9 (C p inv x xn xc):ji8 C [vU p,vB inv,vS x xn xc] =
 ((jib (jvv [(187,jik)] (jvv [(186,jin)] (jvv [(185,jiw)] (jvv [(184,jiz)] C)))) [vU p,vI (↑xn:Int),vB inv]).bN 2 λ vs=>(hS vs λ s=>hI vs.tail λ n=>bif n != 0 then z5w 0 [vT [vS none 0 0,vI n]] else (jht [vU p,vS x xn xc]).bB λ b=>bif !b then z5w 0 [vT [vS none 0 0,vI 7]] else nB [Value.nilFunc,Value.nilFunc,Value.nilFunc,Value.nilFunc] 233 λ n=>sL (ad n 0) [Value.func (Fn.func 184) (ar ([])) (ar ([])),Value.func (Fn.func 185) (ar ([])) (ar ([])),Value.func (Fn.func 186) (ar ([])) (ar ([])),Value.func (Fn.func 187) (ar ([])) (ar ([]))] λ x_1=>jr0 (0<=wI ((↑xn:Int)-2)/\wI ((↑xn:Int)-2) < (↑4:Int)) ((ld ((ad n 0).add ((wI ((↑xn:Int)-2)).toNat*1))).bind λ v=>(j6k (jvv [(183,jib (jvv [(187,jik)] (jvv [(186,jin)] (jvv [(185,jiw)] (jvv [(184,jiz)] C))))),(124,jht)] (jvv [(187,jik)] (jvv [(186,jin)] (jvv [(185,jiw)] (jvv [(184,jiz)] C))))) v [vA [vU p,vS s.a s.n s.c],vS x xn xc]).bS λ s=>z5w 0 [vT [vS s.a s.n s.c,vI 0]]))).bind jzc:=by kernel_rfl
def j3v:List (Nat×Ann):=[(26,⟨[14],[.int .i64 0],[⟨.ex 0,[],[]⟩,⟨.ret,[8],[.int .i64 0]⟩]⟩)]
def jkq:=fnG [(63,jjw)] noC j3v (Tryz.f133.body.getD .skip) 32 [.tmp 8]
theorem jks:OKG 133 jkq:=λ hG=>jd8 ⟨jjy hG,trivial⟩ jy5 Tryz.func133
theorem jkr (m from' at' at'n at'c l ln lc):jkq [vP m,vI from',vS at' at'n at'c,vS l ln lc] =
 ((jw8 (λ st=>gL st 1 (hI st λ n=>bif decide (n < (↑at'n:Int)) then onX n at'n at' (λ a=>xI a n 1 λ n_1=>onX n ln l (λ a=>xU a n 1 λ n_2=>(jjw [vP m,vI (wI (from'+n_1)),vU n_2]).bI λ n_3=>bif n_3 != 0 then z5w 2 [vI n_3] else z5w 0 [vI (wI (n+1))])) else z5w 1 [])) [vI 0]).bind λ q=>z0t [gL q.snd 0 (z5w 0 [vI 0]),gL q.snd 1 (hI q.snd λ n=>z5w 0 [vI n])] (q.fst-1)).bind jzc:=by kernel_rfl
def joy:=fnG [(153,jo4),(117,jj5),(116,jmy),(124,jht)] noC [] (Tryz.f191.body.getD .skip) 39 [.tmp 8]
theorem jp0:OKG 191 joy:=λ hG=>jd8 ⟨jo6 hG,jj7 hG,jn0 hG,jhv hG,trivial⟩ jy5 Tryz.func191
theorem joz (p axes axesn axesc s0 s1 s2 s3 s4 x xn xc):joy [vU p,vS axes axesn axesc,.agg ⟨[vI s0,vB s1,vI s2,vI s3,vI s4]⟩,vS x xn xc] =
 (nB [vI s0,vB s1,vI s2,vI s3,vI s4] 29 λ n=>lI n 0 λ n_1=>lB n 1 λ b=>lI n 2 λ n_2=>lI n 3 λ n_3=>lI n 4 λ n=>(jo4 [vU p,vS axes axesn axesc,vA [vI n_1,vB b,vI n_2,vI n_3,vI n]]).bI λ n=>bif n != 0 then z5w 0 [vI n] else (jj5 [vS axes axesn axesc]).bS λ s=>(jmy [vS s.a s.n s.c]).bN 2 λ vs=>(hI vs λ n=>hI vs.tail λ n_4=>bif n_4 != 0 then z5w 0 [vI n_4] else bif n != (↑xn:Int) then z5w 0 [vI 6] else (jht [vU p,vS x xn xc]).bB λ b=>bif !b then z5w 0 [vI 7] else z5w 0 [vI 0])).bind jzc:=by kernel_rfl
def j3k:List (Nat×Ann):=[(250,⟨[12,39],[.int .u64 0,.int .i64 0],[⟨.ex 1,[12],[.int .u64 0]⟩]⟩)]
def jie:=fnG [(131,ji8 noC),(124,jht),(132,jhz),(194,jhr)] noC j3k (Tryz.f193.body.getD .skip) 56 [.tmp 8,.tmp 9]
theorem jig:OKG 193 jie:=λ hG=>jd8 ⟨jia hG _ jy5,jhv hG,ji1 hG,jhs hG,trivial⟩ jy5 Tryz.func193
theorem jif (p inv x xn xc w wn wc):jie [vU p,vB inv,vS x xn xc,vS w wn wc] =
 ((ji8 noC [vU p,vB inv,vS x xn xc]).bN 2 λ vs=>(hS vs λ s=>hI vs.tail λ n=>bif n != 0 then z5w 0 [vT [vU 0,vI n]] else bif (↑wn:Int) != (↑xn:Int) then z5w 0 [vT [vU 0,vI 6]] else (jht [vU p,vS w wn wc]).bB λ b=>bif !b then z5w 0 [vT [vU 0,vI 7]] else (jw8 (λ st=>gL st 2 (hU st λ n=>hI st.tail λ n_1=>bif decide (n_1 < (↑s.n:Int)) then onX n_1 s.n s.a (λ a=>xU a n_1 1 λ n_2=>onX n_1 wn w (λ a=>xU a n_1 1 λ n_3=>(jhz [vU p,vU n_2,vU n_3]).bU λ n_4=>(jhr [vU p,vU n,vU n_4]).bU λ n=>z5w 0 [vU n,vI (wI (n_1+1))])) else z5w 1 [vU n])) [vU 0,vI 0]).bind λ q=>gL q.snd 1 (hU q.snd λ n=>z5w 0 [vT [vU n,vI 0]]))).bind jzc:=by kernel_rfl
def j4j:List (Nat×Ann):=[(58,⟨[9,10,11,22],[.slice none 0 0,.slice none 0 0,.slice none 0 0,.int .i64 0],[⟨.ex 0,[9,10,11],[.slice none 0 0,.slice none 0 0,.slice none 0 0]⟩]⟩),(62,⟨[64],[.int .i64 0],[⟨.ex 2,[],[]⟩]⟩)]
def jog:=fnG [(132,jhz),(193,jie),(194,jhr)] noC j4j (Tryz.f192.body.getD .skip) 100 []
theorem joi:OKG 192 jog:=λ hG=>jd8 ⟨ji1 hG,jig hG,jhs hG,trivial⟩ jy5 Tryz.func192
theorem joh (g0 g0n g0c g1 g1n g1c g2 g2n g2c c0 c1 c2 c3 c4 c5 c6):jog [.agg ⟨[vS g0 g0n g0c,vS g1 g1n g1c,vS g2 g2n g2c]⟩,vP c0,vP c1,vP c2,vP c3,vP c4,vP c5,vP c6] =
 (nB [vS g0 g0n g0c,vS g1 g1n g1c,vS g2 g2n g2c] 128 λ n=>lS n 0 λ s=>(jw8 (λ st=>gL st 4 (hS st λ s_1=>hS st.tail λ s_2=>hS st.tail.tail λ s_3=>hI st.tail.tail.tail λ n_1=>bif decide (n_1 < (↑s.n:Int)) then onX n_1 s.n s.a (λ a=>xI a n_1 1 λ n_2=>jz2 c0 λ a=>dS a λ s=>lS n 1 λ s_4=>onX n_1 s_4.n s_4.a (λ a=>xI a n_1 1 λ n_3=>onX n_3 s.n s.a (λ a=>xU a n_3 1 λ n_4=>jz2 c1 λ a=>dS a λ s=>onX n_2 s.n s.a (λ a=>xU a n_2 1 λ n_5=>nB [vU n_5] 24 λ b=>(rdN (some (ad b 0)) 1).bind λ xs=>(j33 24 1 8 s_1.a s_1.n s_1.c 1 xs).bind λ q=>nB [vU n_4] 24 λ b=>(rdN (some (ad b 0)) 1).bind λ xs=>(j33 24 1 8 s_2.a s_2.n s_2.c 1 xs).bind λ q_1=>jz2 c2 λ a=>dU a λ n_6=>lS n 2 λ s=>onX n_1 s.n s.a (λ a=>xI a n_1 1 λ n=>(jhz [vU n_6,vU n_4,vU (wU (wU n+1))]).bU λ n=>nB [vU n] 24 λ b=>(rdN (some (ad b 0)) 1).bind λ xs=>(j33 24 1 8 s_3.a s_3.n s_3.c 1 xs).bind λ q_2=>z5w 0 [vS q.a q.n q.c,vS q_1.a q_1.n q_1.c,vS q_2.a q_2.n q_2.c,vI (wI (n_1+1))]))))) else z5w 1 [vS s_1.a s_1.n s_1.c,vS s_2.a s_2.n s_2.c,vS s_3.a s_3.n s_3.c])) [vS none 0 0,vS none 0 0,vS none 0 0,vI 0]).bind λ q=>gL q.snd 3 (hS q.snd λ s=>hS q.snd.tail λ s_1=>hS q.snd.tail.tail λ s_2=>nB [vS s_1.a s_1.n s_1.c,vS s_2.a s_2.n s_2.c] 22 λ b=>(jw8 (λ st=>gL st 1 (hI st λ n=>bif decide (n < (↑2:Int)) then jr0 (0<=n/\n < (↑2:Int)) (dS ((ad b 0).add (n.toNat*1)) λ s_3=>jz2 c2 λ a=>dU a λ n_1=>jr0 (0<=Int.ofNat 0/\0 < (↑s.n:Int)) (jz2 s.a λ a=>dU a λ n_2=>jr0 (0<=Int.ofNat 0/\0 < (↑s_3.n:Int)) (jz2 s_3.a λ a=>dU a λ n_3=>(jhz [vU n_1,vU n_2,vU n_3]).bU λ n_4=>jz2 c3 λ a=>dB (a.add 1) λ b=>bif !b then jz2 c2 λ a=>dU a λ n_5=>jz2 c4 λ a=>dB a λ b=>(jie [vU n_5,vB b,vS s.a s.n s.c,vS s_3.a s_3.n s_3.c]).bN 2 λ vs=>(hU vs λ n_6=>hI vs.tail λ n_7=>bif n_7 != 0 then jz2 c5 λ a=>sL a [vI n_7] λ x=>jz2 c2 λ a=>dU a λ n_8=>jz2 c6 λ a=>jr0 (0<=n/\n < (↑2:Int)) (xU a n 1 λ n_9=>(jhr [vU n_8,vU n_9,vU n_6]).bU λ n_10=>jz2 c6 λ a=>jr0 (0<=n/\n < (↑2:Int)) (sL (ax a n 1) [vU n_10] λ x=>z5w 0 [vI (wI (n+1))])) else jz2 c2 λ a=>dU a λ n_8=>jz2 c6 λ a=>jr0 (0<=n/\n < (↑2:Int)) (xU a n 1 λ n_9=>(jhr [vU n_8,vU n_9,vU n_6]).bU λ n_10=>jz2 c6 λ a=>jr0 (0<=n/\n < (↑2:Int)) (sL (ax a n 1) [vU n_10] λ x=>z5w 0 [vI (wI (n+1))]))) else jz2 c2 λ a=>dU a λ n_5=>jz2 c6 λ a=>jr0 (0<=n/\n < (↑2:Int)) (xU a n 1 λ n_6=>(jhr [vU n_5,vU n_6,vU n_4]).bU λ n_7=>jz2 c6 λ a=>jr0 (0<=n/\n < (↑2:Int)) (sL (ax a n 1) [vU n_7] λ x=>z5w 0 [vI (wI (n+1))]))))) else z5w 1 [])) [vI 0]).bind λ q=>gL q.snd 0 (z5w 0 [vT []]))).bind jzc:=by kernel_rfl
def jod:=fnG [(191,joy),(82,joj),(181,jop (jvv [(192,jog)] noC))] (jvv [(192,jog)] noC) [] (Tryz.f134.body.getD .skip) 50 [.cell 10 40,.tmp 11]
theorem jof:OKG 134 jod:=λ hG=>jd8 ⟨jp0 hG,jol hG,jor hG _ (jvx (L:=[(192,jog)]) jy5 ⟨joi hG,trivial⟩),trivial⟩ (jvx (L:=[(192,jog)]) jy5 ⟨joi hG,trivial⟩) Tryz.func134
theorem joe (p axes axesn axesc inv s0 s1 s2 s3 s4 x xn xc):jod [vU p,vS axes axesn axesc,vB inv,.agg ⟨[vI s0,vB s1,vI s2,vI s3,vI s4]⟩,vS x xn xc] =
 (nB [vU p] 24 λ n=>nB [vB inv] 4 λ n_1=>nB [vI s0,vB s1,vI s2,vI s3,vI s4] 29 λ n_2=>nB [vS x xn xc] 22 λ n_3=>nB [vU 0,vU 0] 40 λ n_4=>lU n 0 λ n_5=>lI n_2 0 λ n_6=>lB n_2 1 λ b=>lI n_2 2 λ n_7=>lI n_2 3 λ n_8=>lI n_2 4 λ n_9=>lS n_3 0 λ s=>(joy [vU n_5,vS axes axesn axesc,vA [vI n_6,vB b,vI n_7,vI n_8,vI n_9],vS s.a s.n s.c]).bI λ n_10=>bif n_10 != 0 then sL (ad n_4 0) [vU 0,vU 0] λ x=>lU n_4 0 λ n=>lU n_4 1 λ n_11=>z5w 0 [vT [vA [vU n,vU n_11],vI n_10]] else lU n 0 λ n_11=>lB n_1 0 λ b=>lI n_2 0 λ n_12=>lB n_2 1 λ b_1=>lI n_2 2 λ n_13=>lI n_2 3 λ n_14=>lI n_2 4 λ n_15=>(joj [vU n_11,vS axes axesn axesc,vB b,vA [vI n_12,vB b_1,vI n_13,vI n_14,vI n_15]]).bN 2 λ vs=>(hS vs λ s=>hI vs.tail λ n_16=>nB [vS none 0 0] 22 λ n_17=>sL (ad n_17 0) [vS s.a s.n s.c] λ x=>bif n_16 != 0 then sL (ad n_4 0) [vU 0,vU 0] λ x=>lU n_4 0 λ n=>lU n_4 1 λ n_18=>z5w 0 [vT [vA [vU n,vU n_18],vI n_16]] else nB [vU 0,vU 0] 40 λ n_18=>nB [vI 0] 37 λ n_19=>sL (ad n_19 0) [vI 0] λ x=>lI n_2 0 λ n_20=>lB n_2 1 λ b=>lI n_2 2 λ n_21=>lI n_2 3 λ n_22=>lI n_2 4 λ n_23=>(jop (jvv [(192,jog)] noC) [vS axes axesn axesc,vA [vI n_20,vB b,vI n_21,vI n_22,vI n_23],Value.func (Fn.func 192) (ar ([])) (ar ([vP (some (ad n_17 0)),vP (some (ad n_3 0)),vP (some (ad n 0)),vP (some (ad n_2 0)),vP (some (ad n_1 0)),vP (some (ad n_19 0)),vP (some (ad n_18 0))]))]).bI λ n=>bif n == 0 then lI n_19 0 λ n=>bif n != 0 then sL (ad n_4 0) [vU 0,vU 0] λ x=>lU n_4 0 λ n_24=>lU n_4 1 λ n_25=>z5w 0 [vT [vA [vU n_24,vU n_25],vI n]] else lU n_18 0 λ n=>lU n_18 1 λ n_24=>sL (ad n_4 0) [vU n,vU n_24] λ x=>lU n_4 0 λ n=>lU n_4 1 λ n_25=>z5w 0 [vT [vA [vU n,vU n_25],vI 0]] else bif n != 0 then sL (ad n_4 0) [vU 0,vU 0] λ x=>lU n_4 0 λ n_24=>lU n_4 1 λ n_25=>z5w 0 [vT [vA [vU n_24,vU n_25],vI n]] else lU n_18 0 λ n=>lU n_18 1 λ n_24=>sL (ad n_4 0) [vU n,vU n_24] λ x=>lU n_4 0 λ n=>lU n_4 1 λ n_25=>z5w 0 [vT [vA [vU n,vU n_25],vI 0]])).bind jzc:=by kernel_rfl
def j3t:List (Nat×Ann):=[(2042,⟨[22,64],[.int .i64 0,.int .i64 0],[⟨.ex 0,[22],[.int .i64 0]⟩]⟩),(511,⟨[],[],[⟨.norm,[],[]⟩,⟨.ret,[17],[.int .i64 0]⟩]⟩),(1022,⟨[],[],[⟨.norm,[95],[.bool false]⟩]⟩),(16378,⟨[101],[.int .i64 0],[⟨.ex 2,[],[]⟩,⟨.ret,[17],[.int .i64 0]⟩]⟩),(134171898,⟨[133],[.int .i64 0],[⟨.ex 4,[],[]⟩]⟩),(33542975,⟨[],[],[⟨.norm,[28],[.slice none 0 0]⟩,⟨.ret,[17],[.int .i64 0]⟩]⟩),(536687610,⟨[172],[.int .i64 0],[⟨.ex 6,[],[]⟩]⟩)]
def jkh:=fnG [(126,jo7),(82,joj),(127,jkk),(128,jkn (jvv [(129,jjq)] noC)),(130,ji2),(131,ji8 (jvv [(129,jjq)] noC)),(132,jhz),(133,jkq),(134,jod)] (jvv [(129,jjq)] noC) j3t (Tryz.f60.body.getD .skip) 230 [.cell 16 40,.tmp 17]
theorem jkj:OKG 60 jkh:=λ hG=>jd8 ⟨jo9 hG,jol hG,jkm hG,jkp hG _ (jvx (L:=[(129,jjq)]) jy5 ⟨jjs hG,trivial⟩),ji4 hG,jia hG _ (jvx (L:=[(129,jjq)]) jy5 ⟨jjs hG,trivial⟩),ji1 hG,jks hG,jof hG,trivial⟩ (jvx (L:=[(129,jjq)]) jy5 ⟨jjs hG,trivial⟩) Tryz.func60
def jtk:Option Addr->Int->Int->Nat->Nat->Int->Nat->Sl->Nat×List Value->M (Nat×List Value):=
 λ m p dst n n_1 n_2 n_3 s q=>z0t [gL q.snd 1 (hS q.snd λ s_1=>(jw8 (λ st=>gL st 1 (hI st λ n=>bif decide (n < (↑s.n:Int)) then onX n s.n s.a (λ a=>xU a n 1 λ n_4=>onX n s_1.n s_1.a (λ a=>xU a n 1 λ n_5=>(jhz [vU p,vU n_5,vU n_4]).bU λ n_6=>onX n s_1.n s_1.a (λ a=>sL (ax a n 1) [vU n_6] λ x=>z5w 0 [vI (wI (n+1))]))) else z5w 1 [])) [vI 0]).bind λ q=>gL q.snd 0 (lS n_3 2 λ s=>(jkq [vP m,vI dst,vS s.a s.n s.c,vS s_1.a s_1.n s_1.c]).bI λ n_4=>bif n_4 != 0 then lU n_1 0 λ n_5=>lU n_1 1 λ n_6=>sL (ad n 0) [vU n_5,vU n_6] λ x=>z5w 2 [vI n_4] else z5w 0 [vI (wI (n_2+1))])),gL q.snd 1 (hI q.snd λ n=>z5w 2 [vI n])] q.fst
def jtl:Option Addr->Int->Option Addr->Nat->Nat->Bool->Int->Int->Int->Nat->Nat->Nat->Sl->Int->Nat×List Value->M (Nat×List Value):=
 λ m p axes axesn axesc inv src dst tab n n_1 n_2 s n_3 q=>z0t [gL q.snd 0 (jr0 (0<=n_3/\n_3<=n_3/\n_3<=281474976710656/\(↑8:Int)*n_3<=281474976710656/\[vU 0].all jcs=true) (nB (zht n_3.toNat [vU 0]) 24 λ n_4=>(jw8 (λ st=>gL st 1 (hI st λ n_5=>bif decide (n_5 < (↑s.n:Int)) then onX n_5 s.n s.a (λ a=>xS a n_5 3 λ s=>dS ((ax a n_5 3).add 1) λ s_1=>dS ((ax a n_5 3).add 2) λ s_2=>nB [vS none 0 0,vS none 0 0,vS none 0 0] 128 λ n_6=>sL (ad n_6 0) [vS s.a s.n s.c,vS s_1.a s_1.n s_1.c,vS s_2.a s_2.n s_2.c] λ x=>lS n_6 0 λ s=>(jkn (jvv [(129,jjq)] noC) [Value.func (Fn.func 129) (ar ([vP m])) (ar ([])),vI src,vS s.a s.n s.c]).bN 2 λ vs=>(hS vs λ s=>hI vs.tail λ n_7=>bif n_7 != 0 then lU n_2 0 λ n=>lU n_2 1 λ n_8=>sL (ad n_1 0) [vU n,vU n_8] λ x=>z5w 2 [vI n_7] else lS n_6 1 λ s_3=>(jkn (jvv [(129,jjq)] noC) [Value.func (Fn.func 129) (ar ([vP m])) (ar ([])),vI tab,vS s_3.a s_3.n s_3.c]).bN 2 λ vs=>(hS vs λ s_4=>hI vs.tail λ n_8=>bif n_8 != 0 then lU n_2 0 λ n=>lU n_2 1 λ n_9=>sL (ad n_1 0) [vU n,vU n_9] λ x=>z5w 2 [vI n_8] else (jw8 (λ st=>gL st 1 (hI st λ n=>bif decide (n < (↑s.n:Int)) then onX n s.n s.a (λ a=>xU a n 1 λ n_9=>(ji2 [vU p,vU n_9]).bU λ n_10=>onX n s.n s.a (λ a=>sL (ax a n 1) [vU n_10] λ x=>lS n_6 0 λ s_5=>onX n s_5.n s_5.a (λ a=>xI a n 1 λ n_11=>onX n s.n s.a (λ a=>xU a n 1 λ n_12=>jr0 (0<=n_11/\n_11 < (↑n_3.toNat:Int)) (sL ((ad n_4 0).add (n_11.toNat*1)) [vU n_12] λ x=>z5w 0 [vI (wI (n+1))]))))) else z5w 1 [])) [vI 0]).bind λ q=>gL q.snd 0 ((lB n 1 λ b=>bif !b then (ji8 (jvv [(129,jjq)] noC) [vU p,vB inv,vS s.a s.n s.c]).bN 2 λ vs=>(hS vs λ s=>hI vs.tail λ n=>bif n != 0 then lU n_2 0 λ n_9=>lU n_2 1 λ n_10=>sL (ad n_1 0) [vU n_9,vU n_10] λ x=>z5w 1 [vI n] else z5w 0 [vS s.a s.n s.c]) else z5w 0 [vS s.a s.n s.c]).bind (jtk m p dst n_1 n_2 n_5 n_6 s_4))))) else z5w 1 [])) [vI 0]).bind λ q=>z0t [gL q.snd 0 (lI n 0 λ n_5=>lB n 1 λ b=>lI n 2 λ n_6=>lI n 3 λ n_7=>lI n 4 λ n=>(jod [vU p,vS axes axesn axesc,vB inv,vA [vI n_5,vB b,vI n_6,vI n_7,vI n],vS (some (ad n_4 0)) n_3.toNat n_3.toNat]).bN 2 λ vs=>(hA vs λ vs_1=>gL vs_1 2 (hU vs_1 λ n=>hU vs_1.tail λ n_8=>hI vs.tail λ n_9=>nB [vU 0,vU 0] 40 λ n_10=>sL (ad n_10 0) [vU n,vU n_8] λ x=>bif n_9 != 0 then lU n_2 0 λ n=>lU n_2 1 λ n_11=>sL (ad n_1 0) [vU n,vU n_11] λ x=>lU n_1 0 λ n=>lU n_1 1 λ n_12=>z5w 0 [vT [vA [vU n,vU n_12],vI n_9]] else lU n_10 0 λ n=>lU n_10 1 λ n_11=>lU n_10 0 λ n_12=>lU n_10 1 λ n_13=>nB [vI 0,vI 1,vI 2,vI 3,vI 4,vI 5] 3 λ b=>nB [vU n,vU n,vU n,vU n_11,vU n_11,vU n_11] 24 λ b_1=>(jkq [vP m,vI (wI (dst+n_3)),vS (some (ad b 0)) 6 6,vS (some (ad b_1 0)) 6 6]).bI λ n=>(chk (lU n_10 0 λ n=>lU n_10 1 λ n_14=>M.ret (vA [vU n,vU n_14])) (vA [vU n_12,vU n_13])).bind λ u=>sL (ad n_1 0) [vU n_12,vU n_13] λ x=>lU n_1 0 λ n_14=>lU n_1 1 λ n_15=>z5w 0 [vT [vA [vU n_14,vU n_15],vI n]]))),gL q.snd 1 (hI q.snd λ n=>lU n_1 0 λ n_5=>lU n_1 1 λ n_6=>z5w 0 [vT [vA [vU n_5,vU n_6],vI n]])] (q.fst-1))),gL q.snd 1 (hI q.snd λ n=>lU n_1 0 λ n_4=>lU n_1 1 λ n_5=>z5w 0 [vT [vA [vU n_4,vU n_5],vI n]])] q.fst
theorem jki (m p axes axesn axesc inv s0 s1 s2 s3 s4 src dst tab):jkh [vP m,vU p,vS axes axesn axesc,vB inv,.agg ⟨[vI s0,vB s1,vI s2,vI s3,vI s4]⟩,vI src,vI dst,vI tab] =
 (nB [vI s0,vB s1,vI s2,vI s3,vI s4] 29 λ n=>nB [vU 0,vU 0] 40 λ n_1=>nB [vU 0,vU 0] 40 λ n_2=>lI n 0 λ n_3=>lB n 1 λ b=>lI n 2 λ n_4=>lI n 3 λ n_5=>lI n 4 λ n_6=>(jo7 [vU p,vS axes axesn axesc,vA [vI n_3,vB b,vI n_4,vI n_5,vI n_6]]).bN 2 λ vs=>(hS vs λ s=>hI vs.tail λ n_7=>bif n_7 != 0 then lU n_2 0 λ n=>lU n_2 1 λ n_8=>sL (ad n_1 0) [vU n,vU n_8] λ x=>lU n_1 0 λ n=>lU n_1 1 λ n_9=>z5w 0 [vT [vA [vU n,vU n_9],vI n_7]] else lI n 0 λ n_8=>lB n 1 λ b=>lI n 2 λ n_9=>lI n 3 λ n_10=>lI n 4 λ n_11=>(joj [vU p,vS axes axesn axesc,vB inv,vA [vI n_8,vB b,vI n_9,vI n_10,vI n_11]]).bN 2 λ vs=>(hS vs λ s_1=>hI vs.tail λ n_12=>bif n_12 != 0 then lU n_2 0 λ n=>lU n_2 1 λ n_13=>sL (ad n_1 0) [vU n,vU n_13] λ x=>lU n_1 0 λ n=>lU n_1 1 λ n_14=>z5w 0 [vT [vA [vU n,vU n_14],vI n_12]] else (jw8 (λ st=>gL st 2 (hI st λ n=>hI st.tail λ n_13=>bif decide (n_13 < (↑s.n:Int)) then onX n_13 s.n s.a (λ a=>xS a n_13 3 λ s=>dS ((ax a n_13 3).add 1) λ s_2=>dS ((ax a n_13 3).add 2) λ s_3=>nB [vS none 0 0,vS none 0 0,vS none 0 0] 128 λ n_14=>sL (ad n_14 0) [vS s.a s.n s.c,vS s_2.a s_2.n s_2.c,vS s_3.a s_3.n s_3.c] λ x=>lS n_14 0 λ s=>z5w 0 [vI (wI (n+(↑s.n:Int))),vI (wI (n_13+1))]) else z5w 1 [vI n])) [vI 0,vI 0]).bind λ q=>gL q.snd 1 (hI q.snd λ n_13=>(((jkk [vP m,vI src,vI (wI (n_13+6))]).bB λ b=>bif !b then z5w 0 [vB true] else (jkk [vP m,vI dst,vI (wI (n_13+6))]).bB λ b=>bif !b then z5w 0 [vB true] else (jkk [vP m,vI tab,vI (↑s_1.n:Int)]).bB λ b=>z5w 0 [vB !b]).bind λ q=>gL q.snd 1 (hB q.snd λ b=>bif b then lU n_2 0 λ n=>lU n_2 1 λ n_14=>sL (ad n_1 0) [vU n,vU n_14] λ x=>z5w 1 [vI 1] else z5w 0 [])).bind (jtl m p axes axesn axesc inv src dst tab n n_1 n_2 s n_13))))).bind jzc:=by kernel_rfl
def j43:List (Nat×Ann):=[(58,⟨[3,8],[.slice none 0 0,.int .i64 0],[⟨.ex 0,[3],[.slice none 0 0]⟩]⟩)]
def jlw:=fnG [] noC j43 (Tryz.f68.body.getD .skip) 19 [.tmp 2]
theorem jly:OKG 68 jlw:=λ hG=>jd8 trivial jy5 Tryz.func68
theorem jlx (axes axesn axesc):jlw [vS axes axesn axesc] =
 ((jw8 (λ st=>gL st 2 (hS st λ s=>hI st.tail λ n=>bif decide (n < (↑axesn:Int)) then onX n axesn axes (λ a=>xI a n 2 λ n_1=>dB ((ax a n 2).add 1) λ b=>nB [vI 0,vB false] 113 λ n_2=>sL (ad n_2 0) [vI n_1,vB b] λ x=>lI n_2 0 λ n_3=>nB [vI n_3] 3 λ b=>(rdN (some (ad b 0)) 1).bind λ xs=>(j33 3 1 8 s.a s.n s.c 1 xs).bind λ q=>z5w 0 [vS q.a q.n q.c,vI (wI (n+1))]) else z5w 1 [vS s.a s.n s.c])) [vS none 0 0,vI 0]).bind λ q=>gL q.snd 1 (hS q.snd λ s=>z5w 0 [vS s.a s.n s.c])).bind jzc:=by kernel_rfl
def j42:List (Nat×Ann):=[(3,⟨[],[],[⟨.norm,[],[]⟩,⟨.ret,[2,3],[.int .i64 0,.int .i64 0]⟩]⟩),(122,⟨[4,17],[.int .i64 0,.int .i64 0],[⟨.ex 0,[4],[.int .i64 0]⟩,⟨.ret,[2,3],[.int .i64 0,.int .i64 0]⟩]⟩)]
def jlt:=fnG [] noC j42 (Tryz.f67.body.getD .skip) 34 [.tmp 2,.tmp 3]
theorem jlv:OKG 67 jlt:=λ hG=>jd8 trivial jy5 Tryz.func67
theorem jlu (dims dimsn dimsc):jlt [vS dims dimsn dimsc] =
 ((bif decide ((↑dimsn:Int) < 1) then z5w 1 [vI 0,vI 3] else bif decide (4 < (↑dimsn:Int)) then z5w 1 [vI 0,vI 3] else z5w 0 []).bind λ q=>z0t [gL q.snd 0 ((jw8 (λ st=>gL st 2 (hI st λ n=>hI st.tail λ n_1=>bif decide (n_1 < (↑dimsn:Int)) then onX n_1 dimsn dims (λ a=>xI a n_1 1 λ n_2=>bif decide (n_2 < 1) then z5w 2 [vI 0,vI 3] else bif decide (4096 < n_2) then z5w 2 [vI 0,vI 3] else z5w 0 [vI (wI (n*n_2)),vI (wI (n_1+1))]) else z5w 1 [vI n])) [vI 1,vI 0]).bind λ q=>z0t [gL q.snd 1 (hI q.snd λ n=>bif decide (4096 < n) then z5w 0 [vT [vI 0,vI 3]] else z5w 0 [vT [vI n,vI 0]]),gL q.snd 2 (hI q.snd λ n=>hI q.snd.tail λ n_1=>z5w 0 [vT [vI n,vI n_1]])] (q.fst-1)),gL q.snd 2 (hI q.snd λ n=>hI q.snd.tail λ n_1=>z5w 0 [vT [vI n,vI n_1]])] q.fst).bind jzc:=by kernel_rfl
def jlz:=fnG [(68,jlw),(67,jlt)] noC [] (Tryz.f61.body.getD .skip) 25 [.tmp 4]
theorem jm1:OKG 61 jlz:=λ hG=>jd8 ⟨jly hG,jlv hG,trivial⟩ jy5 Tryz.func61
theorem jm0 (axes axesn axesc most):jlz [vS axes axesn axesc,vI most] =
 ((jlw [vS axes axesn axesc]).bS λ s=>(jlt [vS s.a s.n s.c]).bN 2 λ vs=>(hI vs λ n=>hI vs.tail λ n_1=>bif decide ((↑axesn:Int)<=10) then bif n_1 != 0 then z5w 0 [vB true] else z5w 0 [vB (decide (n<=most))] else z5w 0 [vB false])).bind jzc:=by kernel_rfl
def j41:List (Nat×Ann):=[(58,⟨[13],[.int .i64 0],[⟨.ex 0,[],[]⟩,⟨.ret,[4],[.bool false]⟩]⟩)]
def jlq:=fnG [] noC j41 (Tryz.f25.body.getD .skip) 26 [.tmp 4]
theorem jls:OKG 25 jlq:=λ hG=>jd8 trivial jy5 Tryz.func25
theorem jlr (a an ac b bn bc):jlq [vS a an ac,vS b bn bc] =
 (bif (↑an:Int) != (↑bn:Int) then z5w 0 [vB false] else (jw8 (λ st=>gL st 1 (hI st λ n=>bif decide (n < (↑an:Int)) then onX n an a (λ a=>xU a n 1 λ n_1=>onX n bn b (λ a=>xU a n 1 λ n_2=>bif n_1 != n_2 then z5w 2 [vB false] else z5w 0 [vI (wI (n+1))])) else z5w 1 [])) [vI 0]).bind λ q=>z0t [gL q.snd 0 (z5w 0 [vB true]),gL q.snd 1 (hB q.snd λ b=>z5w 0 [vB b])] (q.fst-1)).bind jzc:=by kernel_rfl
def jqg:=fnG [(127,jkk)] noC [] (Tryz.f83.body.getD .skip) 10 [.tmp 2]
theorem jqi:OKG 83 jqg:=λ hG=>jd8 ⟨jkm hG,trivial⟩ jy5 Tryz.func83
theorem jqh (r0 r1 r2):jqg [.agg ⟨[vP r0,vI r1,vI r2]⟩] =
 (nB [vP r0,vI r1,vI r2] 145 λ n=>lP n 0 λ p=>lI n 1 λ n_1=>lI n 2 λ n=>(jkk [vP p,vI n_1,vI n]).bB λ b=>z5w 0 [vB b]).bind jzc:=by kernel_rfl
def j4v:List (Nat×Ann):=[(51,⟨[],[],[⟨.norm,[15],[.bool false]⟩]⟩)]
def jq7:=fnG [(167,jhw),(127,jkk)] noC j4v (Tryz.f157.body.getD .skip) 31 [.tmp 10]
theorem jq9:OKG 157 jq7:=λ hG=>jd8 ⟨jhy hG,jkm hG,trivial⟩ jy5 Tryz.func157
theorem jq8 (m p n at' more):jq7 [vP m,vU p,vI n,vI at',vI more] =
 ((jhw [vU p]).bB λ b=>bif !b then z5w 0 [vI 2] else (bif decide (n < 1) then z5w 0 [vB true] else bif decide (4096 < n) then z5w 0 [vB true] else (jkk [vP m,vI at',vI (wI (n+more))]).bB λ b=>z5w 0 [vB !b]).bind λ q=>gL q.snd 1 (hB q.snd λ b=>bif b then z5w 0 [vI 1] else z5w 0 [vI 0])).bind jzc:=by kernel_rfl
def j4w:List (Nat×Ann):=[(58,⟨[13],[.int .i64 0],[⟨.ex 0,[],[]⟩,⟨.ret,[2,3],[.slice none 0 0,.int .i64 0]⟩]⟩)]
def jqd:=fnG [(129,jjq)] noC j4w (Tryz.f93.body.getD .skip) 35 [.tmp 2,.tmp 3]
theorem jqf:OKG 93 jqd:=λ hG=>jd8 ⟨jjs hG,trivial⟩ jy5 Tryz.func93
theorem jqe (r0 r1 r2):jqd [.agg ⟨[vP r0,vI r1,vI r2]⟩] =
 (nB [vP r0,vI r1,vI r2] 145 λ n=>lI n 2 λ n_1=>jr0 (0<=n_1/\n_1<=n_1/\n_1<=281474976710656/\(↑8:Int)*n_1<=281474976710656/\[vU 0].all jcs=true) (nB (zht n_1.toNat [vU 0]) 24 λ n_2=>(jw8 (λ st=>gL st 1 (hI st λ n_3=>bif decide (n_3 < (↑n_1.toNat:Int)) then lP n 0 λ p=>lI n 1 λ n=>(jjq [vP p,vI (wI (n+n_3))]).bN 2 λ vs=>(hU vs λ n=>hI vs.tail λ n_4=>bif n_4 != 0 then z5w 2 [vS none 0 0,vI n_4] else jr0 (0<=n_3/\n_3 < (↑n_1.toNat:Int)) (sL ((ad n_2 0).add (n_3.toNat*1)) [vU n] λ x=>z5w 0 [vI (wI (n_3+1))])) else z5w 1 [])) [vI 0]).bind λ q=>z0t [gL q.snd 0 (z5w 0 [vT [vS (some (ad n_2 0)) n_1.toNat n_1.toNat,vI 0]]),gL q.snd 2 (hS q.snd λ s=>hI q.snd.tail λ n=>z5w 0 [vT [vS s.a s.n s.c,vI n]])] (q.fst-1))).bind jzc:=by kernel_rfl
def jg9:=fnG [(167,jhw)] noC [] (Tryz.f208.body.getD .skip) 28 [.tmp 4,.tmp 5,.tmp 6]
theorem jgb:OKG 208 jg9:=λ hG=>jd8 ⟨jhy hG,trivial⟩ jy5 Tryz.func208
theorem jga (p c cn cc):jg9 [vU p,vS c cn cc] =
 ((jhw [vU p]).bB λ b=>bif !b then z5w 0 [vT [vS none 0 0,vS none 0 0,vI 2]] else bif decide (wI ((↑cn:Int)-6) < 1) then z5w 0 [vT [vS none 0 0,vS none 0 0,vI 6]] else bif decide (4096 < wI ((↑cn:Int)-6)) then z5w 0 [vT [vS none 0 0,vS none 0 0,vI 6]] else (j8c true true 1 c cc (↑0:Int) (wI ((↑cn:Int)-6)) (↑cc:Int)).bind λ s=>(j8c true true 1 c cc (wI ((↑cn:Int)-6)) (↑cn:Int) (↑cc:Int)).bind λ s_1=>z5w 0 [vT [vS s.a s.n s.c,vS s_1.a s_1.n s_1.c,vI 0]]).bind jzc:=by kernel_rfl
def j4z:List (Nat×Ann):=[(26,⟨[8],[.int .i64 0],[⟨.ex 0,[],[]⟩,⟨.ret,[2,3,4],[.int .u64 0,.slice none 0 0,.bool false]⟩]⟩)]
def ziz:=fnG [] noC j4z (Tryz.f268.body.getD .skip) 36 [.tmp 2,.tmp 3,.tmp 4]
theorem zj1:OKG 268 ziz:=λ hG=>jd8 trivial jy5 Tryz.func268
theorem zj0 (c0 c1 c2):ziz [.agg ⟨[vU c0,vU c1,vU c2]⟩] =
 (nB [vU c0,vU c1,vU c2] 311 λ n=>(jw8 (λ st=>gL st 1 (hI st λ n_1=>bif decide (n_1 < 3) then jr0 (0<=(wI (n_1+1)).tmod 3/\(wI (n_1+1)).tmod 3 < (↑3:Int)) ((ld ((ad n 0).add (((wI (n_1+1)).tmod 3).toNat*1))).bU λ n_2=>jr0 (0<=(wI (n_1+2)).tmod 3/\(wI (n_1+2)).tmod 3 < (↑3:Int)) ((ld ((ad n 0).add (((wI (n_1+2)).tmod 3).toNat*1))).bU λ n_3=>bif n_2 != n_3 then z5w 0 [vI (wI (n_1+1))] else jr0 (0<=n_1/\n_1 < (↑3:Int)) (dU ((ad n 0).add (n_1.toNat*1)) λ n=>bif n_2 == n then z5w 2 [vU n_2,vS none 0 0,vB true] else nB [vI n_1] 3 λ b=>z5w 2 [vU n_2,vS (some (ad b 0)) 1 1,vB true]))) else z5w 1 [])) [vI 0]).bind λ q=>z0t [gL q.snd 0 (z5w 0 [vT [vU 0,vS none 0 0,vB false]]),gL q.snd 3 (hU q.snd λ n=>hS q.snd.tail λ s=>hB q.snd.tail.tail λ b=>z5w 0 [vT [vU n,vS s.a s.n s.c,vB b]])] (q.fst-1)).bind jzc:=by kernel_rfl
def ziw:=fnG [(268,ziz)] noC [] (Tryz.f247.body.getD .skip) 23 [.tmp 2,.tmp 3,.tmp 4]
theorem ziy:OKG 247 ziw:=λ hG=>jd8 ⟨zj1 hG,trivial⟩ jy5 Tryz.func247
theorem zix (l ln lc):ziw [vS l ln lc] =
 (bif (↑ln:Int) != 3 then z5w 0 [vT [vU 0,vS none 0 0,vI 6]] else jr0 (3<=ln) (jz2 l λ a=>dU a λ n=>dU (a.add 1) λ n_1=>dU (a.add 2) λ n_2=>(ziz [vA [vU n,vU n_1,vU n_2]]).bN 3 λ vs=>(hU vs λ n=>hS vs.tail λ s=>hB vs.tail.tail λ b=>bif !b then z5w 0 [vT [vU 0,vS none 0 0,vI 10]] else z5w 0 [vT [vU n,vS s.a s.n s.c,vI 0]]))).bind jzc:=by kernel_rfl
def j4x:List (Nat×Ann):=[(250,⟨[6,28],[.slice none 0 0,.int .i64 0],[⟨.ex 1,[6],[.slice none 0 0]⟩,⟨.ret,[2,3,4],[.slice none 0 0,.slice none 0 0,.int .i64 0]⟩]⟩),(512830,⟨[6,52],[.slice none 0 0,.int .i64 0],[⟨.ex 3,[6],[.slice none 0 0]⟩]⟩)]
def ziq:=fnG [(247,ziw)] noC j4x (Tryz.f209.body.getD .skip) 76 [.tmp 2,.tmp 3,.tmp 4]
theorem zis:OKG 209 ziq:=λ hG=>jd8 ⟨ziy hG,trivial⟩ jy5 Tryz.func209
theorem zir (l ln lc):ziq [vS l ln lc] =
 (bif decide (3072 < (↑ln:Int)) then z5w 0 [vT [vS none 0 0,vS none 0 0,vI 1]] else bif (↑ln:Int).tmod 3 != 0 then z5w 0 [vT [vS none 0 0,vS none 0 0,vI 6]] else jr0 (0<=wI ((↑ln:Int).tdiv 3)/\wI ((↑ln:Int).tdiv 3)<=wI ((↑ln:Int).tdiv 3)/\wI ((↑ln:Int).tdiv 3)<=281474976710656/\(↑8:Int)*wI ((↑ln:Int).tdiv 3)<=281474976710656/\[vU 0].all jcs=true) (nB (zht (wI ((↑ln:Int).tdiv 3)).toNat [vU 0]) 24 λ n=>(jw8 (λ st=>gL st 2 (hS st λ s=>hI st.tail λ n_1=>bif decide (n_1 < (↑(wI ((↑ln:Int).tdiv 3)).toNat:Int)) then (j8c true true 1 l lc (wI (n_1*3)) (wI (wI (n_1+1)*3)) (↑lc:Int)).bind λ s_1=>(ziw [vS s_1.a s_1.n s_1.c]).bN 3 λ vs=>(hU vs λ n_2=>hS vs.tail λ s_2=>hI vs.tail.tail λ n_3=>bif n_3 != 0 then z5w 2 [vS none 0 0,vS none 0 0,vI n_3] else jr0 (0<=n_1/\n_1 < (↑(wI ((↑ln:Int).tdiv 3)).toNat:Int)) (sL ((ad n 0).add (n_1.toNat*1)) [vU n_2] λ x=>(jw8 (λ st=>gL st 2 (hS st λ s=>hI st.tail λ n=>bif decide (n < (↑s_2.n:Int)) then onX n s_2.n s_2.a (λ a=>xI a n 1 λ n_4=>onX (wI (wI (n_1*3)+n_4)) ln l (λ a=>(ld (a.add ((wI (wI (n_1*3)+n_4)).toNat*1))).bU λ n_5=>nB [vI (wI (wI (n_1*3)+n_4)),vU n_5,vU n_2] 78 λ b=>(rdN (some (ad b 0)) 3).bind λ xs=>(j33 78 3 24 s.a s.n s.c 1 xs).bind λ q=>z5w 0 [vS q.a q.n q.c,vI (wI (n+1))])) else z5w 1 [vS s.a s.n s.c])) [vS s.a s.n s.c,vI 0]).bind λ q=>gL q.snd 1 (hS q.snd λ s=>z5w 0 [vS s.a s.n s.c,vI (wI (n_1+1))]))) else z5w 1 [vS s.a s.n s.c])) [vS none 0 0,vI 0]).bind λ q=>z0t [gL q.snd 1 (hS q.snd λ s=>z5w 0 [vT [vS (some (ad n 0)) (wI ((↑ln:Int).tdiv 3)).toNat (wI ((↑ln:Int).tdiv 3)).toNat,vS s.a s.n s.c,vI 0]]),gL q.snd 3 (hS q.snd λ s=>hS q.snd.tail λ s_1=>hI q.snd.tail.tail λ n=>z5w 0 [vT [vS s.a s.n s.c,vS s_1.a s_1.n s_1.c,vI n]])] (q.fst-1))).bind jzc:=by kernel_rfl
def j3a:List (Nat×Ann):=[(58,⟨[4,5],[.int .u64 0,.int .i64 0],[⟨.ex 0,[4],[.int .u64 0]⟩]⟩)]
def jgf (C:FuncId->List Value->M Value):=fnG [] C j3a (Tryz.f219.body.getD .skip) 21 [.tmp 3]
theorem jgh {G:List (Nat×Obj)} (hG:GT G) (C:FuncId->List Value->M Value) (hC:COK Tryz.prog G C):j0i Tryz.prog G 219 (jgf C):=jd8 trivial hC Tryz.func219
theorem jgg (C step c0):jgf C [step,vP c0] =
 (jz2 c0 λ a=>dS a λ s=>(jw8 (λ st=>gL st 2 (hU st λ n=>hI st.tail λ n_1=>bif decide (0<=n_1) then jz2 c0 λ a=>dS a λ s=>onX n_1 s.n s.a (λ a=>xU a n_1 1 λ n_2=>(j6k C step [vU n,vU n_2]).bU λ n=>z5w 0 [vU n,vI (wI (n_1-1))]) else z5w 1 [vU n])) [vU 0,vI (wI ((↑s.n:Int)-1))]).bind λ q=>gL q.snd 1 (hU q.snd λ n=>z5w 0 [vU n])).bind jzc:=by kernel_rfl
def jgi:=fnG [(194,jhr)] noC [] (Tryz.f220.body.getD .skip) 10 [.tmp 5]
theorem jgk:OKG 220 jgi:=λ hG=>jd8 ⟨jhs hG,trivial⟩ jy5 Tryz.func220
theorem jgj (a w c0):jgi [vU a,vU w,vP c0] =
 (jz2 c0 λ a_1=>dU a_1 λ n=>(jhr [vU n,vU a,vU w]).bU λ n=>z5w 0 [vU n]).bind jzc:=by kernel_rfl
def jgl:=fnG [(194,jhr)] noC [] (Tryz.f221.body.getD .skip) 15 [.tmp 6]
theorem jgn:OKG 221 jgl:=λ hG=>jd8 ⟨jhs hG,trivial⟩ jy5 Tryz.func221
theorem jgm (a w c0 c1):jgl [vU a,vU w,vP c0,vP c1] =
 (jz2 c0 λ a_1=>dU a_1 λ n=>jz2 c1 λ a_2=>dU a_2 λ n_1=>(jhr [vU n,vU n_1,vU w]).bU λ n=>jz2 c1 λ a_3=>sL a_3 [vU n] λ x=>jz2 c0 λ a_4=>dU a_4 λ n=>jz2 c1 λ a_5=>dU a_5 λ n_2=>(jhr [vU n,vU a,vU n_2]).bU λ n=>z5w 0 [vU n]).bind jzc:=by kernel_rfl
def jgc (C:FuncId->List Value->M Value):=fnG [] (jvv [(219,jgf (jvv [(221,jgl)] (jvv [(220,jgi)] C)))] (jvv [(221,jgl)] (jvv [(220,jgi)] C))) [] (Tryz.f169.body.getD .skip) 18 [.cell 4 218]
theorem jge {G:List (Nat×Obj)} (hG:GT G) (C:FuncId->List Value->M Value) (hC:COK Tryz.prog G C):j0i Tryz.prog G 169 (jgc C):=jd8 trivial (jvx (L:=[(219,jgf (jvv [(221,jgl)] (jvv [(220,jgi)] C)))]) (jvx (L:=[(221,jgl)]) (jvx (L:=[(220,jgi)]) hC ⟨jgk hG,trivial⟩) ⟨jgn hG,trivial⟩) ⟨jgh hG _ (jvx (L:=[(221,jgl)]) (jvx (L:=[(220,jgi)]) hC ⟨jgk hG,trivial⟩) ⟨jgn hG,trivial⟩),trivial⟩) Tryz.func169
theorem jgd (C p l ln lc):jgc C [vU p,vS l ln lc] =
 (nB [vU p] 24 λ n=>nB [vS l ln lc] 22 λ n_1=>nB [vU 0,vU 0] 218 λ n_2=>nB [vU 0,vU 0] 218 λ n_3=>(jgf (jvv [(221,jgl)] (jvv [(220,jgi)] C)) [Value.func (Fn.func 220) (ar ([])) (ar ([vP (some (ad n 0))])),vP (some (ad n_1 0))]).bU λ n_4=>sL (ad n_3 0) [vU n_4] λ x=>nB [vU 0] 24 λ n_5=>sL (ad n_5 0) [vU 0] λ x=>(jgf (jvv [(221,jgl)] (jvv [(220,jgi)] C)) [Value.func (Fn.func 221) (ar ([])) (ar ([vP (some (ad n 0)),vP (some (ad n_5 0))])),vP (some (ad n_1 0))]).bU λ n=>sL (ad n_3 1) [vU n] λ x=>lU n_3 0 λ n=>lU n_3 1 λ n_6=>sL (ad n_2 0) [vU n,vU n_6] λ x=>lU n_2 0 λ n=>lU n_2 1 λ n_7=>z5w 0 [vA [vU n,vU n_7]]).bind jzc:=by kernel_rfl
def j3b:List (Nat×Ann):=[(26,⟨[6,8,18],[.int .i64 0,.int .i64 0,.int .i64 0],[⟨.ex 0,[6,8],[.int .i64 0,.int .i64 0]⟩]⟩),(15,⟨[],[],[⟨.norm,[6,8],[.int .i64 0,.int .i64 0]⟩,⟨.ret,[6,7,8],[.int .i64 0,.int .u64 0,.int .i64 0]⟩]⟩),(30,⟨[],[],[⟨.norm,[45],[.bool false]⟩]⟩),(8106,⟨[6,14,15],[.int .i64 0,.int .i64 0,.int .u64 0],[⟨.ex 2,[6],[.int .i64 0]⟩]⟩),(16212,⟨[],[],[⟨.norm,[],[]⟩,⟨.ex 2,[],[]⟩]⟩)]
def jgr:=fnG [(124,jht),(169,jgc noC),(248,ji5),(194,jhr),(132,jhz)] noC j3b (Tryz.f210.body.getD .skip) 103 [.tmp 6,.tmp 7,.tmp 8]
theorem jgt:OKG 210 jgr:=λ hG=>jd8 ⟨jhv hG,jge hG _ jy5,ji7 hG,jhs hG,ji1 hG,trivial⟩ jy5 Tryz.func210
def jtg:Int->Option Addr->Nat->Nat->Nat->Nat×List Value->M (Nat×List Value):=
 λ p x xn n n_1 q=>z0t [gL q.snd 2 (hI q.snd λ n_2=>hI q.snd.tail λ n_3=>lU n 0 λ n_4=>lU n_1 0 λ n_5=>lU n 1 λ n_6=>lU n_1 1 λ n_7=>(ji5 [vU p,vU n_4,vU n_5]).bU λ n_8=>(chk (lU n_1 1 λ n=>M.ret (vU n)) (vU n_7)).bind λ u=>(chk (lU n 1 λ n=>M.ret (vU n)) (vU n_6)).bind λ u=>(ji5 [vU p,vU n_6,vU n_7]).bU λ n=>bif n_3 == 0 then (jw8 (λ st=>gL st 3 (hI st λ n_9=>hI st.tail λ n_10=>hU st.tail.tail λ n_11=>(bif decide (n_10 < (↑xn:Int)) then bif n_8 != 0 then bif decide (n_9 < 0) then z5w 0 [] else z5w 1 [] else z5w 1 [] else z5w 1 []).bind λ q=>z0t [gL q.snd 0 (bif n_11 == n then (jhr [vU p,vU n_11,vU n_8]).bU λ n=>z5w 0 [vI n_10,vI (wI (n_10+1)),vU n] else (jhr [vU p,vU n_11,vU n_8]).bU λ n=>z5w 0 [vI n_9,vI (wI (n_10+1)),vU n]),gL q.snd 0 (z5w 1 [vI n_9])] q.fst)) [vI (-1),vI 0,vU n_8]).bind λ q=>gL q.snd 1 (hI q.snd λ n_9=>bif decide (n_9 < 0) then z5w 0 [vT [vI 0,vU 0,vI 2]] else (jhz [vU p,vU n_8,vU (wU (wU n_9+1))]).bU λ n_10=>bif n_10 != n then z5w 0 [vT [vI 0,vU 0,vI 2]] else onX n_9 xn x (λ a=>xU a n_9 1 λ n=>(jhr [vU p,vU n,vU n_8]).bU λ n=>z5w 0 [vT [vI n_9,vU n,vI 1]])) else (jhz [vU p,vU n_8,vU (wU (wU n_2+1))]).bU λ n_9=>bif n_9 != n then z5w 0 [vT [vI 0,vU 0,vI 2]] else onX n_2 xn x (λ a=>xU a n_2 1 λ n=>(jhr [vU p,vU n,vU n_8]).bU λ n=>z5w 0 [vT [vI n_2,vU n,vI 1]])),gL q.snd 3 (hI q.snd λ n=>hU q.snd.tail λ n_2=>hI q.snd.tail.tail λ n_3=>z5w 0 [vT [vI n,vU n_2,vI n_3]])] q.fst
theorem jgs (p x xn xc want0 want1):jgr [vU p,vS x xn xc,.agg ⟨[vU want0,vU want1]⟩] =
 (nB [vU want0,vU want1] 218 λ n=>(jw8 (λ st=>gL st 3 (hI st λ n=>hI st.tail λ n_1=>hI st.tail.tail λ n_2=>bif decide (n_2 < (↑xn:Int)) then onX n_2 xn x (λ a=>xU a n_2 1 λ n_3=>nB [vU n_3] 24 λ b=>(jht [vU p,vS (some (ad b 0)) 1 1]).bB λ b=>bif !b then z5w 0 [vI n_2,vI (wI (n_1+1)),vI (wI (n_2+1))] else z5w 0 [vI n,vI n_1,vI (wI (n_2+1))]) else z5w 1 [vI n,vI n_1])) [vI 0,vI 0,vI 0]).bind λ q=>gL q.snd 2 (hI q.snd λ n_1=>hI q.snd.tail λ n_2=>(jgc noC [vU p,vS x xn xc]).bA λ vs=>gL vs 2 (hU vs λ n_3=>hU vs.tail λ n_4=>nB [vU 0,vU 0] 218 λ n_5=>sL (ad n_5 0) [vU n_3,vU n_4] λ x_1=>((bif decide (1 < n_2) then z5w 0 [vB true] else bif n_2 == 0 then lU n_5 0 λ n_6=>lU n_5 1 λ n_7=>lU n 0 λ n_8=>lU n 1 λ n=>z5w 0 [vB (eqL (ar ([vU n_6,vU n_7])).toList (ar ([vU n_8,vU n])).toList)] else z5w 0 [vB false]).bind λ q=>gL q.snd 1 (hB q.snd λ b=>bif b then z5w 1 [vI 0,vU 0,vI (if 2 < n_2 then 2 else n_2)] else z5w 0 [vI n_1,vI n_2])).bind (jtg p x xn n n_5)))).bind jzc:=by kernel_rfl
def j4y:List (Nat×Ann):=[(122,⟨[15],[.int .i64 0],[⟨.ex 0,[],[]⟩]⟩)]
def zit:=fnG [] noC j4y (Tryz.f218.body.getD .skip) 28 [.tmp 2,.tmp 3]
theorem ziv:OKG 218 zit:=λ hG=>jd8 trivial jy5 Tryz.func218
theorem ziu (l ln lc):zit [vS l ln lc] =
 (bif decide (1024 < (↑ln:Int)) then z5w 0 [vT [vS none 0 0,vI 1]] else jr0 (0<=wI (3*(↑ln:Int))/\wI (3*(↑ln:Int))<=wI (3*(↑ln:Int))/\wI (3*(↑ln:Int))<=281474976710656/\(↑8:Int)*wI (3*(↑ln:Int))<=281474976710656/\[vU 0].all jcs=true) (nB (zht (wI (3*(↑ln:Int))).toNat [vU 0]) 24 λ n=>(jw8 (λ st=>gL st 1 (hI st λ n_1=>bif decide (n_1 < (↑(wI (3*(↑ln:Int))).toNat:Int)) then onX (wI (n_1.tdiv 3)) ln l (λ a=>(ld (a.add ((wI (n_1.tdiv 3)).toNat*1))).bU λ n_2=>jr0 (0<=n_1/\n_1 < (↑(wI (3*(↑ln:Int))).toNat:Int)) (sL ((ad n 0).add (n_1.toNat*1)) [vU n_2] λ x=>z5w 0 [vI (wI (n_1+1))])) else z5w 1 [])) [vI 0]).bind λ q=>gL q.snd 0 (z5w 0 [vT [vS (some (ad n 0)) (wI (3*(↑ln:Int))).toNat (wI (3*(↑ln:Int))).toNat,vI 0]]))).bind jzc:=by kernel_rfl
def jgo:=fnG [(218,zit)] noC [] (Tryz.f168.body.getD .skip) 29 [.tmp 4,.tmp 5]
theorem jgq:OKG 168 jgo:=λ hG=>jd8 ⟨ziv hG,trivial⟩ jy5 Tryz.func168
theorem jgp (x xn xc s0 s1):jgo [vS x xn xc,.agg ⟨[vU s0,vU s1]⟩] =
 (nB [vU s0,vU s1] 218 λ n=>jr0 (0<=(↑xn:Int)/\(↑xn:Int)<=wI ((↑xn:Int)+6)/\wI ((↑xn:Int)+6)<=281474976710656/\(↑8:Int)*wI ((↑xn:Int)+6)<=281474976710656/\[vU 0].all jcs=true) (nB (zht (wI ((↑xn:Int)+6)).toNat [vU 0]) 24 λ n_1=>(rdN x (min xn (↑xn:Int).toNat*1)).bind λ xs=>sL (ad n_1 0) xs λ x=>(jbm (ad n 0)).bind λ x=>(zit [vS (some (bif decide ((↑0:Int)=(↑2:Int)) then (ad n 0) else (ad n 0).add ((↑0:Int).toNat*1))) 2 2]).bN 2 λ vs=>(hS vs λ s=>hI vs.tail λ n=>bif n != 0 then z5w 0 [vT [vS none 0 0,vI n]] else (rdN s.a (s.n*1)).bind λ xs=>(j33 24 1 8 (some (ad n_1 0)) (↑xn:Int).toNat (wI ((↑xn:Int)+6)).toNat s.n xs).bind λ q=>z5w 0 [vT [vS q.a q.n q.c,vI 0]]))).bind jzc:=by kernel_rfl
def j38:List (Nat×Ann):=[(4095,⟨[],[],[⟨.norm,[16],[.slice none 0 0]⟩]⟩),(65530,⟨[16,83],[.slice none 0 0,.int .i64 0],[⟨.ex 0,[16],[.slice none 0 0]⟩]⟩)]
def jg0:=fnG [(208,jg9),(209,ziq),(124,jht),(210,jgr),(168,jgo)] noC j38 (Tryz.f158.body.getD .skip) 100 [.tmp 4,.tmp 5,.tmp 6]
theorem jg2:OKG 158 jg0:=λ hG=>jd8 ⟨jgb hG,zis hG,jhv hG,jgt hG,jgq hG,trivial⟩ jy5 Tryz.func158
def jte:Sl->Sl->Sl->Nat×List Value->M (Nat×List Value):=
 λ s s_1 s_2 q=>gL q.snd 1 (hS q.snd λ s_3=>(jw8 (λ st=>gL st 2 (hS st λ s_4=>hI st.tail λ n=>bif decide (n < (↑s_1.n:Int)) then onX n s_1.n s_1.a (λ a=>xI a n 3 λ n_1=>dU ((ax a n 3).add 1) λ n_2=>dU ((ax a n 3).add 2) λ n_3=>nB [vI 0,vU 0,vU 0] 78 λ n_4=>sL (ad n_4 0) [vI n_1,vU n_2,vU n_3] λ x=>lI n_4 0 λ n_5=>sL (ad n_4 0) [vI (wI (n_5+(↑s.n:Int)))] λ x=>lI n_4 0 λ n_6=>lU n_4 1 λ n_7=>lU n_4 2 λ n_8=>nB [vI n_6,vU n_7,vU n_8] 78 λ b=>(rdN (some (ad b 0)) 3).bind λ xs=>(j33 78 3 24 s_4.a s_4.n s_4.c 1 xs).bind λ q=>z5w 0 [vS q.a q.n q.c,vI (wI (n+1))]) else z5w 1 [vS s_4.a s_4.n s_4.c])) [vS s_3.a s_3.n s_3.c,vI 0]).bind λ q=>gL q.snd 1 (hS q.snd λ s=>z5w 0 [vT [vS s_2.a s_2.n s_2.c,vS s.a s.n s.c,vI 0]]))
theorem jg1 (p c cn cc):jg0 [vU p,vS c cn cc] =
 ((jg9 [vU p,vS c cn cc]).bN 3 λ vs=>(hS vs λ s=>hS vs.tail λ s_1=>hI vs.tail.tail λ n=>bif n != 0 then z5w 0 [vT [vS none 0 0,vS none 0 0,vI n]] else (ziq [vS s_1.a s_1.n s_1.c]).bN 3 λ vs=>(hS vs λ s_2=>hS vs.tail λ s_3=>hI vs.tail.tail λ n=>bif n != 0 then z5w 0 [vT [vS none 0 0,vS none 0 0,vI n]] else (jht [vU p,vS s_2.a s_2.n s_2.c]).bB λ b=>bif !b then z5w 0 [vT [vS none 0 0,vS none 0 0,vI 10]] else jr0 (2<=s_2.n) (jz2 s_2.a λ a=>dU a λ n=>dU (a.add 1) λ n_1=>(jgr [vU p,vS s.a s.n s.c,vA [vU n,vU n_1]]).bN 3 λ vs=>(hI vs λ n=>hU vs.tail λ n_2=>hI vs.tail.tail λ n_3=>bif decide (1 < n_3) then z5w 0 [vT [vS none 0 0,vS none 0 0,vI 10]] else jr0 (2<=s_2.n) (jz2 s_2.a λ a=>dU a λ n_4=>dU (a.add 1) λ n_5=>(jgo [vS s.a s.n s.c,vA [vU n_4,vU n_5]]).bN 2 λ vs=>(hS vs λ s_4=>hI vs.tail λ n_6=>bif n_6 != 0 then z5w 0 [vT [vS none 0 0,vS none 0 0,vI n_6]] else (bif n_3 == 1 then onX n s.n s.a (λ a=>xU a n 1 λ n_7=>nB [vI n,vU n_7,vU n_2] 78 λ b=>(rdN (some (ad b 0)) 3).bind λ xs=>(j33 78 3 24 none 0 0 1 xs).bind λ q=>onX n s_4.n s_4.a (λ a=>sL (ax a n 1) [vU n_2] λ x=>z5w 0 [vS q.a q.n q.c])) else z5w 0 [vS none 0 0]).bind (jte s s_3 s_4)))))))).bind jzc:=by kernel_rfl
def j4u:List (Nat×Ann):=[(2042,⟨[53],[.int .i64 0],[⟨.ex 0,[],[]⟩,⟨.ret,[8,10],[.slice none 0 0,.int .i64 0]⟩]⟩)]
def jq1:=fnG [(157,jq7),(93,jqd),(158,jg0),(63,jjw)] noC j4u (Tryz.f84.body.getD .skip) 93 [.tmp 8,.cell 9 40,.tmp 10]
theorem jq3:OKG 84 jq1:=λ hG=>jd8 ⟨jq9 hG,jqf hG,jg2 hG,jjy hG,trivial⟩ jy5 Tryz.func84
theorem jq2 (m p n at'):jq1 [vP m,vU p,vI n,vI at'] =
 (nB [vU 0,vU 0] 40 λ n_1=>nB [vU 0,vU 0] 40 λ n_2=>(jq7 [vP m,vU p,vI n,vI at',vI 6]).bI λ n_3=>bif n_3 != 0 then lU n_2 0 λ n=>lU n_2 1 λ n_4=>sL (ad n_1 0) [vU n,vU n_4] λ x=>lU n_1 0 λ n=>lU n_1 1 λ n_5=>z5w 0 [vT [vS none 0 0,vA [vU n,vU n_5],vI n_3]] else (jqd [vA [vP m,vI at',vI (wI (n+6))]]).bN 2 λ vs=>(hS vs λ s=>hI vs.tail λ n_4=>bif n_4 != 0 then lU n_2 0 λ n=>lU n_2 1 λ n_5=>sL (ad n_1 0) [vU n,vU n_5] λ x=>lU n_1 0 λ n=>lU n_1 1 λ n_6=>z5w 0 [vT [vS none 0 0,vA [vU n,vU n_6],vI n_4]] else (jg0 [vU p,vS s.a s.n s.c]).bN 3 λ vs=>(hS vs λ s=>hS vs.tail λ s_1=>hI vs.tail.tail λ n_5=>bif n_5 != 0 then lU n_2 0 λ n=>lU n_2 1 λ n_6=>sL (ad n_1 0) [vU n,vU n_6] λ x=>lU n_1 0 λ n=>lU n_1 1 λ n_7=>z5w 0 [vT [vS none 0 0,vA [vU n,vU n_7],vI 10]] else (jw8 (λ st=>gL st 1 (hI st λ n=>bif decide (n < (↑s_1.n:Int)) then onX n s_1.n s_1.a (λ a=>xI a n 3 λ n_6=>onX n s_1.n s_1.a (λ a=>sL (ax a n 3) [vI (wI (n_6+at'))] λ x=>onX n s_1.n s_1.a (λ a=>xI a n 3 λ n_7=>onX n s_1.n s_1.a (λ a=>dU ((ax a n 3).add 2) λ n_8=>(jjw [vP m,vI n_7,vU n_8]).bI λ n_9=>bif n_9 != 0 then lU n_2 0 λ n=>lU n_2 1 λ n_10=>sL (ad n_1 0) [vU n,vU n_10] λ x=>z5w 2 [vS none 0 0,vI n_9] else z5w 0 [vI (wI (n+1))])))) else z5w 1 [])) [vI 0]).bind λ q=>z0t [gL q.snd 0 (onX n s.n s.a (λ a=>xU a n 1 λ n_6=>onX (wI (n+3)) s.n s.a (λ a=>(ld (a.add ((wI (n+3)).toNat*1))).bU λ n=>sL (ad n_1 0) [vU n_6,vU n] λ x=>lU n_1 0 λ n=>lU n_1 1 λ n_7=>z5w 0 [vT [vS s_1.a s_1.n s_1.c,vA [vU n,vU n_7],vI 0]]))),gL q.snd 2 (hS q.snd λ s=>hI q.snd.tail λ n=>lU n_1 0 λ n_6=>lU n_1 1 λ n_7=>z5w 0 [vT [vS s.a s.n s.c,vA [vU n_6,vU n_7],vI n]])] (q.fst-1)))).bind jzc:=by kernel_rfl
def j4t:List (Nat×Ann):=[(58,⟨[19],[.int .i64 0],[⟨.ex 0,[],[]⟩,⟨.ret,[6],[.int .i64 0]⟩]⟩)]
def jpv:=fnG [(83,jqg),(63,jjw)] noC j4t (Tryz.f85.body.getD .skip) 34 [.tmp 6]
theorem jpx:OKG 85 jpv:=λ hG=>jd8 ⟨jqi hG,jjy hG,trivial⟩ jy5 Tryz.func85
theorem jpw (m l ln lc at'):jpv [vP m,vS l ln lc,vI at'] =
 ((jqg [vA [vP m,vI at',vI (↑ln:Int)]]).bB λ b=>bif !b then z5w 0 [vI 1] else (jw8 (λ st=>gL st 1 (hI st λ n=>bif decide (n < (↑ln:Int)) then onX n ln l (λ a=>xU a n 1 λ n_1=>(jjw [vP m,vI (wI (at'+n)),vU n_1]).bI λ n_2=>bif n_2 != 0 then z5w 2 [vI n_2] else z5w 0 [vI (wI (n+1))]) else z5w 1 [])) [vI 0]).bind λ q=>z0t [gL q.snd 0 (z5w 0 [vI 0]),gL q.snd 1 (hI q.snd λ n=>z5w 0 [vI n])] (q.fst-1)).bind jzc:=by kernel_rfl
end Go.AM
end
