/-
  Part of the proof of a law: the functions, as programs over a store. Conditions: none.
-/
import Derived.Test.YtpecnaacgkgjmaaGreatDoorProg
import Derived.KernelRfl
import Derived.WalkKit
import Derived.Test.YtpecnaacgkgjmaaGreatDoorVL1
import Derived.Test.YtpecnaacgkgjmaaGreatDoorVA2
set_option linter.unusedVariables false
set_option linter.unusedSectionVars false
set_option linter.unusedSimpArgs false
set_option linter.deprecated false
noncomputable section
set_option maxRecDepth 100000
namespace Go.AM
open Go Go.Proofs Go.Proofs.YtpecnaacgkgjmaaGreatDoor
def TL : List (Nat × TI) := [(3, ⟨1, 8, .int .i64 0, false, .int .i64⟩), (23, ⟨1, 24, .slice none 0 0, false, .slice 82 6 48 [.int .i64 0, .int .i64 0, .int .i64 0, .int .i64 0, .int .i64 0, .int .u64 0]⟩), (273, ⟨7, 56, .agg ⟨[.int .i64 0, .int .i64 0, .int .i64 0, .int .i64 0, .int .i64 0, .int .u64 0, .int .i64 0]⟩, true, .struct [(0, 6, true), (6, 1, false)]⟩), (245, ⟨1, 24, .slice none 0 0, false, .slice 273 7 56 [.int .i64 0, .int .i64 0, .int .i64 0, .int .i64 0, .int .i64 0, .int .u64 0, .int .i64 0]⟩), (82, ⟨6, 48, .agg ⟨[.int .i64 0, .int .i64 0, .int .i64 0, .int .i64 0, .int .i64 0, .int .u64 0]⟩, true, .struct [(0, 1, false), (1, 1, false), (2, 1, false), (3, 1, false), (4, 1, false), (5, 1, false)]⟩), (4, ⟨1, 1, .bool false, false, .bool⟩), (0, ⟨1, 0, .tuple ⟨[]⟩, false, .tuple⟩), (20, ⟨1, 16, .nilIface, false, .iface⟩), (303, ⟨1, 16, .nilIface, false, .iface⟩), (135, ⟨1, 8, .pointer none, false, .ptr none⟩), (247, ⟨2, 32, .agg ⟨[.slice none 0 0, .int .i64 0]⟩, true, .struct [(0, 1, false), (1, 1, false)]⟩), (275, ⟨1, 8, .pointer none, false, .ptr none⟩), (37, ⟨1, 8, .int .i64 0, false, .int .i64⟩), (204, ⟨1, 0, .tuple ⟨[.pointer none, .int .i64 0]⟩, false, .tuple⟩), (137, ⟨4, 48, .agg ⟨[.slice none 0 0, .pointer none, .int .i64 0, .int .i64 0]⟩, true, .struct [(0, 1, false), (1, 1, false), (2, 1, false), (3, 1, false)]⟩), (22, ⟨1, 24, .slice none 0 0, false, .slice 24 1 8 [.int .u64 0]⟩), (34, ⟨1, 8, .pointer none, false, .ptr none⟩), (227, ⟨1, 8, .nilFunc, false, .scalar⟩), (24, ⟨1, 8, .int .u64 0, false, .int .u64⟩), (65, ⟨1, 0, .tuple ⟨[.int .i64 0, .int .i64 0]⟩, false, .tuple⟩), (142, ⟨1, 8, .nilFunc, false, .scalar⟩), (115, ⟨1, 0, .tuple ⟨[.pointer none, .int .i64 0]⟩, false, .tuple⟩), (25, ⟨1, 24, .slice none 0 0, false, .slice 113 2 16 [.int .i64 0, .bool false]⟩), (104, ⟨1, 24, .slice none 0 0, false, .slice 3 1 8 [.int .i64 0]⟩), (113, ⟨2, 16, .agg ⟨[.int .i64 0, .bool false]⟩, true, .struct [(0, 1, false), (1, 1, false)]⟩), (284, ⟨1, 8, .nilFunc, false, .scalar⟩), (197, ⟨1, 0, .tuple ⟨[.slice none 0 0, .int .i64 0]⟩, false, .tuple⟩), (298, ⟨2, 16, .agg ⟨[.int .u64 0, .int .u64 0]⟩, true, .struct [(0, 1, false), (1, 1, false)]⟩), (299, ⟨6, 48, .agg ⟨[.int .u64 0, .int .u64 0, .int .u64 0, .int .u64 0, .int .u64 0, .int .u64 0]⟩, true, .array 3 2 true⟩), (5, ⟨1, 1, .int .u8 0, false, .int .u8⟩), (9, ⟨1, 16, .string "".toUTF8, false, .scalar⟩), (234, ⟨1, 0, .tuple ⟨[.int .u64 0, .int .u64 0]⟩, false, .tuple⟩), (129, ⟨1, 0, .tuple ⟨[.int .u64 0, .int .i64 0]⟩, false, .tuple⟩), (27, ⟨3, 24, .agg ⟨[.int .i64 0, .int .i64 0, .int .i64 0]⟩, true, .struct [(0, 1, false), (1, 1, false), (2, 1, false)]⟩), (214, ⟨1, 24, .slice none 0 0, false, .slice 27 3 24 [.int .i64 0, .int .i64 0, .int .i64 0]⟩), (29, ⟨5, 40, .agg ⟨[.int .i64 0, .bool false, .int .i64 0, .int .i64 0, .int .i64 0]⟩, true, .struct [(0, 1, false), (1, 1, false), (2, 3, true)]⟩), (215, ⟨1, 0, .tuple ⟨[.slice none 0 0, .int .i64 0]⟩, false, .tuple⟩), (128, ⟨3, 72, .agg ⟨[.slice none 0 0, .slice none 0 0, .slice none 0 0]⟩, true, .struct [(0, 1, false), (1, 1, false), (2, 1, false)]⟩), (124, ⟨1, 24, .slice none 0 0, false, .slice 128 3 72 [.slice none 0 0, .slice none 0 0, .slice none 0 0]⟩), (229, ⟨1, 8, .nilFunc, false, .scalar⟩), (119, ⟨1, 0, .tuple ⟨[.slice none 0 0, .int .i64 0]⟩, false, .tuple⟩), (232, ⟨2, 32, .agg ⟨[.int .u64 0, .slice none 0 0]⟩, true, .struct [(0, 1, false), (1, 1, false)]⟩), (233, ⟨4, 32, .agg ⟨[.nilFunc, .nilFunc, .nilFunc, .nilFunc]⟩, true, .array 4 1 false⟩), (230, ⟨1, 8, .nilFunc, false, .scalar⟩), (237, ⟨1, 24, .slice none 0 0, false, .slice 22 1 24 [.slice none 0 0]⟩), (40, ⟨2, 16, .agg ⟨[.int .u64 0, .int .u64 0]⟩, true, .array 2 1 false⟩), (125, ⟨1, 0, .tuple ⟨[.slice none 0 0, .int .i64 0]⟩, false, .tuple⟩), (130, ⟨1, 8, .nilFunc, false, .scalar⟩), (41, ⟨1, 0, .tuple ⟨[.agg ⟨[.int .u64 0, .int .u64 0]⟩, .int .i64 0]⟩, false, .tuple⟩), (31, ⟨13, 152, .agg ⟨[.slice none 0 0, .slice none 0 0, .int .u64 0, .slice none 0 0, .bool false, .int .i64 0, .bool false, .int .i64 0, .int .i64 0, .int .i64 0, .int .i64 0, .int .i64 0, .int .i64 0]⟩, true, .struct [(0, 1, false), (1, 1, false), (2, 1, false), (3, 1, false), (4, 1, false), (5, 5, true), (10, 1, false), (11, 1, false), (12, 1, false)]⟩), (139, ⟨4, 64, .agg ⟨[.slice none 0 0, .slice none 0 0, .int .i64 0, .int .i64 0]⟩, true, .struct [(0, 1, false), (1, 1, false), (2, 1, false), (3, 1, false)]⟩), (36, ⟨1, 8, .pointer none, false, .ptr none⟩), (38, ⟨1, 0, .tuple ⟨[.pointer none, .int .i64 0]⟩, false, .tuple⟩), (286, ⟨1, 0, .tuple ⟨[.slice none 0 0, .int .i64 0]⟩, false, .tuple⟩), (145, ⟨3, 24, .agg ⟨[.pointer none, .int .i64 0, .int .i64 0]⟩, true, .struct [(0, 1, false), (1, 1, false), (2, 1, false)]⟩), (311, ⟨3, 24, .agg ⟨[.int .u64 0, .int .u64 0, .int .u64 0]⟩, true, .array 3 1 false⟩), (309, ⟨1, 0, .tuple ⟨[.int .u64 0, .slice none 0 0, .bool false]⟩, false, .tuple⟩), (280, ⟨1, 0, .tuple ⟨[.int .u64 0, .slice none 0 0, .int .i64 0]⟩, false, .tuple⟩), (78, ⟨3, 24, .agg ⟨[.int .i64 0, .int .u64 0, .int .u64 0]⟩, true, .struct [(0, 1, false), (1, 1, false), (2, 1, false)]⟩), (50, ⟨1, 24, .slice none 0 0, false, .slice 78 3 24 [.int .i64 0, .int .u64 0, .int .u64 0]⟩), (218, ⟨2, 16, .agg ⟨[.int .u64 0, .int .u64 0]⟩, true, .array 2 1 false⟩), (131, ⟨1, 8, .nilFunc, false, .scalar⟩), (252, ⟨1, 0, .tuple ⟨[.slice none 0 0, .slice none 0 0, .int .i64 0]⟩, false, .tuple⟩), (211, ⟨1, 0, .tuple ⟨[.slice none 0 0, .slice none 0 0, .int .i64 0]⟩, false, .tuple⟩), (255, ⟨1, 0, .tuple ⟨[.int .i64 0, .int .u64 0, .int .i64 0]⟩, false, .tuple⟩), (159, ⟨3, 24, .agg ⟨[.int .u64 0, .int .u64 0, .int .u64 0]⟩, true, .struct [(0, 1, false), (1, 2, true)]⟩), (93, ⟨1, 0, .tuple ⟨[.bool false, .int .i64 0]⟩, false, .tuple⟩), (157, ⟨1, 8, .nilFunc, false, .scalar⟩), (160, ⟨1, 8, .nilFunc, false, .scalar⟩), (52, ⟨2, 32, .agg ⟨[.bool false, .slice none 0 0]⟩, true, .struct [(0, 1, false), (1, 1, false)]⟩), (146, ⟨1, 24, .slice none 0 0, false, .slice 145 3 24 [.pointer none, .int .i64 0, .int .i64 0]⟩), (147, ⟨1, 0, .tuple ⟨[.slice none 0 0, .agg ⟨[.int .u64 0, .int .u64 0]⟩, .int .i64 0]⟩, false, .tuple⟩), (53, ⟨1, 0, .tuple ⟨[.agg ⟨[.bool false, .slice none 0 0]⟩, .int .i64 0]⟩, false, .tuple⟩), (48, ⟨13, 152, .agg ⟨[.slice none 0 0, .slice none 0 0, .int .u64 0, .slice none 0 0, .bool false, .int .i64 0, .bool false, .int .i64 0, .int .i64 0, .int .i64 0, .int .i64 0, .int .i64 0, .int .i64 0]⟩, true, .struct [(0, 1, false), (1, 1, false), (2, 1, false), (3, 1, false), (4, 1, false), (5, 5, true), (10, 1, false), (11, 1, false), (12, 1, false)]⟩), (57, ⟨1, 0, .tuple ⟨[.slice none 0 0, .agg ⟨[.bool false, .slice none 0 0]⟩, .int .i64 0]⟩, false, .tuple⟩), (62, ⟨8, 112, .agg ⟨[.int .u64 0, .slice none 0 0, .bool false, .int .i64 0, .slice none 0 0, .slice none 0 0, .int .i64 0, .int .i64 0]⟩, true, .struct [(0, 1, false), (1, 1, false), (2, 1, false), (3, 1, false), (4, 1, false), (5, 1, false), (6, 1, false), (7, 1, false)]⟩), (187, ⟨2, 16, .agg ⟨[.nilFunc, .int .i64 0]⟩, true, .struct [(0, 1, false), (1, 1, false)]⟩), (189, ⟨6, 48, .agg ⟨[.nilFunc, .int .i64 0, .nilFunc, .int .i64 0, .nilFunc, .int .i64 0]⟩, true, .array 3 2 true⟩), (185, ⟨1, 8, .nilFunc, false, .scalar⟩), (88, ⟨1, 24, .slice none 0 0, false, .slice 29 5 40 [.int .i64 0, .bool false, .int .i64 0, .int .i64 0, .int .i64 0]⟩), (163, ⟨1, 0, .tuple ⟨[.slice none 0 0, .int .i64 0]⟩, false, .tuple⟩), (90, ⟨4, 48, .agg ⟨[.int .i64 0, .int .i64 0, .int .i64 0, .slice none 0 0]⟩, true, .struct [(0, 1, false), (1, 1, false), (2, 1, false), (3, 1, false)]⟩), (262, ⟨1, 8, .nilFunc, false, .scalar⟩), (83, ⟨1, 8, .int .u64 0, false, .int .u64⟩), (173, ⟨1, 0, .tuple ⟨[.slice none 0 0, .int .i64 0]⟩, false, .tuple⟩), (172, ⟨10, 144, .agg ⟨[.bool false, .slice none 0 0, .slice none 0 0, .slice none 0 0, .int .i64 0, .pointer none, .slice none 0 0, .int .i64 0, .int .i64 0, .int .i64 0]⟩, true, .struct [(0, 5, true), (5, 1, false), (6, 1, false), (7, 1, false), (8, 1, false), (9, 1, false)]⟩), (167, ⟨1, 8, .pointer none, false, .ptr none⟩), (70, ⟨5, 88, .agg ⟨[.bool false, .slice none 0 0, .slice none 0 0, .slice none 0 0, .int .i64 0]⟩, true, .struct [(0, 1, false), (1, 1, false), (2, 1, false), (3, 1, false), (4, 1, false)]⟩), (67, ⟨1, 24, .slice none 0 0, false, .slice 80 6 48 [.int .i64 0, .int .i64 0, .int .i64 0, .int .i64 0, .int .u64 0, .int .u64 0]⟩), (80, ⟨6, 48, .agg ⟨[.int .i64 0, .int .i64 0, .int .i64 0, .int .i64 0, .int .u64 0, .int .u64 0]⟩, true, .struct [(0, 1, false), (1, 1, false), (2, 1, false), (3, 3, true)]⟩), (68, ⟨1, 24, .slice none 0 0, false, .slice 76 4 32 [.int .i64 0, .int .i64 0, .int .i64 0, .int .i64 0]⟩), (76, ⟨4, 32, .agg ⟨[.int .i64 0, .int .i64 0, .int .i64 0, .int .i64 0]⟩, true, .struct [(0, 1, false), (1, 1, false), (2, 1, false), (3, 1, false)]⟩), (221, ⟨1, 8, .nilFunc, false, .scalar⟩), (91, ⟨1, 0, .tuple ⟨[.agg ⟨[.int .i64 0, .int .i64 0, .int .i64 0, .slice none 0 0]⟩, .int .i64 0]⟩, false, .tuple⟩), (168, ⟨1, 0, .tuple ⟨[.pointer none, .int .i64 0]⟩, false, .tuple⟩), (71, ⟨1, 0, .tuple ⟨[.agg ⟨[.bool false, .slice none 0 0, .slice none 0 0, .slice none 0 0, .int .i64 0]⟩, .int .i64 0]⟩, false, .tuple⟩), (177, ⟨1, 0, .tuple ⟨[.int .i64 0, .slice none 0 0, .int .i64 0]⟩, false, .tuple⟩), (261, ⟨1, 8, .nilFunc, false, .scalar⟩), (264, ⟨1, 8, .nilFunc, false, .scalar⟩), (86, ⟨1, 0, .tuple ⟨[.slice none 0 0, .int .i64 0, .bool false]⟩, false, .tuple⟩), (99, ⟨5, 104, .agg ⟨[.slice none 0 0, .slice none 0 0, .slice none 0 0, .slice none 0 0, .int .i64 0]⟩, true, .struct [(0, 1, false), (1, 4, true)]⟩), (100, ⟨1, 0, .tuple ⟨[.agg ⟨[.slice none 0 0, .slice none 0 0, .slice none 0 0, .slice none 0 0, .int .i64 0]⟩, .int .i64 0]⟩, false, .tuple⟩), (97, ⟨4, 80, .agg ⟨[.slice none 0 0, .slice none 0 0, .slice none 0 0, .int .i64 0]⟩, true, .struct [(0, 1, false), (1, 1, false), (2, 1, false), (3, 1, false)]⟩), (95, ⟨1, 24, .slice none 0 0, false, .slice 106 2 16 [.int .i64 0, .int .i64 0]⟩), (106, ⟨2, 16, .agg ⟨[.int .i64 0, .int .i64 0]⟩, true, .struct [(0, 1, false), (1, 1, false)]⟩), (109, ⟨1, 0, .tuple ⟨[.agg ⟨[.int .u64 0, .slice none 0 0, .bool false, .int .i64 0, .slice none 0 0, .slice none 0 0, .int .i64 0, .int .i64 0]⟩, .slice none 0 0]⟩, false, .tuple⟩)]
theorem TL_ok:AllT Tryz.prog TL:=by repeat' first | exact trivial | apply And.intro | kernel_rfl
theorem eq_27:EqOK Tryz.prog [.int .i64 0,.int .i64 0,.int .i64 0] 27:=by
 intro l m hl hm w
 obtain ⟨a0,l0,rfl,hl0⟩:=plain_int hl
 obtain ⟨a1,l1,rfl,hl1⟩:=plain_int hl0
 obtain ⟨a2,l2,rfl,hl2⟩:=plain_int hl1
 obtain rfl:=plain_nil hl2
 obtain ⟨b0,m0,rfl,hm0⟩:=plain_int hm
 obtain ⟨b1,m1,rfl,hm1⟩:=plain_int hm0
 obtain ⟨b2,m2,rfl,hm2⟩:=plain_int hm1
 obtain rfl:=plain_nil hm2
 refine ⟨?_,eq_guard (by kernel_rfl) _ _ w⟩
 refine eq_of_bin ?_
 go_simp
 simp only [eqL]
 by_cases h0:a0=b0
 case neg=>simp [h0]
 by_cases h1:a1=b1
 case neg=>simp [h0,h1]
 by_cases h2:a2=b2
 case neg=>simp [h0,h1,h2]
 simp [h0,h1,h2]
theorem eq_40:EqOK Tryz.prog [.int .u64 0,.int .u64 0] 40:=by
 intro l m hl hm w
 obtain ⟨a0,l0,rfl,hl0⟩:=plain_int hl
 obtain ⟨a1,l1,rfl,hl1⟩:=plain_int hl0
 obtain rfl:=plain_nil hl1
 obtain ⟨b0,m0,rfl,hm0⟩:=plain_int hm
 obtain ⟨b1,m1,rfl,hm1⟩:=plain_int hm0
 obtain rfl:=plain_nil hm1
 refine ⟨?_,eq_guard (by kernel_rfl) _ _ w⟩
 unfold Op.equal
 rw [show Op.maxDepth=9999+1 from rfl,Op.equalIn]
 simp only [Sem.run_bind,run_underlying Tryz.underlying40,Result.andThen_ok]
 simp only [Std.Legacy.Range.forIn_eq_forIn_range',Std.Legacy.Range.size,Nat.sub_zero,Nat.add_sub_cancel,Nat.div_one,List.range'_succ,List.range'_zero,List.forIn_cons,List.forIn_nil]
 go_simp
 simp only [eqL]
 by_cases h0:a0=b0
 case neg=>simp [h0]
 by_cases h1:a1=b1
 case neg=>simp [h0,h1]
 simp [h0,h1]
theorem eq_218:EqOK Tryz.prog [.int .u64 0,.int .u64 0] 218:=by
 intro l m hl hm w
 obtain ⟨a0,l0,rfl,hl0⟩:=plain_int hl
 obtain ⟨a1,l1,rfl,hl1⟩:=plain_int hl0
 obtain rfl:=plain_nil hl1
 obtain ⟨b0,m0,rfl,hm0⟩:=plain_int hm
 obtain ⟨b1,m1,rfl,hm1⟩:=plain_int hm0
 obtain rfl:=plain_nil hm1
 refine ⟨?_,eq_guard (by kernel_rfl) _ _ w⟩
 unfold Op.equal
 rw [show Op.maxDepth=9999+1 from rfl,Op.equalIn]
 simp only [Sem.run_bind,run_underlying Tryz.underlying218,Result.andThen_ok]
 simp only [Std.Legacy.Range.forIn_eq_forIn_range',Std.Legacy.Range.size,Nat.sub_zero,Nat.add_sub_cancel,Nat.div_one,List.range'_succ,List.range'_zero,List.forIn_cons,List.forIn_nil]
 go_simp
 simp only [eqL]
 by_cases h0:a0=b0
 case neg=>simp [h0]
 by_cases h1:a1=b1
 case neg=>simp [h0,h1]
 simp [h0,h1]
theorem eq_78:EqOK Tryz.prog [.int .i64 0,.int .u64 0,.int .u64 0] 78:=by
 intro l m hl hm w
 obtain ⟨a0,l0,rfl,hl0⟩:=plain_int hl
 obtain ⟨a1,l1,rfl,hl1⟩:=plain_int hl0
 obtain ⟨a2,l2,rfl,hl2⟩:=plain_int hl1
 obtain rfl:=plain_nil hl2
 obtain ⟨b0,m0,rfl,hm0⟩:=plain_int hm
 obtain ⟨b1,m1,rfl,hm1⟩:=plain_int hm0
 obtain ⟨b2,m2,rfl,hm2⟩:=plain_int hm1
 obtain rfl:=plain_nil hm2
 refine ⟨?_,eq_guard (by kernel_rfl) _ _ w⟩
 refine eq_of_bin ?_
 go_simp
 simp only [eqL]
 by_cases h0:a0=b0
 case neg=>simp [h0]
 by_cases h1:a1=b1
 case neg=>simp [h0,h1]
 by_cases h2:a2=b2
 case neg=>simp [h0,h1,h2]
 simp [h0,h1,h2]
theorem eq_80:EqOK Tryz.prog [.int .i64 0,.int .i64 0,.int .i64 0,.int .i64 0,.int .u64 0,.int .u64 0] 80:=by
 intro l m hl hm w
 obtain ⟨a0,l0,rfl,hl0⟩:=plain_int hl
 obtain ⟨a1,l1,rfl,hl1⟩:=plain_int hl0
 obtain ⟨a2,l2,rfl,hl2⟩:=plain_int hl1
 obtain ⟨a3,l3,rfl,hl3⟩:=plain_int hl2
 obtain ⟨a4,l4,rfl,hl4⟩:=plain_int hl3
 obtain ⟨a5,l5,rfl,hl5⟩:=plain_int hl4
 obtain rfl:=plain_nil hl5
 obtain ⟨b0,m0,rfl,hm0⟩:=plain_int hm
 obtain ⟨b1,m1,rfl,hm1⟩:=plain_int hm0
 obtain ⟨b2,m2,rfl,hm2⟩:=plain_int hm1
 obtain ⟨b3,m3,rfl,hm3⟩:=plain_int hm2
 obtain ⟨b4,m4,rfl,hm4⟩:=plain_int hm3
 obtain ⟨b5,m5,rfl,hm5⟩:=plain_int hm4
 obtain rfl:=plain_nil hm5
 refine ⟨?_,eq_guard (by kernel_rfl) _ _ w⟩
 refine eq_of_bin ?_
 go_simp
 simp only [eqL]
 by_cases h0:a0=b0
 case neg=>simp [h0]
 by_cases h1:a1=b1
 case neg=>simp [h0,h1]
 by_cases h2:a2=b2
 case neg=>simp [h0,h1,h2]
 by_cases h3:a3=b3
 case neg=>simp [h0,h1,h2,h3]
 by_cases h4:a4=b4
 case neg=>simp [h0,h1,h2,h3,h4]
 by_cases h5:a5=b5
 case neg=>simp [h0,h1,h2,h3,h4,h5]
 simp [h0,h1,h2,h3,h4,h5]
theorem eq_76:EqOK Tryz.prog [.int .i64 0,.int .i64 0,.int .i64 0,.int .i64 0] 76:=by
 intro l m hl hm w
 obtain ⟨a0,l0,rfl,hl0⟩:=plain_int hl
 obtain ⟨a1,l1,rfl,hl1⟩:=plain_int hl0
 obtain ⟨a2,l2,rfl,hl2⟩:=plain_int hl1
 obtain ⟨a3,l3,rfl,hl3⟩:=plain_int hl2
 obtain rfl:=plain_nil hl3
 obtain ⟨b0,m0,rfl,hm0⟩:=plain_int hm
 obtain ⟨b1,m1,rfl,hm1⟩:=plain_int hm0
 obtain ⟨b2,m2,rfl,hm2⟩:=plain_int hm1
 obtain ⟨b3,m3,rfl,hm3⟩:=plain_int hm2
 obtain rfl:=plain_nil hm3
 refine ⟨?_,eq_guard (by kernel_rfl) _ _ w⟩
 refine eq_of_bin ?_
 go_simp
 simp only [eqL]
 by_cases h0:a0=b0
 case neg=>simp [h0]
 by_cases h1:a1=b1
 case neg=>simp [h0,h1]
 by_cases h2:a2=b2
 case neg=>simp [h0,h1,h2]
 by_cases h3:a3=b3
 case neg=>simp [h0,h1,h2,h3]
 simp [h0,h1,h2,h3]
theorem eq_106:EqOK Tryz.prog [.int .i64 0,.int .i64 0] 106:=by
 intro l m hl hm w
 obtain ⟨a0,l0,rfl,hl0⟩:=plain_int hl
 obtain ⟨a1,l1,rfl,hl1⟩:=plain_int hl0
 obtain rfl:=plain_nil hl1
 obtain ⟨b0,m0,rfl,hm0⟩:=plain_int hm
 obtain ⟨b1,m1,rfl,hm1⟩:=plain_int hm0
 obtain rfl:=plain_nil hm1
 refine ⟨?_,eq_guard (by kernel_rfl) _ _ w⟩
 refine eq_of_bin ?_
 go_simp
 simp only [eqL]
 by_cases h0:a0=b0
 case neg=>simp [h0]
 by_cases h1:a1=b1
 case neg=>simp [h0,h1]
 simp [h0,h1]
def EL:List (Nat×List Value):=[(27,[.int .i64 0,.int .i64 0,.int .i64 0]),(40,[.int .u64 0,.int .u64 0]),(218,[.int .u64 0,.int .u64 0]),(78,[.int .i64 0,.int .u64 0,.int .u64 0]),(80,[.int .i64 0,.int .i64 0,.int .i64 0,.int .i64 0,.int .u64 0,.int .u64 0]),(76,[.int .i64 0,.int .i64 0,.int .i64 0,.int .i64 0]),(106,[.int .i64 0,.int .i64 0])]
theorem EL_ok:AllE Tryz.prog EL:=⟨eq_27,eq_40,eq_218,eq_78,eq_80,eq_76,eq_106,trivial⟩
def XL:List (Nat×(List Value->Option (Bool×Value))):=[(240,xSub),(241,xAdd)]
theorem XL_ok:AllX Tryz.prog XL:=⟨sub_x Tryz.func240 (by kernel_rfl) (by kernel_rfl) (by kernel_rfl) (by kernel_rfl),add_x Tryz.func241 (by kernel_rfl) (by kernel_rfl) (by kernel_rfl) (by kernel_rfl),trivial⟩
def KL:List (Nat×List Value):=[]
theorem KL_ok:AllK Tryz.prog KL:=trivial
def IL : List (TypeId × String × FuncId × Option TypeId) := [(275, "Push", 302, none), (275, "Len", 298, some 245), (275, "Swap", 300, some 245), (275, "Pop", 301, none), (275, "Less", 299, some 245)]
theorem IL_ok:AllI Tryz.prog IL:=⟨λ _ _=>by kernel_rfl,λ _ _=>by kernel_rfl,λ _ _=>by kernel_rfl,λ _ _=>by kernel_rfl,λ _ _=>by kernel_rfl,trivial⟩
def methI:IMeth:=methV (lookI IL) (lookT TL)
theorem methI_ok {G:List (Nat×Obj)}:ISim Tryz.prog G methI:=methV_ok (lookI_ok IL_ok) (lookT_ok TL_ok)
theorem inv_275_Push (C : FuncId → List Value → M Value) (v : Value) (args : List Value) : methI C "Push" (.iface 275 v) args = C 302 (v :: args) := by simp [methI, methV, lookI, IL, onOpt]
theorem inv_275_Len (C : FuncId → List Value → M Value) (v : Value) (args : List Value) : methI C "Len" (.iface 275 v) args = dLoad (lookT TL) 245 v fun u => C 298 (u :: args) := by simp [methI, methV, lookI, IL, onOpt]
theorem inv_275_Swap (C : FuncId → List Value → M Value) (v : Value) (args : List Value) : methI C "Swap" (.iface 275 v) args = dLoad (lookT TL) 245 v fun u => C 300 (u :: args) := by simp [methI, methV, lookI, IL, onOpt]
theorem inv_275_Pop (C : FuncId → List Value → M Value) (v : Value) (args : List Value) : methI C "Pop" (.iface 275 v) args = C 301 (v :: args) := by simp [methI, methV, lookI, IL, onOpt]
theorem inv_275_Less (C : FuncId → List Value → M Value) (v : Value) (args : List Value) : methI C "Less" (.iface 275 v) args = dLoad (lookT TL) 245 v fun u => C 299 (u :: args) := by simp [methI, methV, lookI, IL, onOpt]
def tb (L:List (Nat×(List Value->M Value))) (C:FuncId->List Value->M Value):Tb:={ T:=lookT TL,eq:=lookE EL,isX:=isXL XL,X:=lookX XL,C:=lookD L C,I:=methI,kk:=lookK KL }
theorem tb_ok {G:List (Nat×Obj)} (L:List (Nat×(List Value->M Value))) (C:FuncId->List Value->M Value) (h:AllC Tryz.prog G L) (hC:COK Tryz.prog G C):TbOK Tryz.prog G (tb L C):=⟨lookT_ok TL_ok,lookE_ok EL_ok,lookX_ok XL_ok,lookD_ok hC h,methI_ok,lookK_ok KL_ok,by kernel_rfl⟩
def fnG (L:List (Nat×(List Value->M Value))) (C:FuncId->List Value->M Value) (an:List (Nat×Ann)) (c:Code) (nt:Nat) (ts:List ResultVar) (args:List Value):M Value:=fnD (tb L C) (dDraw (tb L C)) (lookA an) c nt ts args
theorem fnG_ok {G : List (Nat × Obj)} {L : List (Nat × (List Value → M Value))} {C : FuncId → List Value → M Value} {an : List (Nat × Ann)} {c : Code} {nt : Nat} {ts : List ResultVar} {k : FuncId} {fn : Func} (h : AllC Tryz.prog G L) (hC : COK Tryz.prog G C) (hf : Tryz.prog.funcs[k]? = some fn) (hb : fn.body = some c := by exact rfl) (hn : fn.ntmps = nt := by exact rfl) (hr : fn.results.toList = ts := by exact rfl) (hne : fn.name ≠ "runtime.NumGoroutine" := by decide +kernel) : FnOK Tryz.prog G k (fnG L C an c nt ts) := fun _ _ _ _ h2 => fn_sound (tb_ok L C h hC) (draw_ok (tb_ok L C h hC)) hf hb hn hr hne h2
abbrev OKG (k:FuncId) (g:List Value->M Value):Prop:=∀ {G:List (Nat×Obj)},GT G->FnOK Tryz.prog G k g
def gq4c:=fnG [] noC [] (Tryz.f101.body.getD .skip) 6 [.tmp 2]
theorem gq4c_ok:OKG 101 gq4c:=λ hG=>fnG_ok trivial noC_ok Tryz.func101
theorem gq4c_eq (l ln lc):gq4c [vS l ln lc] =
 (bif decide (1024 < (↑ln:Int)) then retQ 0 [vI 1] else retQ 0 [vI 0]).bind oneV:=by kernel_rfl
def gq23:=fnG [] noC [] (Tryz.f302.body.getD .skip) 20 []
theorem gq23_ok:OKG 302 gq23:=λ hG=>fnG_ok trivial noC_ok Tryz.func302
theorem gq23_eq (q x):gq23 [vP q,x] =
 ((asF x).bind λ q_1=>bif decide (q_1.fst=273) then (asA q_1.snd).bind λ vs=>gL vs 7 (hI vs λ n=>hI vs.tail λ n_1=>hI vs.tail.tail λ n_2=>hI vs.tail.tail.tail λ n_3=>hI vs.tail.tail.tail.tail λ n_4=>hU vs.tail.tail.tail.tail.tail λ n_5=>hI vs.tail.tail.tail.tail.tail.tail λ n_6=>nB [vI 0,vI 0,vI 0,vI 0,vI 0,vU 0,vI 0] 273 λ n_7=>sL (ad n_7 0) [vI n,vI n_1,vI n_2,vI n_3,vI n_4,vU n_5,vI n_6] λ x=>onOpt q λ a=>dS a λ s=>lI n_7 0 λ n=>lI n_7 1 λ n_8=>lI n_7 2 λ n_9=>lI n_7 3 λ n_10=>lI n_7 4 λ n_11=>lU n_7 5 λ n_12=>lI n_7 6 λ n_13=>nB [vI n,vI n_8,vI n_9,vI n_10,vI n_11,vU n_12,vI n_13] 273 λ b=>(rdN (some (ad b 0)) 7).bind λ xs=>(appM 273 7 56 s.a s.n s.c 1 xs).bind λ q_2=>onOpt q λ a=>sL a [vS q_2.a q_2.n q_2.c] λ x=>retQ 0 [vT []]) else nB [vI 0,vI 0,vI 0,vI 0,vI 0,vU 0,vI 0] 273 λ n=>sL (ad n 0) [vI 0,vI 0,vI 0,vI 0,vI 0,vU 0,vI 0] λ x=>retQ 0 [vT []]).bind oneV:=by kernel_rfl
def gq20:=fnG [] noC [] (Tryz.f298.body.getD .skip) 5 [.tmp 2]
theorem gq20_ok:OKG 298 gq20:=λ hG=>fnG_ok trivial noC_ok Tryz.func298
theorem gq20_eq (q qn qc):gq20 [vS q qn qc] =
 (retQ 0 [vI (↑qn:Int)]).bind oneV:=by kernel_rfl
def gq24:=fnG [] noC [] (Tryz.f300.body.getD .skip) 20 []
theorem gq24_ok:OKG 300 gq24:=λ hG=>fnG_ok trivial noC_ok Tryz.func300
theorem gq24_eq (q qn qc i j):gq24 [vS q qn qc,vI i,vI j] =
 (onX j qn q (λ a=>xI a j 7 λ n=>dI ((ax a j 7).add 1) λ n_1=>dI ((ax a j 7).add 2) λ n_2=>dI ((ax a j 7).add 3) λ n_3=>dI ((ax a j 7).add 4) λ n_4=>dU ((ax a j 7).add 5) λ n_5=>dI ((ax a j 7).add 6) λ n_6=>onX i qn q (λ a=>xI a i 7 λ n_7=>dI ((ax a i 7).add 1) λ n_8=>dI ((ax a i 7).add 2) λ n_9=>dI ((ax a i 7).add 3) λ n_10=>dI ((ax a i 7).add 4) λ n_11=>dU ((ax a i 7).add 5) λ n_12=>dI ((ax a i 7).add 6) λ n_13=>onX i qn q (λ a=>sL (ax a i 7) [vI n,vI n_1,vI n_2,vI n_3,vI n_4,vU n_5,vI n_6] λ x=>onX j qn q (λ a=>sL (ax a j 7) [vI n_7,vI n_8,vI n_9,vI n_10,vI n_11,vU n_12,vI n_13] λ x=>retQ 0 [vT []]))))).bind oneV:=by kernel_rfl
def gq22:=fnG [] noC [] (Tryz.f301.body.getD .skip) 25 [.tmp 2]
theorem gq22_ok:OKG 301 gq22:=λ hG=>fnG_ok trivial noC_ok Tryz.func301
theorem gq22_eq (q):gq22 [vP q] =
 (onOpt q λ a=>dS a λ s=>onOpt q λ a=>dS a λ s_1=>onX (wI ((↑s.n:Int)-1)) s_1.n s_1.a (λ a=>(ld (a.add ((wI ((↑s.n:Int)-1)).toNat*7))).bI λ n=>(ld ((a.add ((wI ((↑s.n:Int)-1)).toNat*7)).add 1)).bI λ n_1=>(ld ((a.add ((wI ((↑s.n:Int)-1)).toNat*7)).add 2)).bI λ n_2=>(ld ((a.add ((wI ((↑s.n:Int)-1)).toNat*7)).add 3)).bI λ n_3=>(ld ((a.add ((wI ((↑s.n:Int)-1)).toNat*7)).add 4)).bI λ n_4=>(ld ((a.add ((wI ((↑s.n:Int)-1)).toNat*7)).add 5)).bU λ n_5=>(ld ((a.add ((wI ((↑s.n:Int)-1)).toNat*7)).add 6)).bI λ n_6=>nB [vI 0,vI 0,vI 0,vI 0,vI 0,vU 0,vI 0] 273 λ n_7=>sL (ad n_7 0) [vI n,vI n_1,vI n_2,vI n_3,vI n_4,vU n_5,vI n_6] λ x=>onOpt q λ a=>dS a λ s_2=>(cutM true true 7 s_2.a s_2.c (↑0:Int) (wI ((↑s.n:Int)-1)) (↑s_2.c:Int)).bind λ s=>onOpt q λ a=>sL a [vS s.a s.n s.c] λ x=>lI n_7 0 λ n=>lI n_7 1 λ n_8=>lI n_7 2 λ n_9=>lI n_7 3 λ n_10=>lI n_7 4 λ n_11=>lU n_7 5 λ n_12=>lI n_7 6 λ n_13=>retQ 0 [Value.iface 273 (vA [vI n,vI n_8,vI n_9,vI n_10,vI n_11,vU n_12,vI n_13])])).bind oneV:=by kernel_rfl
def gq21:=fnG [] noC [] (Tryz.f299.body.getD .skip) 44 [.tmp 6]
theorem gq21_ok:OKG 299 gq21:=λ hG=>fnG_ok trivial noC_ok Tryz.func299
theorem gq21_eq (q qn qc i j):gq21 [vS q qn qc,vI i,vI j] =
 (onX i qn q (λ a=>dI ((ax a i 7).add 3) λ n=>onX j qn q (λ a=>dI ((ax a j 7).add 3) λ n_1=>bif n != n_1 then onX i qn q (λ a=>dI ((ax a i 7).add 3) λ n=>onX j qn q (λ a=>dI ((ax a j 7).add 3) λ n_2=>retQ 0 [vB (decide (n < n_2))])) else onX i qn q (λ a=>dI ((ax a i 7).add 6) λ n=>onX j qn q (λ a=>dI ((ax a j 7).add 6) λ n_2=>retQ 0 [vB (decide (n < n_2))]))))).bind oneV:=by kernel_rfl
def aq08:List (Nat×Ann):=[(2,⟨[1],[.int .i64 0],[⟨.ex 0,[],[]⟩]⟩)]
def gq2l (C:FuncId->List Value->M Value):=fnG [] C aq08 (Tryz.f266.body.getD .skip) 23 []
theorem gq2l_ok {G:List (Nat×Obj)} (hG:GT G) (C:FuncId->List Value->M Value) (hC:COK Tryz.prog G C):FnOK Tryz.prog G 266 (gq2l C):=fnG_ok trivial hC Tryz.func266
theorem gq2l_eq (C h j):gq2l C [h,vI j] =
 ((loopM (fun st => gL st 1 (hI st fun n => bif wI ((wI (n - 1)).tdiv 2) == n then retQ 1 [] else (methI C "Less" h [vI n, vI (wI ((wI (n - 1)).tdiv 2))]).bB fun b => bif !b then retQ 1 [] else (methI C "Swap" h [vI (wI ((wI (n - 1)).tdiv 2)), vI n]).bN 0 fun vs => (retQ 0 [vI (wI ((wI (n - 1)).tdiv 2))]))) [vI j]).bind fun q => gL q.snd 0 (retQ 0 [vT []])).bind oneV := by kernel_rfl
def gq2j (C:FuncId->List Value->M Value):=fnG [(266,gq2l C)] C [] (Tryz.f243.body.getD .skip) 12 []
theorem gq2j_ok {G:List (Nat×Obj)} (hG:GT G) (C:FuncId->List Value->M Value) (hC:COK Tryz.prog G C):FnOK Tryz.prog G 243 (gq2j C):=fnG_ok ⟨gq2l_ok hG _ hC,trivial⟩ hC Tryz.func243
theorem gq2j_eq (C h x):gq2j C [h,x] =
 ((methI (lookD [(266, gq2l C)] C) "Push" h [x]).bN 0 fun vs => ((methI (lookD [(266, gq2l C)] C) "Len" h []).bI fun n => (gq2l C [h, vI (wI (n - 1))]).bN 0 fun vs => (retQ 0 [vT []]))).bind oneV := by kernel_rfl
def aq01:List (Nat×Ann):=[(3,⟨[],[],[⟨.norm,[],[]⟩,⟨.ret,[4],[.int .i64 0]⟩]⟩),(6,⟨[],[],[⟨.norm,[19],[.bool false]⟩]⟩),(58,⟨[22],[.int .i64 0],[⟨.ex 0,[],[]⟩]⟩)]
def gq1v:=fnG [(243,gq2j (lookD [(299,gq21)] (lookD [(301,gq22)] (lookD [(300,gq24)] (lookD [(298,gq20)] (lookD [(302,gq23)] noC))))))] (lookD [(299,gq21)] (lookD [(301,gq22)] (lookD [(300,gq24)] (lookD [(298,gq20)] (lookD [(302,gq23)] noC))))) aq01 (Tryz.f201.body.getD .skip) 46 [.tmp 4]
theorem gq1v_ok:OKG 201 gq1v:=λ hG=>fnG_ok ⟨gq2j_ok hG _ (lookD_ok (L:=[(299,gq21)]) (lookD_ok (L:=[(301,gq22)]) (lookD_ok (L:=[(300,gq24)]) (lookD_ok (L:=[(298,gq20)]) (lookD_ok (L:=[(302,gq23)]) noC_ok ⟨gq23_ok hG,trivial⟩) ⟨gq20_ok hG,trivial⟩) ⟨gq24_ok hG,trivial⟩) ⟨gq22_ok hG,trivial⟩) ⟨gq21_ok hG,trivial⟩),trivial⟩ (lookD_ok (L:=[(299,gq21)]) (lookD_ok (L:=[(301,gq22)]) (lookD_ok (L:=[(300,gq24)]) (lookD_ok (L:=[(298,gq20)]) (lookD_ok (L:=[(302,gq23)]) noC_ok ⟨gq23_ok hG,trivial⟩) ⟨gq20_ok hG,trivial⟩) ⟨gq24_ok hG,trivial⟩) ⟨gq22_ok hG,trivial⟩) ⟨gq21_ok hG,trivial⟩) Tryz.func201
def kq5r:Option Addr->Option Addr->Nat->Nat×List Value->M (Nat×List Value):=
 λ a l ln q=>pickM [gL q.snd 0 ((loopM (λ st=>gL st 1 (hI st λ n=>bif decide (n < (↑ln:Int)) then onX n ln l (λ a_1=>xI a_1 n 6 λ n_1=>dI ((ax a_1 n 6).add 1) λ n_2=>dI ((ax a_1 n 6).add 2) λ n_3=>dI ((ax a_1 n 6).add 3) λ n_4=>dI ((ax a_1 n 6).add 4) λ n_5=>dU ((ax a_1 n 6).add 5) λ n_6=>nB [vI 0,vI 0,vI 0,vI 0,vI 0,vU 0] 82 λ n_7=>sL (ad n_7 0) [vI n_1,vI n_2,vI n_3,vI n_4,vI n_5,vU n_6] λ x=>onOpt a λ a_2=>lI n_7 0 λ n_8=>lI n_7 1 λ n_9=>lI n_7 2 λ n_10=>lI n_7 3 λ n_11=>lI n_7 4 λ n_12=>lU n_7 5 λ n_13=>onOpt a λ a_3=>dI (a_3.add 1) λ n_14=>(gq2j (lookD [(299,gq21)] (lookD [(301,gq22)] (lookD [(300,gq24)] (lookD [(298,gq20)] (lookD [(302,gq23)] noC))))) [Value.iface 275 (vP (some a_2)),Value.iface 273 (vA [vI n_8,vI n_9,vI n_10,vI n_11,vI n_12,vU n_13,vI n_14])]).bN 0 λ vs=>(onOpt a λ a_4=>dI (a_4.add 1) λ n_15=>onOpt a λ a=>sL (a.add 1) [vI (wI (n_15+1))] λ x=>retQ 0 [vI (wI (n+1))])) else retQ 1 [])) [vI 0]).bind λ q=>gL q.snd 0 (retQ 0 [vI 0])),gL q.snd 1 (hI q.snd λ n=>retQ 0 [vI n])] q.fst
theorem gq1v_eq (a l ln lc):gq1v [vP a,vS l ln lc] =
 (((bif a.isNone then retQ 0 [vB true] else onOpt a λ a=>dS a λ s=>retQ 0 [vB (decide (wI (1024-(↑s.n:Int)) < (↑ln:Int)))]).bind λ q=>gL q.snd 1 (hB q.snd λ b=>bif b then retQ 1 [vI 1] else retQ 0 [])).bind (kq5r a l ln)).bind oneV:=by kernel_rfl
def gq1y:=fnG [(201,gq1v)] noC [] (Tryz.f150.body.getD .skip) 15 [.tmp 2,.tmp 3]
theorem gq1y_ok:OKG 150 gq1y:=λ hG=>fnG_ok ⟨gq1v_ok hG,trivial⟩ noC_ok Tryz.func150
theorem gq1y_eq (l ln lc):gq1y [vS l ln lc] =
 (nB [vS none 0 0,vI 0] 247 λ n=>(gq1v [vP (some (ad n 0)),vS l ln lc]).bI λ n_1=>bif n_1 != 0 then retQ 0 [vT [vP none,vI n_1]] else retQ 0 [vT [vP (some (ad n 0)),vI 0]]).bind oneV:=by kernel_rfl
def gq3i:=fnG [(101,gq4c),(150,gq1y)] noC [] (Tryz.f77.body.getD .skip) 25 [.tmp 4]
theorem gq3i_ok:OKG 77 gq3i:=λ hG=>fnG_ok ⟨gq4c_ok hG,gq1y_ok hG,trivial⟩ noC_ok Tryz.func77
theorem gq3i_eq (m l ln lc):gq3i [vP m,vS l ln lc] =
 ((gq4c [vS l ln lc]).bI λ n=>bif n != 0 then retQ 0 [vI n] else (gq1y [vS l ln lc]).bN 2 λ vs=>(hP vs λ p=>hI vs.tail λ n=>bif n != 0 then retQ 0 [vI n] else onOpt m λ a=>sL (a.add 1) [vP p] λ x=>retQ 0 [vI 0])).bind oneV:=by kernel_rfl
def aq0l:List (Nat×Ann):=[(3,⟨[],[],[⟨.norm,[],[]⟩,⟨.ret,[4,5],[.pointer none,.int .i64 0]⟩]⟩)]
def gq3k:=fnG [(77,gq3i)] noC aq0l (Tryz.f62.body.getD .skip) 25 [.tmp 4,.tmp 5]
theorem gq3k_ok:OKG 62 gq3k:=λ hG=>fnG_ok ⟨gq3i_ok hG,trivial⟩ noC_ok Tryz.func62
theorem gq3k_eq (words l ln lc):gq3k [vI words,vS l ln lc] =
 ((bif decide (words < 1) then retQ 1 [vP none,vI 1] else bif decide (16384 < words) then retQ 1 [vP none,vI 1] else retQ 0 []).bind λ q=>pickM [gL q.snd 0 (guardM (0<=words/\words<=words/\words<=281474976710656/\(↑8:Int)*words<=281474976710656/\[vU 0].all flatV=true) (nB (zeroC words.toNat [vU 0]) 24 λ n=>nB [vS (some (ad n 0)) words.toNat words.toNat,vP none,vI 0,vI 0] 137 λ n=>(gq3i [vP (some (ad n 0)),vS l ln lc]).bI λ n_1=>bif n_1 != 0 then retQ 0 [vT [vP none,vI n_1]] else retQ 0 [vT [vP (some (ad n 0)),vI 0]])),gL q.snd 2 (hP q.snd λ p=>hI q.snd.tail λ n=>retQ 0 [vT [vP p,vI n]])] q.fst).bind oneV:=by kernel_rfl
def aq00:List (Nat×Ann):=[(3,⟨[],[],[⟨.norm,[],[]⟩,⟨.ret,[2,3],[.int .i64 0,.int .i64 0]⟩]⟩)]
def gq1u:=fnG [] noC aq00 (Tryz.f195.body.getD .skip) 22 [.tmp 2,.tmp 3]
theorem gq1u_ok:OKG 195 gq1u:=λ hG=>fnG_ok trivial noC_ok Tryz.func195
theorem gq1u_eq (a):gq1u [vP a] =
 ((bif a.isNone then retQ 1 [vI 0,vI 9] else onOpt a λ a=>dS a λ s=>bif (↑s.n:Int) == 0 then retQ 1 [vI 0,vI 9] else retQ 0 []).bind λ q=>pickM [gL q.snd 0 (onOpt a λ a=>dS a λ s=>guardM (0<=Int.ofNat 0/\0 < (↑s.n:Int)) (onOpt s.a λ a=>dI (a.add 3) λ n=>retQ 0 [vT [vI n,vI 0]])),gL q.snd 2 (hI q.snd λ n=>hI q.snd.tail λ n_1=>retQ 0 [vT [vI n,vI n_1]])] q.fst).bind oneV:=by kernel_rfl
def gq1z:=fnG [] noC [] (Tryz.f203.body.getD .skip) 8 [.tmp 4]
theorem gq1z_ok:OKG 203 gq1z:=λ hG=>fnG_ok trivial noC_ok Tryz.func203
theorem gq1z_eq (t tick):gq1z [vI t,vI tick] =
 (retQ 0 [vB (decide (tick<=t))]).bind oneV:=by kernel_rfl
def aq07:List (Nat×Ann):=[(28,⟨[7],[.int .i64 0],[⟨.ex 0,[7],[.int .i64 0]⟩]⟩),(225,⟨[],[],[⟨.norm,[],[]⟩,⟨.ex 0,[],[]⟩]⟩),(903,⟨[],[],[⟨.norm,[9],[.int .i64 0]⟩]⟩)]
def gq2k (C:FuncId->List Value->M Value):=fnG [] C aq07 (Tryz.f267.body.getD .skip) 48 [.tmp 6]
theorem gq2k_ok {G:List (Nat×Obj)} (hG:GT G) (C:FuncId->List Value->M Value) (hC:COK Tryz.prog G C):FnOK Tryz.prog G 267 (gq2k C):=fnG_ok trivial hC Tryz.func267
theorem gq2k_eq (C h i0 n):gq2k C [h,vI i0,vI n] =
 ((loopM (fun st => gL st 1 (hI st fun n_1 => (bif decide (n ≤ wI (wI (2 * n_1) + 1)) then retQ 1 [] else bif decide (wI (wI (2 * n_1) + 1) < 0) then retQ 1 [] else retQ 0 []).bind fun q => pickM [gL q.snd 0 ((bif decide (wI (wI (wI (2 * n_1) + 1) + 1) < n) then (methI C "Less" h [vI (wI (wI (wI (2 * n_1) + 1) + 1)), vI (wI (wI (2 * n_1) + 1))]).bB fun b => bif b then retQ 0 [vI (wI (wI (wI (2 * n_1) + 1) + 1))] else retQ 0 [vI (wI (wI (2 * n_1) + 1))] else retQ 0 [vI (wI (wI (2 * n_1) + 1))]).bind fun q => gL q.snd 1 (hI q.snd fun n => (methI C "Less" h [vI n, vI n_1]).bB fun b => bif !b then retQ 1 [vI n_1] else (methI C "Swap" h [vI n_1, vI n]).bN 0 fun vs => (retQ 0 [vI n]))), gL q.snd 0 (retQ 1 [vI n_1])] q.fst)) [vI i0]).bind fun q => gL q.snd 1 (hI q.snd fun n => retQ 0 [vB (decide (i0 < n))])).bind oneV := by kernel_rfl
def gq2i (C:FuncId->List Value->M Value):=fnG [(267,gq2k C)] C [] (Tryz.f244.body.getD .skip) 15 [.tmp 2]
theorem gq2i_ok {G:List (Nat×Obj)} (hG:GT G) (C:FuncId->List Value->M Value) (hC:COK Tryz.prog G C):FnOK Tryz.prog G 244 (gq2i C):=fnG_ok ⟨gq2k_ok hG _ hC,trivial⟩ hC Tryz.func244
theorem gq2i_eq (C h):gq2i C [h] =
 ((methI (lookD [(267, gq2k C)] C) "Len" h []).bI fun n => (methI (lookD [(267, gq2k C)] C) "Swap" h [vI 0, vI (wI (n - 1))]).bN 0 fun vs => ((gq2k C [h, vI 0, vI (wI (n - 1))]).bB fun b => (methI (lookD [(267, gq2k C)] C) "Pop" h []).bind fun v => retQ 0 [v])).bind oneV := by kernel_rfl
def aq02:List (Nat×Ann):=[(28,⟨[5],[.slice none 0 0],[⟨.ex 0,[5],[.slice none 0 0]⟩]⟩),(56,⟨[],[],[⟨.norm,[],[]⟩,⟨.ex 0,[],[]⟩]⟩)]
def gq1x (C:FuncId->List Value->M Value):=fnG [(244,gq2i (lookD [(299,gq21)] (lookD [(301,gq22)] (lookD [(300,gq24)] (lookD [(298,gq20)] (lookD [(302,gq23)] C))))))] (lookD [(299,gq21)] (lookD [(301,gq22)] (lookD [(300,gq24)] (lookD [(298,gq20)] (lookD [(302,gq23)] C))))) aq02 (Tryz.f202.body.getD .skip) 42 [.tmp 4]
theorem gq1x_ok {G:List (Nat×Obj)} (hG:GT G) (C:FuncId->List Value->M Value) (hC:COK Tryz.prog G C):FnOK Tryz.prog G 202 (gq1x C):=fnG_ok ⟨gq2i_ok hG _ (lookD_ok (L:=[(299,gq21)]) (lookD_ok (L:=[(301,gq22)]) (lookD_ok (L:=[(300,gq24)]) (lookD_ok (L:=[(298,gq20)]) (lookD_ok (L:=[(302,gq23)]) hC ⟨gq23_ok hG,trivial⟩) ⟨gq20_ok hG,trivial⟩) ⟨gq24_ok hG,trivial⟩) ⟨gq22_ok hG,trivial⟩) ⟨gq21_ok hG,trivial⟩),trivial⟩ (lookD_ok (L:=[(299,gq21)]) (lookD_ok (L:=[(301,gq22)]) (lookD_ok (L:=[(300,gq24)]) (lookD_ok (L:=[(298,gq20)]) (lookD_ok (L:=[(302,gq23)]) hC ⟨gq23_ok hG,trivial⟩) ⟨gq20_ok hG,trivial⟩) ⟨gq24_ok hG,trivial⟩) ⟨gq22_ok hG,trivial⟩) ⟨gq21_ok hG,trivial⟩) Tryz.func202
theorem gq1x_eq (C a may):gq1x C [vP a,may] =
 ((loopM (λ st=>gL st 1 (hS st λ s=>(onOpt a λ a_1=>dS a_1 λ s=>bif decide (0 < (↑s.n:Int)) then onOpt a λ a=>dS a λ s=>guardM (0<=Int.ofNat 0/\0 < (↑s.n:Int)) (onOpt s.a λ a=>dI (a.add 3) λ n=>(callV (lookD [(244,gq2i (lookD [(299,gq21)] (lookD [(301,gq22)] (lookD [(300,gq24)] (lookD [(298,gq20)] (lookD [(302,gq23)] C))))))] (lookD [(299,gq21)] (lookD [(301,gq22)] (lookD [(300,gq24)] (lookD [(298,gq20)] (lookD [(302,gq23)] C)))))) may [vI n]).bB λ b=>bif b then retQ 0 [] else retQ 1 []) else retQ 1 []).bind λ q=>pickM [gL q.snd 0 (onOpt a λ a=>(gq2i (lookD [(299,gq21)] (lookD [(301,gq22)] (lookD [(300,gq24)] (lookD [(298,gq20)] (lookD [(302,gq23)] C))))) [Value.iface 275 (vP (some a))]).bind λ v=>(asF v).bind λ q=>bif decide (q.fst=273) then (asA q.snd).bind λ vs=>gL vs 7 (hI vs λ n=>hI vs.tail λ n_1=>hI vs.tail.tail λ n_2=>hI vs.tail.tail.tail λ n_3=>hI vs.tail.tail.tail.tail λ n_4=>hU vs.tail.tail.tail.tail.tail λ n_5=>hI vs.tail.tail.tail.tail.tail.tail λ n_6=>nB [vI 0,vI 0,vI 0,vI 0,vI 0,vU 0,vI 0] 273 λ n_7=>sL (ad n_7 0) [vI n,vI n_1,vI n_2,vI n_3,vI n_4,vU n_5,vI n_6] λ x=>lI n_7 0 λ n=>lI n_7 1 λ n_8=>lI n_7 2 λ n_9=>lI n_7 3 λ n_10=>lI n_7 4 λ n_11=>lU n_7 5 λ n_12=>nB [vI n,vI n_8,vI n_9,vI n_10,vI n_11,vU n_12] 82 λ b=>(rdN (some (ad b 0)) 6).bind λ xs=>(appM 82 6 48 s.a s.n s.c 1 xs).bind λ q=>retQ 0 [vS q.a q.n q.c]) else nB [vI 0,vI 0,vI 0,vI 0,vI 0,vU 0,vI 0] 273 λ n=>sL (ad n 0) [vI 0,vI 0,vI 0,vI 0,vI 0,vU 0,vI 0] λ x=>retQ 0 [vS s.a s.n s.c]),gL q.snd 0 (retQ 1 [vS s.a s.n s.c])] q.fst)) [vS none 0 0]).bind λ q=>gL q.snd 1 (hS q.snd λ s=>retQ 0 [vS s.a s.n s.c])).bind oneV:=by kernel_rfl
def gq1t:=fnG [(202,gq1x (lookD [(203,gq1z)] noC))] (lookD [(203,gq1z)] noC) [] (Tryz.f151.body.getD .skip) 11 [.tmp 4]
theorem gq1t_ok:OKG 151 gq1t:=λ hG=>fnG_ok ⟨gq1x_ok hG _ (lookD_ok (L:=[(203,gq1z)]) noC_ok ⟨gq1z_ok hG,trivial⟩),trivial⟩ (lookD_ok (L:=[(203,gq1z)]) noC_ok ⟨gq1z_ok hG,trivial⟩) Tryz.func151
theorem gq1t_eq (a tick):gq1t [vP a,vI tick] =
 (bif a.isNone then retQ 0 [vS none 0 0] else (gq1x (lookD [(203,gq1z)] noC) [vP a,Value.func (Fn.func 203) (ar ([vI tick])) (ar ([]))]).bS λ s=>retQ 0 [vS s.a s.n s.c]).bind oneV:=by kernel_rfl
def gq3h:=fnG [(151,gq1t)] noC [] (Tryz.f196.body.getD .skip) 11 [.tmp 1]
theorem gq3h_ok:OKG 196 gq3h:=λ hG=>fnG_ok ⟨gq1t_ok hG,trivial⟩ noC_ok Tryz.func196
theorem gq3h_eq (c0):gq3h [vP c0] =
 (onOpt c0 λ a=>dP a λ p=>onOpt p λ a=>dP (a.add 1) λ p=>onOpt c0 λ a=>dP a λ p_1=>onOpt p_1 λ a=>dI (a.add 2) λ n=>(gq1t [vP p,vI n]).bS λ s=>retQ 0 [vS s.a s.n s.c]).bind oneV:=by kernel_rfl
def aq0k:List (Nat×Ann):=[(6,⟨[9],[.int .i64 0],[⟨.ex 0,[],[]⟩]⟩),(51,⟨[],[],[⟨.norm,[],[]⟩]⟩),(409,⟨[],[],[⟨.norm,[25],[.bool false]⟩]⟩)]
def gq3j (C:FuncId->List Value->M Value):=fnG [] C aq0k (Tryz.f78.body.getD .skip) 39 []
theorem gq3j_ok {G:List (Nat×Obj)} (hG:GT G) (C:FuncId->List Value->M Value) (hC:COK Tryz.prog G C):FnOK Tryz.prog G 78 (gq3j C):=fnG_ok trivial hC Tryz.func78
def kq5x:Option Addr->Nat->Nat×List Value->M (Nat×List Value):=
 λ m n q=>gL q.snd 1 (hB q.snd λ b=>bif b then onOpt m λ a=>dS a λ s=>lI n 4 λ n_1=>onX n_1 s.n s.a (λ a=>xU a n_1 1 λ n_2=>lU n 5 λ n=>onX n_1 s.n s.a (λ a=>sL (ax a n_1 1) [vU (wU (↑(BitVec.ofInt IntKind.u64.bits n_2 ^^^ BitVec.ofInt IntKind.u64.bits n).toNat:Int))] λ x=>retQ 0 [])) else retQ 0 [])
theorem gq3j_eq (C m told):gq3j C [vP m,told] =
 ((callV C told []).bS λ s=>(loopM (λ st=>gL st 1 (hI st λ n=>bif decide (n < (↑s.n:Int)) then (onX n s.n s.a (λ a=>xI a n 6 λ n_1=>dI ((ax a n 6).add 1) λ n_2=>dI ((ax a n 6).add 2) λ n_3=>dI ((ax a n 6).add 3) λ n_4=>dI ((ax a n 6).add 4) λ n_5=>dU ((ax a n 6).add 5) λ n=>nB [vI 0,vI 0,vI 0,vI 0,vI 0,vU 0] 82 λ n_6=>sL (ad n_6 0) [vI n_1,vI n_2,vI n_3,vI n_4,vI n_5,vU n] λ x=>(lI n_6 4 λ n=>bif decide (0<=n) then lI n_6 4 λ n=>onOpt m λ a=>dS a λ s=>retQ 0 [vB (decide (n < (↑s.n:Int)))] else retQ 0 [vB false]).bind (kq5x m n_6))).bind λ q=>gL q.snd 0 (retQ 0 [vI (wI (n+1))]) else retQ 1 [])) [vI 0]).bind λ q=>gL q.snd 0 (retQ 0 [vT []])).bind oneV:=by kernel_rfl
def aq0j:List (Nat×Ann):=[(3,⟨[],[],[⟨.norm,[],[]⟩,⟨.ret,[4],[.int .i64 0]⟩]⟩),(6,⟨[],[],[⟨.norm,[21],[.bool false]⟩]⟩),(7,⟨[],[],[⟨.norm,[],[]⟩]⟩)]
def gq3g:=fnG [(195,gq1u),(78,gq3j (lookD [(196,gq3h)] noC))] (lookD [(196,gq3h)] noC) aq0j (Tryz.f135.body.getD .skip) 50 [.tmp 4]
theorem gq3g_ok:OKG 135 gq3g:=λ hG=>fnG_ok ⟨gq1u_ok hG,gq3j_ok hG _ (lookD_ok (L:=[(196,gq3h)]) noC_ok ⟨gq3h_ok hG,trivial⟩),trivial⟩ (lookD_ok (L:=[(196,gq3h)]) noC_ok ⟨gq3h_ok hG,trivial⟩) Tryz.func135
def kq5w:Nat->Nat×List Value->M (Nat×List Value):=
 λ n q=>pickM [gL q.snd 0 ((lP n 0 λ p=>onOpt p λ a=>dP (a.add 1) λ p=>(gq1u [vP p]).bN 2 λ vs=>(hI vs λ n_1=>hI vs.tail λ n_2=>bif n_2 == 0 then lP n 0 λ p=>onOpt p λ a=>dI (a.add 2) λ n_3=>bif decide (n_1<=n_3) then lP n 0 λ p=>(gq3j (lookD [(196,gq3h)] noC) [vP p,Value.func (Fn.func 196) (ar ([])) (ar ([vP (some (ad n 0))]))]).bN 0 λ vs=>(retQ 0 []) else retQ 0 [] else retQ 0 [])).bind λ q=>gL q.snd 0 (lP n 0 λ p=>onOpt p λ a=>dI (a.add 2) λ n=>onOpt p λ a=>sL (a.add 2) [vI (wI (n+1))] λ x=>retQ 0 [vI 0])),gL q.snd 1 (hI q.snd λ n=>retQ 0 [vI n])] q.fst
theorem gq3g_eq (m addr):gq3g [vP m,vI addr] =
 (nB [vP m] 34 λ n=>((lP n 0 λ p=>bif p.isNone then retQ 0 [vB true] else bif decide (addr < 0) then retQ 0 [vB true] else lP n 0 λ p=>onOpt p λ a=>dS a λ s=>retQ 0 [vB (decide ((↑s.n:Int)<=addr))]).bind λ q=>gL q.snd 1 (hB q.snd λ b=>bif b then retQ 1 [vI 1] else retQ 0 [])).bind (kq5w n)).bind oneV:=by kernel_rfl
def gq3e:=fnG [(135,gq3g)] noC [] (Tryz.f63.body.getD .skip) 21 [.tmp 6]
theorem gq3e_ok:OKG 63 gq3e:=λ hG=>fnG_ok ⟨gq3g_ok hG,trivial⟩ noC_ok Tryz.func63
theorem gq3e_eq (m addr w):gq3e [vP m,vI addr,vU w] =
 ((gq3g [vP m,vI addr]).bI λ n=>bif n != 0 then retQ 0 [vI n] else onOpt m λ a=>dS a λ s=>onX addr s.n s.a (λ a=>sL (ax a addr 1) [vU w] λ x=>retQ 0 [vI 0])).bind oneV:=by kernel_rfl
def gq1w:=fnG [(151,gq1t)] noC [] (Tryz.f79.body.getD .skip) 5 [.tmp 2]
theorem gq1w_ok:OKG 79 gq1w:=λ hG=>fnG_ok ⟨gq1t_ok hG,trivial⟩ noC_ok Tryz.func79
theorem gq1w_eq (a):gq1w [vP a] =
 ((gq1t [vP a,vI 9223372036854775807]).bS λ s=>retQ 0 [vS s.a s.n s.c]).bind oneV:=by kernel_rfl
def gq3d:=fnG [(77,gq3i),(78,gq3j (lookD [(79,gq1w)] noC))] (lookD [(79,gq1w)] noC) [] (Tryz.f28.body.getD .skip) 37 [.tmp 4]
theorem gq3d_ok:OKG 28 gq3d:=λ hG=>fnG_ok ⟨gq3i_ok hG,gq3j_ok hG _ (lookD_ok (L:=[(79,gq1w)]) noC_ok ⟨gq1w_ok hG,trivial⟩),trivial⟩ (lookD_ok (L:=[(79,gq1w)]) noC_ok ⟨gq1w_ok hG,trivial⟩) Tryz.func28
theorem gq3d_eq (m l ln lc):gq3d [vP m,vS l ln lc] =
 (bif m.isNone then retQ 0 [vI 1] else onOpt m λ a=>dP (a.add 1) λ p=>(gq3i [vP m,vS l ln lc]).bI λ n=>bif n != 0 then retQ 0 [vI n] else (gq3j (lookD [(79,gq1w)] noC) [vP m,Value.func (Fn.func 79) (ar ([vP p])) (ar ([]))]).bN 0 λ vs=>(onOpt m λ a=>dI (a.add 3) λ n=>onOpt m λ a=>dI (a.add 2) λ n_1=>onOpt m λ a=>sL (a.add 3) [vI (wI (n+n_1))] λ x=>onOpt m λ a=>sL (a.add 2) [vI 0] λ x=>retQ 0 [vI 0])).bind oneV:=by kernel_rfl
def gq2s:=fnG [] noC [] (Tryz.f167.body.getD .skip) 8 [.tmp 2]
theorem gq2s_ok:OKG 167 gq2s:=λ hG=>fnG_ok trivial noC_ok Tryz.func167
theorem gq2s_eq (p):gq2s [vU p] =
 (bif p == 18446744069414584321 then retQ 0 [vB true] else bif p == 998244353 then retQ 0 [vB true] else bif p == 2013265921 then retQ 0 [vB true] else retQ 0 [vB false]).bind oneV:=by kernel_rfl
def aq0h:List (Nat×Ann):=[(58,⟨[11],[.int .i64 0],[⟨.ex 0,[],[]⟩]⟩)]
def gq37:=fnG [] noC aq0h (Tryz.f117.body.getD .skip) 23 [.tmp 2]
theorem gq37_ok:OKG 117 gq37:=λ hG=>fnG_ok trivial noC_ok Tryz.func117
theorem gq37_eq (axes axesn axesc):gq37 [vS axes axesn axesc] =
 (guardM (0<=(↑axesn:Int)/\(↑axesn:Int)<=(↑axesn:Int)/\(↑axesn:Int)<=281474976710656/\(↑8:Int)*(↑axesn:Int)<=281474976710656/\[vI 0].all flatV=true) (nB (zeroC (↑axesn:Int).toNat [vI 0]) 3 λ n=>(loopM (λ st=>gL st 1 (hI st λ n_1=>bif decide (n_1 < (↑axesn:Int)) then onX n_1 axesn axes (λ a=>xI a n_1 2 λ n_2=>dB ((ax a n_1 2).add 1) λ b=>nB [vI 0,vB false] 113 λ n_3=>sL (ad n_3 0) [vI n_2,vB b] λ x=>lI n_3 0 λ n_4=>guardM (0<=n_1/\n_1 < (↑(↑axesn:Int).toNat:Int)) (sL ((ad n 0).add (n_1.toNat*1)) [vI n_4] λ x=>retQ 0 [vI (wI (n_1+1))])) else retQ 1 [])) [vI 0]).bind λ q=>gL q.snd 0 (retQ 0 [vS (some (ad n 0)) (↑axesn:Int).toNat (↑axesn:Int).toNat]))).bind oneV:=by kernel_rfl
def aq10:List (Nat×Ann):=[(3,⟨[],[],[⟨.norm,[],[]⟩,⟨.ret,[2,3],[.int .i64 0,.int .i64 0]⟩]⟩),(122,⟨[4,17],[.int .i64 0,.int .i64 0],[⟨.ex 0,[4],[.int .i64 0]⟩,⟨.ret,[2,3],[.int .i64 0,.int .i64 0]⟩]⟩)]
def gq4f:=fnG [] noC aq10 (Tryz.f116.body.getD .skip) 34 [.tmp 2,.tmp 3]
theorem gq4f_ok:OKG 116 gq4f:=λ hG=>fnG_ok trivial noC_ok Tryz.func116
theorem gq4f_eq (dims dimsn dimsc):gq4f [vS dims dimsn dimsc] =
 ((bif decide ((↑dimsn:Int) < 1) then retQ 1 [vI 0,vI 3] else bif decide (4 < (↑dimsn:Int)) then retQ 1 [vI 0,vI 3] else retQ 0 []).bind λ q=>pickM [gL q.snd 0 ((loopM (λ st=>gL st 2 (hI st λ n=>hI st.tail λ n_1=>bif decide (n_1 < (↑dimsn:Int)) then onX n_1 dimsn dims (λ a=>xI a n_1 1 λ n_2=>bif decide (n_2 < 1) then retQ 2 [vI 0,vI 3] else bif decide (4096 < n_2) then retQ 2 [vI 0,vI 3] else bif decide (4096 < wI (n*n_2)) then retQ 2 [vI 0,vI 3] else retQ 0 [vI (wI (n*n_2)),vI (wI (n_1+1))]) else retQ 1 [vI n])) [vI 1,vI 0]).bind λ q=>pickM [gL q.snd 1 (hI q.snd λ n=>retQ 0 [vT [vI n,vI 0]]),gL q.snd 2 (hI q.snd λ n=>hI q.snd.tail λ n_1=>retQ 0 [vT [vI n,vI n_1]])] (q.fst-1)),gL q.snd 2 (hI q.snd λ n=>hI q.snd.tail λ n_1=>retQ 0 [vT [vI n,vI n_1]])] q.fst).bind oneV:=by kernel_rfl
def gq2n:List Value->M Value:=radG
theorem gq2n_ok {G:List (Nat×Obj)} (hG:GT G):FnOK Tryz.prog G 214 gq2n:=rad_leaf hG
def gq2o:=fnG [(214,gq2n)] noC [] (Tryz.f179.body.getD .skip) 12 [.tmp 2]
theorem gq2o_ok:OKG 179 gq2o:=λ hG=>fnG_ok ⟨gq2n_ok hG,trivial⟩ noC_ok Tryz.func179
theorem gq2o_eq (n):gq2o [vI n] =
 ((gq2n [vI n]).bN 2 λ vs=>(hS vs λ s=>hI vs.tail λ n=>retQ 0 [vB (n == 0)])).bind oneV:=by kernel_rfl
def gq4b:=fnG [(167,gq2s)] noC [] (Tryz.f232.body.getD .skip) 16 [.tmp 4]
theorem gq4b_ok:OKG 232 gq4b:=λ hG=>fnG_ok ⟨gq2s_ok hG,trivial⟩ noC_ok Tryz.func232
theorem gq4b_eq (p n):gq4b [vU p,vI n] =
 ((gq2s [vU p]).bB λ b=>bif !b then retQ 0 [vI 2] else bif decide (n < 1) then retQ 0 [vI 1] else bif decide (8192 < n) then retQ 0 [vI 1] else retQ 0 [vI 0]).bind oneV:=by kernel_rfl
def gq49:List Value->M Value:=genG
theorem gq49_ok {G:List (Nat×Obj)} (hG:GT G):FnOK Tryz.prog G 233 gq49:=gen_leaf
def gq2u:List Value->M Value:=redG
theorem gq2u_ok {G:List (Nat×Obj)} (hG:GT G):FnOK Tryz.prog G 130 gq2u:=red_leaf
def gq25:List Value->M Value:=lenG
theorem gq25_ok {G:List (Nat×Obj)} (hG:GT G):FnOK Tryz.prog G 246 gq25:=len_leaf
def gq2t:List Value->M Value:=mulG
theorem gq2t_ok {G:List (Nat×Obj)} (hG:GT G):FnOK Tryz.prog G 132 gq2t:=mul_leaf
def aq0s:List (Nat×Ann):=[(58,⟨[7,8],[.int .u64 0,.int .i64 0],[⟨.ex 0,[7],[.int .u64 0]⟩]⟩)]
def gq3y:=fnG [(130,gq2u),(246,gq25),(132,gq2t)] noC aq0s (Tryz.f207.body.getD .skip) 32 [.tmp 6]
theorem gq3y_ok:OKG 207 gq3y:=λ hG=>fnG_ok ⟨gq2u_ok hG,gq25_ok hG,gq2t_ok hG,trivial⟩ noC_ok Tryz.func207
theorem gq3y_eq (p a n):gq3y [vU p,vU a,vU n] =
 ((gq2u [vU p,vU 1]).bU λ n_1=>(gq25 [vU n]).bI λ n_2=>(loopM (λ st=>gL st 2 (hU st λ n_3=>hI st.tail λ n_4=>bif decide (0<=n_4) then (gq2t [vU p,vU n_3,vU n_3]).bU λ n_5=>guardM (0<=n_4) (bif wU (↑(BitVec.ofInt IntKind.u64.bits (n.fdiv (2 ^ min n_4.toNat IntKind.u64.bits)) &&& BitVec.ofInt IntKind.u64.bits 1).toNat:Int) == 1 then (gq2t [vU p,vU n_5,vU a]).bU λ n=>retQ 0 [vU n,vI (wI (n_4-1))] else retQ 0 [vU n_5,vI (wI (n_4-1))]) else retQ 1 [vU n_3])) [vU n_1,vI (wI (n_2-1))]).bind λ q=>gL q.snd 1 (hU q.snd λ n=>retQ 0 [vU n])).bind oneV:=by kernel_rfl
def gq4a:=fnG [(232,gq4b),(233,gq49),(207,gq3y)] noC [] (Tryz.f180.body.getD .skip) 28 [.tmp 4,.tmp 5]
theorem gq4a_ok:OKG 180 gq4a:=λ hG=>fnG_ok ⟨gq4b_ok hG,gq49_ok hG,gq3y_ok hG,trivial⟩ noC_ok Tryz.func180
theorem gq4a_eq (p n):gq4a [vU p,vI n] =
 ((gq4b [vU p,vI n]).bI λ n_1=>bif n_1 != 0 then retQ 0 [vT [vU 0,vI n_1]] else guardM (wU n≠0) (bif decide (0 < (wU (p-1)).tmod (wU n)) then retQ 0 [vT [vU 0,vI 5]] else guardM (wU n≠0) ((gq49 [vU p]).bU λ n_2=>(gq3y [vU p,vU n_2,vU (wU ((wU (p-1)).tdiv (wU n)))]).bU λ n=>retQ 0 [vT [vU n,vI 0]]))).bind oneV:=by kernel_rfl
def aq0g:List (Nat×Ann):=[(250,⟨[7,26],[.int .i64 0,.int .i64 0],[⟨.ex 0,[7],[.int .i64 0]⟩,⟨.ret,[4],[.int .i64 0]⟩]⟩)]
def gq36:=fnG [(167,gq2s),(117,gq37),(116,gq4f),(179,gq2o),(180,gq4a)] noC aq0g (Tryz.f121.body.getD .skip) 50 [.tmp 4]
theorem gq36_ok:OKG 121 gq36:=λ hG=>fnG_ok ⟨gq2s_ok hG,gq37_ok hG,gq4f_ok hG,gq2o_ok hG,gq4a_ok hG,trivial⟩ noC_ok Tryz.func121
theorem gq36_eq (p axes axesn axesc):gq36 [vU p,vS axes axesn axesc] =
 ((gq2s [vU p]).bB λ b=>bif !b then retQ 0 [vI 2] else (gq37 [vS axes axesn axesc]).bS λ s=>(gq4f [vS s.a s.n s.c]).bN 2 λ vs=>(hI vs λ n=>hI vs.tail λ n=>bif n != 0 then retQ 0 [vI 3] else (loopM (λ st=>gL st 2 (hI st λ n=>hI st.tail λ n_1=>bif decide (n_1 < (↑axesn:Int)) then onX n_1 axesn axes (λ a=>xI a n_1 2 λ n_2=>dB ((ax a n_1 2).add 1) λ b=>nB [vI 0,vB false] 113 λ n_3=>sL (ad n_3 0) [vI n_2,vB b] λ x=>lI n_3 0 λ n_4=>lB n_3 1 λ b=>bif b then lI n_3 0 λ n_5=>(gq2o [vI n_5]).bB λ b=>bif !b then retQ 2 [vI 4] else (gq4a [vU p,vI (wI (n_4*2))]).bN 2 λ vs=>(hU vs λ n_6=>hI vs.tail λ n_7=>bif n_7 != 0 then retQ 0 [vI 5,vI (wI (n_1+1))] else retQ 0 [vI n,vI (wI (n_1+1))]) else lI n_3 0 λ n_5=>(gq2o [vI n_5]).bB λ b=>bif !b then retQ 2 [vI 4] else (gq4a [vU p,vI n_4]).bN 2 λ vs=>(hU vs λ n_6=>hI vs.tail λ n_7=>bif n_7 != 0 then retQ 0 [vI 5,vI (wI (n_1+1))] else retQ 0 [vI n,vI (wI (n_1+1))])) else retQ 1 [vI n])) [vI 0,vI 0]).bind λ q=>pickM [gL q.snd 1 (hI q.snd λ n=>retQ 0 [vI n]),gL q.snd 1 (hI q.snd λ n=>retQ 0 [vI n])] (q.fst-1))).bind oneV:=by kernel_rfl
def aq0a:List (Nat×Ann):=[(250,⟨[2,6,19],[.slice none 0 0,.int .i64 0,.int .i64 0],[⟨.ex 0,[2],[.slice none 0 0]⟩]⟩)]
def gq2p:=fnG [(214,gq2n)] noC aq0a (Tryz.f164.body.getD .skip) 39 [.tmp 2,.tmp 3]
theorem gq2p_ok:OKG 164 gq2p:=λ hG=>fnG_ok ⟨gq2n_ok hG,trivial⟩ noC_ok Tryz.func164
theorem gq2p_eq (n):gq2p [vI n] =
 ((gq2n [vI n]).bN 2 λ vs=>(hS vs λ s=>hI vs.tail λ n_1=>bif n_1 != 0 then retQ 0 [vT [vS none 0 0,vI n_1]] else (loopM (λ st=>gL st 3 (hS st λ s_1=>hI st.tail λ n_2=>hI st.tail.tail λ n_3=>bif decide (n_3 < (↑s.n:Int)) then onX n_3 s.n s.a (λ a=>xI a n_3 1 λ n_4=>guardM (n_2≠0) (guardM (n_4≠0) (nB [vI n_4,vI n_2,vI (wI ((wI (n.tdiv n_2)).tdiv n_4))] 27 λ b=>(rdN (some (ad b 0)) 3).bind λ xs=>(appM 27 3 24 s_1.a s_1.n s_1.c 1 xs).bind λ q=>retQ 0 [vS q.a q.n q.c,vI (wI (n_2*n_4)),vI (wI (n_3+1))]))) else retQ 1 [vS s_1.a s_1.n s_1.c])) [vS none 0 0,vI 1,vI 0]).bind λ q=>gL q.snd 1 (hS q.snd λ s=>retQ 0 [vT [vS s.a s.n s.c,vI 0]]))).bind oneV:=by kernel_rfl
def aq15:List (Nat×Ann):=[(26,⟨[8],[.int .i64 0],[⟨.ex 0,[],[]⟩,⟨.ret,[4],[.int .i64 0]⟩]⟩)]
def gq4m:=fnG [] noC aq15 (Tryz.f245.body.getD .skip) 19 [.tmp 4]
theorem gq4m_ok:OKG 245 gq4m:=λ hG=>fnG_ok trivial noC_ok Tryz.func245
theorem gq4m_eq (s sn sc v0 v1 v2):gq4m [vS s sn sc,.agg ⟨[vI v0,vI v1,vI v2]⟩] =
 (nB [vI v0,vI v1,vI v2] 27 λ n=>(loopM (λ st=>gL st 1 (hI st λ n_1=>bif decide (n_1 < (↑sn:Int)) then lI n 0 λ n_2=>lI n 1 λ n_3=>lI n 2 λ n=>onX n_1 sn s (λ a=>xI a n_1 3 λ n_4=>dI ((ax a n_1 3).add 1) λ n_5=>dI ((ax a n_1 3).add 2) λ n_6=>bif eqL (ar ([vI n_2,vI n_3,vI n])).toList (ar ([vI n_4,vI n_5,vI n_6])).toList then retQ 2 [vI n_1] else retQ 0 [vI (wI (n_1+1))]) else retQ 1 [])) [vI 0]).bind λ q=>pickM [gL q.snd 0 (retQ 0 [vI (-1)]),gL q.snd 1 (hI q.snd λ n=>retQ 0 [vI n])] (q.fst-1)).bind oneV:=by kernel_rfl
def gq4k:=fnG [(245,gq4m)] noC [] (Tryz.f205.body.getD .skip) 9 [.tmp 4]
theorem gq4k_ok:OKG 205 gq4k:=λ hG=>fnG_ok ⟨gq4m_ok hG,trivial⟩ noC_ok Tryz.func205
theorem gq4k_eq (s sn sc v0 v1 v2):gq4k [vS s sn sc,.agg ⟨[vI v0,vI v1,vI v2]⟩] =
 (nB [vI v0,vI v1,vI v2] 27 λ n=>lI n 0 λ n_1=>lI n 1 λ n_2=>lI n 2 λ n=>(gq4m [vS s sn sc,vA [vI n_1,vI n_2,vI n]]).bI λ n=>retQ 0 [vB (decide (0<=n))]).bind oneV:=by kernel_rfl
def aq1b:List (Nat×Ann):=[(7,⟨[],[],[⟨.norm,[],[]⟩,⟨.ret,[6],[.int .i64 0]⟩]⟩)]
def gq4t:=fnG [(121,gq36),(164,gq2p),(205,gq4k)] noC aq1b (Tryz.f153.body.getD .skip) 51 [.tmp 6]
theorem gq4t_ok:OKG 153 gq4t:=λ hG=>fnG_ok ⟨gq36_ok hG,gq2p_ok hG,gq4k_ok hG,trivial⟩ noC_ok Tryz.func153
theorem gq4t_eq (p axes axesn axesc s0 s1 s2 s3 s4):gq4t [vU p,vS axes axesn axesc,.agg ⟨[vI s0,vB s1,vI s2,vI s3,vI s4]⟩] =
 (nB [vI s0,vB s1,vI s2,vI s3,vI s4] 29 λ n=>(gq36 [vU p,vS axes axesn axesc]).bI λ n_1=>bif n_1 != 0 then retQ 0 [vI n_1] else (lI n 0 λ n_2=>bif decide (n_2 < 0) then retQ 1 [vI 1] else lI n 0 λ n=>bif decide ((↑axesn:Int)<=n) then retQ 1 [vI 1] else retQ 0 []).bind λ q=>pickM [gL q.snd 0 (nB [vI 0,vI 0,vI 0] 27 λ b=>lB n 1 λ b_1=>bif !b_1 then lI n 0 λ n_2=>onX n_2 axesn axes (λ a=>xI a n_2 2 λ n_3=>(gq2p [vI n_3]).bN 2 λ vs=>(hS vs λ s=>hI vs.tail λ n_4=>bif n_4 != 0 then retQ 0 [vI n_4] else lI n 2 λ n_5=>lI n 3 λ n_6=>lI n 4 λ n=>(gq4k [vS s.a s.n s.c,vA [vI n_5,vI n_6,vI n]]).bB λ b=>bif !b then retQ 0 [vI 1] else retQ 0 [vI 0])) else lI n 2 λ n_2=>lI n 3 λ n_3=>lI n 4 λ n=>(gq4k [vS (some (ad b 0)) 1 1,vA [vI n_2,vI n_3,vI n]]).bB λ b=>bif !b then retQ 0 [vI 1] else retQ 0 [vI 0]),gL q.snd 1 (hI q.snd λ n=>retQ 0 [vI n])] q.fst).bind oneV:=by kernel_rfl
def gq4v:=fnG [] noC [] (Tryz.f182.body.getD .skip) 7 []
theorem gq4v_ok:OKG 182 gq4v:=λ hG=>fnG_ok trivial noC_ok Tryz.func182
theorem gq4v_eq (g0 g0n g0c g1 g1n g1c g2 g2n g2c c0):gq4v [.agg ⟨[vS g0 g0n g0c,vS g1 g1n g1c,vS g2 g2n g2c]⟩,vP c0] =
 (nB [vS g0 g0n g0c,vS g1 g1n g1c,vS g2 g2n g2c] 128 λ n=>onOpt c0 λ a=>dS a λ s=>lS n 0 λ s_1=>lS n 1 λ s_2=>lS n 2 λ s_3=>nB [vS s_1.a s_1.n s_1.c,vS s_2.a s_2.n s_2.c,vS s_3.a s_3.n s_3.c] 128 λ b=>(rdN (some (ad b 0)) 3).bind λ xs=>(appM 128 3 72 s.a s.n s.c 1 xs).bind λ q=>onOpt c0 λ a=>sL a [vS q.a q.n q.c] λ x=>retQ 0 [vT []]).bind oneV:=by kernel_rfl
def aq11:List (Nat×Ann):=[(7,⟨[],[],[⟨.norm,[],[]⟩,⟨.ret,[4,5],[.slice none 0 0,.int .i64 0]⟩]⟩),(250,⟨[1,9],[.int .i64 0,.int .i64 0],[⟨.ex 1,[],[]⟩]⟩)]
def gq4g:=fnG [(116,gq4f)] noC aq11 (Tryz.f234.body.getD .skip) 53 [.tmp 4,.tmp 5]
theorem gq4g_ok:OKG 234 gq4g:=λ hG=>fnG_ok ⟨gq4f_ok hG,trivial⟩ noC_ok Tryz.func234
theorem gq4g_eq (dims dimsn dimsc i):gq4g [vS dims dimsn dimsc,vI i] =
 ((gq4f [vS dims dimsn dimsc]).bN 2 λ vs=>(hI vs λ n=>hI vs.tail λ n_1=>(bif n_1 != 0 then retQ 1 [vS none 0 0,vI n_1] else bif decide (i < 0) then retQ 1 [vS none 0 0,vI 1] else bif decide (n<=i) then retQ 1 [vS none 0 0,vI 1] else retQ 0 []).bind λ q=>pickM [gL q.snd 0 (guardM (0<=(↑dimsn:Int)/\(↑dimsn:Int)<=(↑dimsn:Int)/\(↑dimsn:Int)<=281474976710656/\(↑8:Int)*(↑dimsn:Int)<=281474976710656/\[vI 0].all flatV=true) (nB (zeroC (↑dimsn:Int).toNat [vI 0]) 3 λ n=>(loopM (λ st=>gL st 2 (hI st λ n_2=>hI st.tail λ n_3=>bif decide (0<=n_3) then onX n_3 dimsn dims (λ a=>xI a n_3 1 λ n_4=>guardM (n_4≠0) (onX n_3 dimsn dims (λ a=>xI a n_3 1 λ n_5=>guardM (n_5≠0) (guardM (0<=n_3/\n_3 < (↑(↑dimsn:Int).toNat:Int)) (sL ((ad n 0).add (n_3.toNat*1)) [vI (n_2.tmod n_4)] λ x=>retQ 0 [vI (wI (n_2.tdiv n_5)),vI (wI (n_3-1))]))))) else retQ 1 [])) [vI i,vI (wI ((↑dimsn:Int)-1))]).bind λ q=>gL q.snd 0 (retQ 0 [vT [vS (some (ad n 0)) (↑dimsn:Int).toNat (↑dimsn:Int).toNat,vI 0]]))),gL q.snd 2 (hS q.snd λ s=>hI q.snd.tail λ n=>retQ 0 [vT [vS s.a s.n s.c,vI n]])] q.fst)).bind oneV:=by kernel_rfl
def aq12:List (Nat×Ann):=[(7,⟨[],[],[⟨.norm,[],[]⟩,⟨.ret,[4,5],[.int .i64 0,.int .i64 0]⟩]⟩),(250,⟨[8,34],[.int .i64 0,.int .i64 0],[⟨.ex 1,[8],[.int .i64 0]⟩]⟩)]
def gq4h:=fnG [(116,gq4f)] noC aq12 (Tryz.f262.body.getD .skip) 43 [.tmp 4,.tmp 5]
theorem gq4h_ok:OKG 262 gq4h:=λ hG=>fnG_ok ⟨gq4f_ok hG,trivial⟩ noC_ok Tryz.func262
theorem gq4h_eq (dims dimsn dimsc axis):gq4h [vS dims dimsn dimsc,vI axis] =
 ((gq4f [vS dims dimsn dimsc]).bN 2 λ vs=>(hI vs λ n=>hI vs.tail λ n=>(bif n != 0 then retQ 1 [vI 0,vI n] else bif decide (axis < 0) then retQ 1 [vI 0,vI 1] else bif decide ((↑dimsn:Int)<=axis) then retQ 1 [vI 0,vI 1] else retQ 0 []).bind λ q=>pickM [gL q.snd 0 ((cutM true true 1 dims dimsc (wI (axis+1)) (↑dimsn:Int) (↑dimsc:Int)).bind λ s=>(loopM (λ st=>gL st 2 (hI st λ n=>hI st.tail λ n_1=>bif decide (n_1 < (↑s.n:Int)) then onX n_1 s.n s.a (λ a=>xI a n_1 1 λ n_2=>retQ 0 [vI (wI (n*n_2)),vI (wI (n_1+1))]) else retQ 1 [vI n])) [vI 1,vI 0]).bind λ q=>gL q.snd 1 (hI q.snd λ n=>retQ 0 [vT [vI n,vI 0]])),gL q.snd 2 (hI q.snd λ n=>hI q.snd.tail λ n_1=>retQ 0 [vT [vI n,vI n_1]])] q.fst)).bind oneV:=by kernel_rfl
def aq13:List (Nat×Ann):=[(63,⟨[],[],[⟨.norm,[],[]⟩,⟨.ret,[6,7],[.slice none 0 0,.int .i64 0]⟩]⟩),(126,⟨[],[],[⟨.norm,[45],[.bool false]⟩]⟩),(4090,⟨[61],[.int .i64 0],[⟨.ex 0,[],[]⟩]⟩)]
def gq4i:=fnG [(262,gq4h),(116,gq4f)] noC aq13 (Tryz.f227.body.getD .skip) 74 [.tmp 6,.tmp 7]
theorem gq4i_ok:OKG 227 gq4i:=λ hG=>fnG_ok ⟨gq4h_ok hG,gq4f_ok hG,trivial⟩ noC_ok Tryz.func227
def kq63:Int->Int->Int->Nat×List Value->M (Nat×List Value):=
 λ k' n n_1 q=>pickM [gL q.snd 0 (guardM (0<=n_1/\n_1<=n_1/\n_1<=281474976710656/\(↑8:Int)*n_1<=281474976710656/\[vI 0].all flatV=true) (nB (zeroC n_1.toNat [vI 0]) 3 λ n_2=>guardM (n≠0) (guardM (n≠0) ((loopM (λ st=>gL st 1 (hI st λ n_3=>bif decide (n_3 < (↑n_1.toNat:Int)) then guardM (0<=n_3/\n_3 < (↑n_1.toNat:Int)) (sL ((ad n_2 0).add (n_3.toNat*1)) [vI (wI (wI (wI (wI (wI (k'.tdiv n)*n_1)*n)+k'.tmod n)+wI (n_3*n)))] λ x=>retQ 0 [vI (wI (n_3+1))]) else retQ 1 [])) [vI 0]).bind λ q=>gL q.snd 0 (retQ 0 [vT [vS (some (ad n_2 0)) n_1.toNat n_1.toNat,vI 0]]))))),gL q.snd 2 (hS q.snd λ s=>hI q.snd.tail λ n=>retQ 0 [vT [vS s.a s.n s.c,vI n]])] q.fst
theorem gq4i_eq (dims dimsn dimsc axis k'):gq4i [vS dims dimsn dimsc,vI axis,vI k'] =
 ((gq4h [vS dims dimsn dimsc,vI axis]).bN 2 λ vs=>(hI vs λ n=>hI vs.tail λ n_1=>bif n_1 != 0 then retQ 0 [vT [vS none 0 0,vI n_1]] else (gq4f [vS dims dimsn dimsc]).bN 2 λ vs=>(hI vs λ n_2=>hI vs.tail λ n_3=>onX axis dimsn dims (λ a=>xI a axis 1 λ n_4=>((bif n_3 != 0 then retQ 0 [vB true] else bif decide (k' < 0) then retQ 0 [vB true] else guardM (n_4≠0) (retQ 0 [vB (decide (wI (n_2.tdiv n_4)<=k'))])).bind λ q=>gL q.snd 1 (hB q.snd λ b=>bif b then retQ 1 [vS none 0 0,vI 1] else retQ 0 [])).bind (kq63 k' n n_4))))).bind oneV:=by kernel_rfl
def aq1h:List (Nat×Ann):=[(58,⟨[13],[.int .i64 0],[⟨.ex 0,[],[]⟩]⟩)]
def gq52:=fnG [] noC aq1h (Tryz.f236.body.getD .skip) 26 [.tmp 6]
theorem gq52_ok:OKG 236 gq52:=λ hG=>fnG_ok trivial noC_ok Tryz.func236
theorem gq52_eq (from' more many):gq52 [vI from',vI more,vI many] =
 (guardM (0<=many/\many<=many/\many<=281474976710656/\(↑8:Int)*many<=281474976710656/\[vI 0].all flatV=true) (nB (zeroC many.toNat [vI 0]) 3 λ n=>(loopM (λ st=>gL st 1 (hI st λ n_1=>bif decide (n_1 < (↑many.toNat:Int)) then guardM (0<=n_1/\n_1 < (↑many.toNat:Int)) (sL ((ad n 0).add (n_1.toNat*1)) [vI (wI (from'+wI (more*n_1)))] λ x=>retQ 0 [vI (wI (n_1+1))]) else retQ 1 [])) [vI 0]).bind λ q=>gL q.snd 0 (retQ 0 [vS (some (ad n 0)) many.toNat many.toNat]))).bind oneV:=by kernel_rfl
def aq1g:List (Nat×Ann):=[(58,⟨[13],[.int .i64 0],[⟨.ex 0,[],[]⟩]⟩)]
def gq51:=fnG [] noC aq1g (Tryz.f235.body.getD .skip) 27 [.tmp 4]
theorem gq51_ok:OKG 235 gq51:=λ hG=>fnG_ok trivial noC_ok Tryz.func235
theorem gq51_eq (line linen linec at' at'n at'c):gq51 [vS line linen linec,vS at' at'n at'c] =
 (guardM (0<=(↑at'n:Int)/\(↑at'n:Int)<=(↑at'n:Int)/\(↑at'n:Int)<=281474976710656/\(↑8:Int)*(↑at'n:Int)<=281474976710656/\[vI 0].all flatV=true) (nB (zeroC (↑at'n:Int).toNat [vI 0]) 3 λ n=>(loopM (λ st=>gL st 1 (hI st λ n_1=>bif decide (n_1 < (↑at'n:Int)) then onX n_1 at'n at' (λ a=>xI a n_1 1 λ n_2=>onX n_2 linen line (λ a=>xI a n_2 1 λ n_3=>guardM (0<=n_1/\n_1 < (↑(↑at'n:Int).toNat:Int)) (sL ((ad n 0).add (n_1.toNat*1)) [vI n_3] λ x=>retQ 0 [vI (wI (n_1+1))]))) else retQ 1 [])) [vI 0]).bind λ q=>gL q.snd 0 (retQ 0 [vS (some (ad n 0)) (↑at'n:Int).toNat (↑at'n:Int).toNat]))).bind oneV:=by kernel_rfl
def aq1f:List (Nat×Ann):=[(2002,⟨[31],[.int .i64 0],[⟨.ex 0,[],[]⟩,⟨.ret,[6],[.int .i64 0]⟩]⟩),(506,⟨[64],[.int .i64 0],[⟨.ex 2,[],[]⟩,⟨.ret,[6],[.int .i64 0]⟩]⟩),(518558,⟨[81],[.int .i64 0],[⟨.ex 4,[],[]⟩]⟩),(132750950,⟨[87],[.int .i64 0],[⟨.ex 6,[],[]⟩]⟩)]
def gq50 (C:FuncId->List Value->M Value):=fnG [(117,gq37),(116,gq4f),(234,gq4g),(227,gq4i),(236,gq52),(235,gq51)] C aq1f (Tryz.f181.body.getD .skip) 145 [.tmp 6]
theorem gq50_ok {G:List (Nat×Obj)} (hG:GT G) (C:FuncId->List Value->M Value) (hC:COK Tryz.prog G C):FnOK Tryz.prog G 181 (gq50 C):=fnG_ok ⟨gq37_ok hG,gq4f_ok hG,gq4g_ok hG,gq4i_ok hG,gq52_ok hG,gq51_ok hG,trivial⟩ hC Tryz.func181
theorem gq50_eq (C axes axesn axesc s0 s1 s2 s3 s4 tell):gq50 C [vS axes axesn axesc,.agg ⟨[vI s0,vB s1,vI s2,vI s3,vI s4]⟩,tell] =
 (nB [vI s0,vB s1,vI s2,vI s3,vI s4] 29 λ n=>(gq37 [vS axes axesn axesc]).bS λ s=>(gq4f [vS s.a s.n s.c]).bN 2 λ vs=>(hI vs λ n_1=>hI vs.tail λ n_2=>bif n_2 != 0 then retQ 0 [vI n_2] else lB n 1 λ b=>bif b then (loopM (λ st=>gL st 1 (hI st λ n_3=>bif decide (n_3 < n_1) then (gq4g [vS s.a s.n s.c,vI n_3]).bN 2 λ vs=>(hS vs λ s=>hI vs.tail λ n_4=>bif n_4 != 0 then retQ 2 [vI n_4] else nB [vI n_3] 3 λ b=>lI n 0 λ n=>onX n s.n s.a (λ a=>xI a n 1 λ n=>nB [vI n] 3 λ b_1=>nB [vI n_3] 3 λ b_2=>(callV (lookD [(117,gq37),(116,gq4f),(234,gq4g),(227,gq4i),(236,gq52),(235,gq51)] C) tell [vA [vS (some (ad b 0)) 1 1,vS (some (ad b_1 0)) 1 1,vS (some (ad b_2 0)) 1 1]]).bN 0 λ vs=>(retQ 0 [vI (wI (n_3+1))]))) else retQ 1 [])) [vI 0]).bind λ q=>pickM [gL q.snd 0 (retQ 0 [vI 0]),gL q.snd 1 (hI q.snd λ n=>retQ 0 [vI n])] (q.fst-1) else lI n 0 λ n_3=>onX n_3 s.n s.a (λ a=>xI a n_3 1 λ n_4=>guardM (n_4≠0) ((loopM (λ st=>gL st 1 (hI st λ n_5=>bif decide (n_5 < wI (n_1.tdiv n_4)) then lI n 0 λ n_6=>(gq4i [vS s.a s.n s.c,vI n_6,vI n_5]).bN 2 λ vs=>(hS vs λ s=>hI vs.tail λ n_7=>bif n_7 != 0 then retQ 2 [vI n_7] else lI n 4 λ n_8=>(loopM (λ st=>gL st 1 (hI st λ n_9=>bif decide (n_9 < n_8) then lI n 3 λ n_10=>(loopM (λ st=>gL st 1 (hI st λ n_11=>bif decide (n_11 < n_10) then lI n 3 λ n_12=>lI n 3 λ n_13=>lI n 4 λ n_14=>lI n 2 λ n_15=>lI n 2 λ n_16=>lI n 2 λ n_17=>lI n 3 λ n_18=>lI n 2 λ n_19=>lI n 3 λ n_20=>lI n 2 λ n_21=>(gq52 [vI (wI (n_11+wI (n_12*n_9))),vI (wI (n_13*n_14)),vI n_15]).bS λ s_1=>(chk (lI n 2 λ n=>M.ret (vI n)) (vI n_21)).bind λ u=>(chk (lI n 3 λ n=>M.ret (vI n)) (vI n_20)).bind λ u=>(chk (lI n 2 λ n=>M.ret (vI n)) (vI n_19)).bind λ u=>(chk (lI n 3 λ n=>M.ret (vI n)) (vI n_18)).bind λ u=>(chk (lI n 2 λ n=>M.ret (vI n)) (vI n_17)).bind λ u=>(chk (lI n 2 λ n=>M.ret (vI n)) (vI n_16)).bind λ u=>(gq51 [vS s.a s.n s.c,vS s_1.a s_1.n s_1.c]).bS λ s_2=>(chk (lI n 2 λ n=>M.ret (vI n)) (vI n_21)).bind λ u=>(chk (lI n 3 λ n=>M.ret (vI n)) (vI n_20)).bind λ u=>(chk (lI n 2 λ n=>M.ret (vI n)) (vI n_19)).bind λ u=>(chk (lI n 3 λ n=>M.ret (vI n)) (vI n_18)).bind λ u=>(chk (lI n 2 λ n=>M.ret (vI n)) (vI n_17)).bind λ u=>(chk (lI n 2 λ n=>M.ret (vI n)) (vI n_16)).bind λ u=>(gq52 [vI (wI (n_9*n_16)),vI 1,vI n_17]).bS λ s_3=>(chk (lI n 2 λ n=>M.ret (vI n)) (vI n_21)).bind λ u=>(chk (lI n 3 λ n=>M.ret (vI n)) (vI n_20)).bind λ u=>(chk (lI n 2 λ n=>M.ret (vI n)) (vI n_19)).bind λ u=>(chk (lI n 3 λ n=>M.ret (vI n)) (vI n_18)).bind λ u=>(gq52 [vI (wI (n_11+wI (wI (n_18*n_19)*n_9))),vI n_20,vI n_21]).bS λ s_4=>(gq51 [vS s.a s.n s.c,vS s_4.a s_4.n s_4.c]).bS λ s=>(callV (lookD [(117,gq37),(116,gq4f),(234,gq4g),(227,gq4i),(236,gq52),(235,gq51)] C) tell [vA [vS s_2.a s_2.n s_2.c,vS s_3.a s_3.n s_3.c,vS s.a s.n s.c]]).bN 0 λ vs=>(retQ 0 [vI (wI (n_11+1))]) else retQ 1 [])) [vI 0]).bind λ q=>gL q.snd 0 (retQ 0 [vI (wI (n_9+1))]) else retQ 1 [])) [vI 0]).bind λ q=>gL q.snd 0 (retQ 0 [vI (wI (n_5+1))])) else retQ 1 [])) [vI 0]).bind λ q=>pickM [gL q.snd 0 (retQ 0 [vI 0]),gL q.snd 1 (hI q.snd λ n=>retQ 0 [vI n])] (q.fst-1))))).bind oneV:=by kernel_rfl
def gq4u:=fnG [(153,gq4t),(181,gq50 (lookD [(182,gq4v)] noC))] (lookD [(182,gq4v)] noC) [] (Tryz.f126.body.getD .skip) 26 [.tmp 6,.tmp 7]
theorem gq4u_ok:OKG 126 gq4u:=λ hG=>fnG_ok ⟨gq4t_ok hG,gq50_ok hG _ (lookD_ok (L:=[(182,gq4v)]) noC_ok ⟨gq4v_ok hG,trivial⟩),trivial⟩ (lookD_ok (L:=[(182,gq4v)]) noC_ok ⟨gq4v_ok hG,trivial⟩) Tryz.func126
theorem gq4u_eq (p axes axesn axesc s0 s1 s2 s3 s4):gq4u [vU p,vS axes axesn axesc,.agg ⟨[vI s0,vB s1,vI s2,vI s3,vI s4]⟩] =
 (nB [vI s0,vB s1,vI s2,vI s3,vI s4] 29 λ n=>lI n 0 λ n_1=>lB n 1 λ b=>lI n 2 λ n_2=>lI n 3 λ n_3=>lI n 4 λ n_4=>(gq4t [vU p,vS axes axesn axesc,vA [vI n_1,vB b,vI n_2,vI n_3,vI n_4]]).bI λ n_5=>bif n_5 != 0 then retQ 0 [vT [vS none 0 0,vI n_5]] else nB [vS none 0 0] 124 λ n_6=>lI n 0 λ n_7=>lB n 1 λ b=>lI n 2 λ n_8=>lI n 3 λ n_9=>lI n 4 λ n=>(gq50 (lookD [(182,gq4v)] noC) [vS axes axesn axesc,vA [vI n_7,vB b,vI n_8,vI n_9,vI n],Value.func (Fn.func 182) (ar ([])) (ar ([vP (some (ad n_6 0))]))]).bI λ n=>bif n != 0 then retQ 0 [vT [vS none 0 0,vI n]] else lS n_6 0 λ s=>retQ 0 [vT [vS s.a s.n s.c,vI 0]]).bind oneV:=by kernel_rfl
def gq3x:=fnG [(167,gq2s),(130,gq2u),(207,gq3y)] noC [] (Tryz.f156.body.getD .skip) 20 [.tmp 4,.tmp 5]
theorem gq3x_ok:OKG 156 gq3x:=λ hG=>fnG_ok ⟨gq2s_ok hG,gq2u_ok hG,gq3y_ok hG,trivial⟩ noC_ok Tryz.func156
theorem gq3x_eq (p a):gq3x [vU p,vU a] =
 ((gq2s [vU p]).bB λ b=>bif !b then retQ 0 [vT [vU 0,vI 2]] else (gq2u [vU p,vU a]).bU λ n=>bif n == 0 then retQ 0 [vT [vU 0,vI 9]] else (gq3y [vU p,vU a,vU (wU (p-2))]).bU λ n=>retQ 0 [vT [vU n,vI 0]]).bind oneV:=by kernel_rfl
def gq48:=fnG [(180,gq4a),(156,gq3x)] noC [] (Tryz.f206.body.getD .skip) 22 [.tmp 4,.tmp 5]
theorem gq48_ok:OKG 206 gq48:=λ hG=>fnG_ok ⟨gq4a_ok hG,gq3x_ok hG,trivial⟩ noC_ok Tryz.func206
theorem gq48_eq (p n):gq48 [vU p,vI n] =
 ((gq4a [vU p,vI n]).bN 2 λ vs=>(hU vs λ n=>hI vs.tail λ n_1=>bif n_1 != 0 then retQ 0 [vT [vU 0,vI n_1]] else (gq3x [vU p,vU n]).bN 2 λ vs=>(hU vs λ n=>hI vs.tail λ n_2=>retQ 0 [vT [vU n,vI n_2]]))).bind oneV:=by kernel_rfl
def aq1e:List (Nat×Ann):=[(7,⟨[],[],[⟨.norm,[10],[.int .i64 0]⟩,⟨.ret,[8,9],[.int .u64 0,.int .i64 0]⟩]⟩),(28,⟨[],[],[⟨.norm,[18],[.bool false]⟩]⟩)]
def gq4z:=fnG [(206,gq48),(180,gq4a)] noC aq1e (Tryz.f154.body.getD .skip) 43 [.tmp 8,.tmp 9]
theorem gq4z_ok:OKG 154 gq4z:=λ hG=>fnG_ok ⟨gq48_ok hG,gq4a_ok hG,trivial⟩ noC_ok Tryz.func154
def kq68:Int->Bool->Nat×List Value->M (Nat×List Value):=
 λ p inv q=>pickM [gL q.snd 1 (hI q.snd λ n=>bif inv then (gq48 [vU p,vI n]).bN 2 λ vs=>(hU vs λ n=>hI vs.tail λ n_1=>retQ 0 [vT [vU n,vI n_1]]) else (gq4a [vU p,vI n]).bN 2 λ vs=>(hU vs λ n=>hI vs.tail λ n_1=>retQ 0 [vT [vU n,vI n_1]])),gL q.snd 2 (hU q.snd λ n=>hI q.snd.tail λ n_1=>retQ 0 [vT [vU n,vI n_1]])] q.fst
theorem gq4z_eq (p a0 a1 inv s0 s1 s2 s3 s4):gq4z [vU p,.agg ⟨[vI a0,vB a1]⟩,vB inv,.agg ⟨[vI s0,vB s1,vI s2,vI s3,vI s4]⟩] =
 (nB [vI a0,vB a1] 113 λ n=>nB [vI s0,vB s1,vI s2,vI s3,vI s4] 29 λ n_1=>lI n_1 2 λ n_2=>lI n_1 4 λ n_3=>((lB n_1 1 λ b=>bif b then lB n 1 λ b=>retQ 0 [vB !b] else retQ 0 [vB false]).bind λ q=>gL q.snd 1 (hB q.snd λ b=>bif b then retQ 1 [vU 1,vI 0] else lB n_1 1 λ b=>bif b then lI n 0 λ n=>retQ 0 [vI (wI (2*n))] else retQ 0 [vI (wI (n_2*n_3))])).bind (kq68 p inv)).bind oneV:=by kernel_rfl
def aq0t:List (Nat×Ann):=[(3,⟨[],[],[⟨.norm,[],[]⟩,⟨.ret,[6,7],[.slice none 0 0,.int .i64 0]⟩]⟩),(250,⟨[9,26],[.int .u64 0,.int .i64 0],[⟨.ex 1,[],[]⟩]⟩)]
def gq3z:=fnG [(167,gq2s),(132,gq2t)] noC aq0t (Tryz.f155.body.getD .skip) 39 [.tmp 6,.tmp 7]
theorem gq3z_ok:OKG 155 gq3z:=λ hG=>fnG_ok ⟨gq2s_ok hG,gq2t_ok hG,trivial⟩ noC_ok Tryz.func155
theorem gq3z_eq (p a many):gq3z [vU p,vU a,vI many] =
 (((gq2s [vU p]).bB λ b=>bif !b then retQ 1 [vS none 0 0,vI 2] else bif decide (many < 0) then retQ 1 [vS none 0 0,vI 1] else bif decide (65536 < many) then retQ 1 [vS none 0 0,vI 1] else retQ 0 []).bind λ q=>pickM [gL q.snd 0 (guardM (0<=many/\many<=many/\many<=281474976710656/\(↑8:Int)*many<=281474976710656/\[vU 0].all flatV=true) (nB (zeroC many.toNat [vU 0]) 24 λ n=>(loopM (λ st=>gL st 2 (hU st λ n_1=>hI st.tail λ n_2=>bif decide (n_2 < (↑many.toNat:Int)) then (gq2t [vU p,vU n_1,vU a]).bU λ n_3=>guardM (0<=n_2/\n_2 < (↑many.toNat:Int)) (sL ((ad n 0).add (n_2.toNat*1)) [vU n_1] λ x=>retQ 0 [vU n_3,vI (wI (n_2+1))]) else retQ 1 [])) [vU 1,vI 0]).bind λ q=>gL q.snd 0 (retQ 0 [vT [vS (some (ad n 0)) many.toNat many.toNat,vI 0]]))),gL q.snd 2 (hS q.snd λ s=>hI q.snd.tail λ n=>retQ 0 [vT [vS s.a s.n s.c,vI n]])] q.fst).bind oneV:=by kernel_rfl
def aq1d:List (Nat×Ann):=[(8106,⟨[14,15],[.slice none 0 0,.int .u64 0],[⟨.ex 0,[14],[.slice none 0 0]⟩,⟨.ret,[8,9],[.slice none 0 0,.int .i64 0]⟩]⟩),(255,⟨[],[],[⟨.norm,[],[]⟩,⟨.ret,[8,9],[.slice none 0 0,.int .i64 0]⟩]⟩),(16378,⟨[115],[.int .i64 0],[⟨.ex 2,[],[]⟩]⟩)]
def gq4y:=fnG [(153,gq4t),(154,gq4z),(155,gq3z),(132,gq2t),(156,gq3x)] noC aq1d (Tryz.f82.body.getD .skip) 129 [.tmp 8,.tmp 9]
theorem gq4y_ok:OKG 82 gq4y:=λ hG=>fnG_ok ⟨gq4t_ok hG,gq4z_ok hG,gq3z_ok hG,gq2t_ok hG,gq3x_ok hG,trivial⟩ noC_ok Tryz.func82
theorem gq4y_eq (p axes axesn axesc inv s0 s1 s2 s3 s4):gq4y [vU p,vS axes axesn axesc,vB inv,.agg ⟨[vI s0,vB s1,vI s2,vI s3,vI s4]⟩] =
 (nB [vI s0,vB s1,vI s2,vI s3,vI s4] 29 λ n=>lI n 0 λ n_1=>lB n 1 λ b=>lI n 2 λ n_2=>lI n 3 λ n_3=>lI n 4 λ n_4=>(gq4t [vU p,vS axes axesn axesc,vA [vI n_1,vB b,vI n_2,vI n_3,vI n_4]]).bI λ n_5=>bif n_5 != 0 then retQ 0 [vT [vS none 0 0,vI n_5]] else lI n 0 λ n_6=>onX n_6 axesn axes (λ a=>xI a n_6 2 λ n_7=>dB ((ax a n_6 2).add 1) λ b=>nB [vI 0,vB false] 113 λ n_8=>sL (ad n_8 0) [vI n_7,vB b] λ x=>lI n_8 0 λ n_9=>lB n_8 1 λ b=>lI n 0 λ n_10=>lB n 1 λ b_1=>lI n 2 λ n_11=>lI n 3 λ n_12=>lI n 4 λ n_13=>(gq4z [vU p,vA [vI n_9,vB b],vB inv,vA [vI n_10,vB b_1,vI n_11,vI n_12,vI n_13]]).bN 2 λ vs=>(hU vs λ n_14=>hI vs.tail λ n_15=>bif n_15 != 0 then retQ 0 [vT [vS none 0 0,vI n_15]] else lB n 1 λ b=>bif !b then lI n 4 λ n_16=>lI n 2 λ n_17=>guardM (0<=Int.ofNat 0/\0<=wI (n_16*n_17)/\wI (n_16*n_17)<=281474976710656/\(↑8:Int)*wI (n_16*n_17)<=281474976710656/\[vU 0].all flatV=true) (nB (zeroC (wI (n_16*n_17)).toNat [vU 0]) 24 λ n_18=>(loopM (λ st=>gL st 2 (hS st λ s=>hU st.tail λ n_19=>lI n 4 λ n_20=>lI n 2 λ n_21=>bif decide ((↑s.n:Int) < wI (n_20*n_21)) then lI n 2 λ n=>(gq3z [vU p,vU n_19,vI n]).bN 2 λ vs=>(hS vs λ s_1=>hI vs.tail λ n=>bif n != 0 then retQ 2 [vS none 0 0,vI n] else (rdN s_1.a (s_1.n*1)).bind λ xs=>(appM 24 1 8 s.a s.n s.c s_1.n xs).bind λ q=>(gq2t [vU p,vU n_19,vU n_14]).bU λ n=>retQ 0 [vS q.a q.n q.c,vU n]) else retQ 1 [vS s.a s.n s.c])) [vS (some (ad n_18 0)) 0 (wI (n_16*n_17)).toNat,vU 1]).bind λ q=>pickM [gL q.snd 1 (hS q.snd λ s=>retQ 0 [vT [vS s.a s.n s.c,vI 0]]),gL q.snd 2 (hS q.snd λ s=>hI q.snd.tail λ n=>retQ 0 [vT [vS s.a s.n s.c,vI n]])] (q.fst-1)) else lI n_8 0 λ n=>(gq3z [vU p,vU n_14,vI n]).bN 2 λ vs=>(hS vs λ s=>hI vs.tail λ n=>(bif n != 0 then retQ 1 [vS s.a s.n s.c,vI n] else bif !inv then retQ 1 [vS s.a s.n s.c,vI n] else retQ 0 []).bind λ q=>pickM [gL q.snd 0 (lI n_8 0 λ n=>(gq3x [vU p,vU (wU n)]).bN 2 λ vs=>(hU vs λ n=>hI vs.tail λ n_16=>bif n_16 != 0 then retQ 0 [vT [vS none 0 0,vI n_16]] else (loopM (λ st=>gL st 1 (hI st λ n_17=>bif decide (n_17 < (↑s.n:Int)) then onX n_17 s.n s.a (λ a=>xU a n_17 1 λ n_18=>(gq2t [vU p,vU n_18,vU n]).bU λ n=>onX n_17 s.n s.a (λ a=>sL (ax a n_17 1) [vU n] λ x=>retQ 0 [vI (wI (n_17+1))])) else retQ 1 [])) [vI 0]).bind λ q=>gL q.snd 0 (retQ 0 [vT [vS s.a s.n s.c,vI 0]]))),gL q.snd 2 (hS q.snd λ s=>hI q.snd.tail λ n=>retQ 0 [vT [vS s.a s.n s.c,vI n]])] q.fst)))).bind oneV:=by kernel_rfl
def gq4j:=fnG [] noC [] (Tryz.f76.body.getD .skip) 8 [.tmp 2]
theorem gq4j_ok:OKG 76 gq4j:=λ hG=>fnG_ok trivial noC_ok Tryz.func76
theorem gq4j_eq (s sn sc):gq4j [vS s sn sc] =
 (bif s.isNone then retQ 0 [vS none 0 0] else nB [] 24 λ b=>(rdN s (sn*1)).bind λ xs=>(appM 24 1 8 (some (ad b 0)) 0 0 sn xs).bind λ q=>retQ 0 [vS q.a q.n q.c]).bind oneV:=by kernel_rfl
def gq3f:=fnG [(76,gq4j)] noC [] (Tryz.f26.body.getD .skip) 10 [.tmp 2]
theorem gq3f_ok:OKG 26 gq3f:=λ hG=>fnG_ok ⟨gq4j_ok hG,trivial⟩ noC_ok Tryz.func26
theorem gq3f_eq (m):gq3f [vP m] =
 (bif m.isNone then retQ 0 [vS none 0 0] else onOpt m λ a=>dS a λ s=>(gq4j [vS s.a s.n s.c]).bS λ s=>retQ 0 [vS s.a s.n s.c]).bind oneV:=by kernel_rfl
def gq3m:=fnG [(26,gq3f)] noC [] (Tryz.f127.body.getD .skip) 33 [.tmp 6]
theorem gq3m_ok:OKG 127 gq3m:=λ hG=>fnG_ok ⟨gq3f_ok hG,trivial⟩ noC_ok Tryz.func127
theorem gq3m_eq (m at' many):gq3m [vP m,vI at',vI many] =
 ((gq3f [vP m]).bS λ s=>bif !m.isNone then bif decide (0<=at') then bif decide (0<=many) then bif decide (many<=(↑s.n:Int)) then retQ 0 [vB (decide (at'<=wI ((↑s.n:Int)-many)))] else retQ 0 [vB false] else retQ 0 [vB false] else retQ 0 [vB false] else retQ 0 [vB false]).bind oneV:=by kernel_rfl
def gq3c:=fnG [(135,gq3g)] noC [] (Tryz.f129.body.getD .skip) 20 [.tmp 4,.tmp 5]
theorem gq3c_ok:OKG 129 gq3c:=λ hG=>fnG_ok ⟨gq3g_ok hG,trivial⟩ noC_ok Tryz.func129
theorem gq3c_eq (m addr):gq3c [vP m,vI addr] =
 ((gq3g [vP m,vI addr]).bI λ n=>bif n != 0 then retQ 0 [vT [vU 0,vI n]] else onOpt m λ a=>dS a λ s=>onX addr s.n s.a (λ a=>xU a addr 1 λ n=>retQ 0 [vT [vU n,vI 0]])).bind oneV:=by kernel_rfl
def aq0n:List (Nat×Ann):=[(58,⟨[18],[.int .i64 0],[⟨.ex 0,[],[]⟩,⟨.ret,[6,7],[.slice none 0 0,.int .i64 0]⟩]⟩)]
def gq3n (C:FuncId->List Value->M Value):=fnG [] C aq0n (Tryz.f128.body.getD .skip) 40 [.tmp 6,.tmp 7]
theorem gq3n_ok {G:List (Nat×Obj)} (hG:GT G) (C:FuncId->List Value->M Value) (hC:COK Tryz.prog G C):FnOK Tryz.prog G 128 (gq3n C):=fnG_ok trivial hC Tryz.func128
theorem gq3n_eq (C load from' at' at'n at'c):gq3n C [load,vI from',vS at' at'n at'c] =
 (guardM (0<=(↑at'n:Int)/\(↑at'n:Int)<=(↑at'n:Int)/\(↑at'n:Int)<=281474976710656/\(↑8:Int)*(↑at'n:Int)<=281474976710656/\[vU 0].all flatV=true) (nB (zeroC (↑at'n:Int).toNat [vU 0]) 24 λ n=>(loopM (λ st=>gL st 1 (hI st λ n_1=>bif decide (n_1 < (↑at'n:Int)) then onX n_1 at'n at' (λ a=>xI a n_1 1 λ n_2=>(callV C load [vI (wI (from'+n_2))]).bN 2 λ vs=>(hU vs λ n_3=>hI vs.tail λ n_4=>bif n_4 != 0 then retQ 2 [vS none 0 0,vI n_4] else guardM (0<=n_1/\n_1 < (↑(↑at'n:Int).toNat:Int)) (sL ((ad n 0).add (n_1.toNat*1)) [vU n_3] λ x=>retQ 0 [vI (wI (n_1+1))]))) else retQ 1 [])) [vI 0]).bind λ q=>pickM [gL q.snd 0 (retQ 0 [vT [vS (some (ad n 0)) (↑at'n:Int).toNat (↑at'n:Int).toNat,vI 0]]),gL q.snd 2 (hS q.snd λ s=>hI q.snd.tail λ n=>retQ 0 [vT [vS s.a s.n s.c,vI n]])] (q.fst-1))).bind oneV:=by kernel_rfl
def aq0c:List (Nat×Ann):=[(3,⟨[],[],[⟨.norm,[],[]⟩,⟨.ret,[6,7],[.slice none 0 0,.int .i64 0]⟩]⟩)]
def gq2x (C:FuncId->List Value->M Value):=fnG [(167,gq2s),(155,gq3z)] (lookD [(206,gq48)] (lookD [(180,gq4a)] C)) aq0c (Tryz.f183.body.getD .skip) 38 [.tmp 6,.tmp 7]
theorem gq2x_ok {G:List (Nat×Obj)} (hG:GT G) (C:FuncId->List Value->M Value) (hC:COK Tryz.prog G C):FnOK Tryz.prog G 183 (gq2x C):=fnG_ok ⟨gq2s_ok hG,gq3z_ok hG,trivial⟩ (lookD_ok (L:=[(206,gq48)]) (lookD_ok (L:=[(180,gq4a)]) hC ⟨gq4a_ok hG,trivial⟩) ⟨gq48_ok hG,trivial⟩) Tryz.func183
theorem gq2x_eq (C p r inv):gq2x C [vU p,vI r,vB inv] =
 (((gq2s [vU p]).bB λ b=>bif !b then retQ 1 [vS none 0 0,vI 2] else bif decide (r < 2) then retQ 1 [vS none 0 0,vI 4] else bif decide (5 < r) then retQ 1 [vS none 0 0,vI 4] else retQ 0 []).bind λ q=>pickM [gL q.snd 0 (bif inv then (gq48 [vU p,vI r]).bN 2 λ vs=>(hU vs λ n=>hI vs.tail λ n_1=>bif n_1 != 0 then retQ 0 [vT [vS none 0 0,vI 5]] else (gq3z [vU p,vU n,vI r]).bN 2 λ vs=>(hS vs λ s=>hI vs.tail λ n=>retQ 0 [vT [vS s.a s.n s.c,vI n]])) else (gq4a [vU p,vI r]).bN 2 λ vs=>(hU vs λ n=>hI vs.tail λ n_1=>bif n_1 != 0 then retQ 0 [vT [vS none 0 0,vI 5]] else (gq3z [vU p,vU n,vI r]).bN 2 λ vs=>(hS vs λ s=>hI vs.tail λ n=>retQ 0 [vT [vS s.a s.n s.c,vI n]]))),gL q.snd 2 (hS q.snd λ s=>hI q.snd.tail λ n=>retQ 0 [vT [vS s.a s.n s.c,vI n]])] q.fst).bind oneV:=by kernel_rfl
def aq0b:List (Nat×Ann):=[(26,⟨[9],[.int .i64 0],[⟨.ex 0,[],[]⟩,⟨.ret,[4],[.bool false]⟩]⟩)]
def gq2r:=fnG [(167,gq2s)] noC aq0b (Tryz.f124.body.getD .skip) 19 [.tmp 4]
theorem gq2r_ok:OKG 124 gq2r:=λ hG=>fnG_ok ⟨gq2s_ok hG,trivial⟩ noC_ok Tryz.func124
theorem gq2r_eq (p l ln lc):gq2r [vU p,vS l ln lc] =
 ((loopM (λ st=>gL st 1 (hI st λ n=>bif decide (n < (↑ln:Int)) then onX n ln l (λ a=>xU a n 1 λ n_1=>bif decide (p<=n_1) then retQ 2 [vB false] else retQ 0 [vI (wI (n+1))]) else retQ 1 [])) [vI 0]).bind λ q=>pickM [gL q.snd 0 ((gq2s [vU p]).bB λ b=>retQ 0 [vB b]),gL q.snd 1 (hB q.snd λ b=>retQ 0 [vB b])] (q.fst-1)).bind oneV:=by kernel_rfl
def gq2q:=fnG [(167,gq2s),(130,gq2u)] noC [] (Tryz.f194.body.getD .skip) 33 [.tmp 6]
theorem gq2q_ok:OKG 194 gq2q:=λ hG=>fnG_ok ⟨gq2s_ok hG,gq2u_ok hG,trivial⟩ noC_ok Tryz.func194
theorem gq2q_eq (p a b):gq2q [vU p,vU a,vU b] =
 ((gq2s [vU p]).bB λ b_1=>bif !b_1 then retQ 0 [vU 0] else (gq2u [vU p,vU a]).bU λ n=>(gq2u [vU p,vU b]).bU λ n_1=>guardM (inA n n_1 0=true) (bif decide (0 < carA n n_1 0) then retQ 0 [vU (wU (sumA n n_1 0-p))] else bif decide (p<=sumA n n_1 0) then retQ 0 [vU (wU (sumA n n_1 0-p))] else retQ 0 [vU (sumA n n_1 0)])).bind oneV:=by kernel_rfl
def aq0e:List (Nat×Ann):=[(58,⟨[5,10],[.int .u64 0,.int .i64 0],[⟨.ex 0,[5],[.int .u64 0]⟩]⟩)]
def gq2z:=fnG [(194,gq2q)] noC aq0e (Tryz.f237.body.getD .skip) 21 [.tmp 4]
theorem gq2z_ok:OKG 237 gq2z:=λ hG=>fnG_ok ⟨gq2q_ok hG,trivial⟩ noC_ok Tryz.func237
theorem gq2z_eq (f0 f1 f1n f1c l ln lc):gq2z [.agg ⟨[vU f0,vS f1 f1n f1c]⟩,vS l ln lc] =
 (nB [vU f0,vS f1 f1n f1c] 232 λ n=>(loopM (λ st=>gL st 2 (hU st λ n_1=>hI st.tail λ n_2=>bif decide (n_2 < (↑ln:Int)) then onX n_2 ln l (λ a=>xU a n_2 1 λ n_3=>lU n 0 λ n=>(gq2q [vU n,vU n_1,vU n_3]).bU λ n=>retQ 0 [vU n,vI (wI (n_2+1))]) else retQ 1 [vU n_1])) [vU 0,vI 0]).bind λ q=>gL q.snd 1 (hU q.snd λ n=>retQ 0 [vU n])).bind oneV:=by kernel_rfl
def gq2v:=fnG [(167,gq2s),(130,gq2u)] noC [] (Tryz.f248.body.getD .skip) 28 [.tmp 6]
theorem gq2v_ok:OKG 248 gq2v:=λ hG=>fnG_ok ⟨gq2s_ok hG,gq2u_ok hG,trivial⟩ noC_ok Tryz.func248
theorem gq2v_eq (p a b):gq2v [vU p,vU a,vU b] =
 ((gq2s [vU p]).bB λ b_1=>bif !b_1 then retQ 0 [vU 0] else (gq2u [vU p,vU a]).bU λ n=>(gq2u [vU p,vU b]).bU λ n_1=>guardM (inS n n_1 0=true) (bif decide (0 < borS n n_1 0) then retQ 0 [vU (wU (difS n n_1 0+p))] else retQ 0 [vU (difS n n_1 0)])).bind oneV:=by kernel_rfl
def gq33:=fnG [(248,gq2v)] noC [] (Tryz.f238.body.getD .skip) 12 [.tmp 6]
theorem gq33_ok:OKG 238 gq33:=λ hG=>fnG_ok ⟨gq2v_ok hG,trivial⟩ noC_ok Tryz.func238
theorem gq33_eq (f0 f1 f1n f1c a b):gq33 [.agg ⟨[vU f0,vS f1 f1n f1c]⟩,vU a,vU b] =
 (nB [vU f0,vS f1 f1n f1c] 232 λ n=>lU n 0 λ n=>(gq2v [vU n,vU a,vU b]).bU λ n=>retQ 0 [vU n]).bind oneV:=by kernel_rfl
def gq35:=fnG [(237,gq2z),(238,gq33)] noC [] (Tryz.f184.body.getD .skip) 23 [.tmp 4]
theorem gq35_ok:OKG 184 gq35:=λ hG=>fnG_ok ⟨gq2z_ok hG,gq33_ok hG,trivial⟩ noC_ok Tryz.func184
theorem gq35_eq (f0 f1 f1n f1c x xn xc):gq35 [.agg ⟨[vU f0,vS f1 f1n f1c]⟩,vS x xn xc] =
 (nB [vU f0,vS f1 f1n f1c] 232 λ n=>lU n 0 λ n_1=>lS n 1 λ s=>guardM (0<=Int.ofNat 0/\0 < (↑xn:Int)) (onOpt x λ a=>dU a λ n_2=>guardM (0<=Int.ofNat 1/\1 < (↑xn:Int)) (onOpt x λ a=>dU (a.add 1) λ n_3=>nB [vU n_2,vU n_3] 24 λ b=>lU n 0 λ n_4=>lS n 1 λ s_1=>guardM (0<=Int.ofNat 0/\0 < (↑xn:Int)) (onOpt x λ a=>dU a λ n_5=>guardM (0<=Int.ofNat 1/\1 < (↑xn:Int)) (onOpt x λ a_1=>dU (a_1.add 1) λ n_6=>(gq2z [vA [vU n_1,vS s.a s.n s.c],vS (some (ad b 0)) 2 2]).bU λ n_7=>(chk (dU (a_1.add 1) λ n=>M.ret (vU n)) (vU n_6)).bind λ u=>(chk (dU a λ n=>M.ret (vU n)) (vU n_5)).bind λ u=>(chk (lU n 0 λ n_8=>lS n 1 λ s=>M.ret (vA [vU n_8,vS s.a s.n s.c])) (vA [vU n_4,vS s_1.a s_1.n s_1.c])).bind λ u=>(gq33 [vA [vU n_4,vS s_1.a s_1.n s_1.c],vU n_5,vU n_6]).bU λ n=>nB [vU n_7,vU n] 24 λ b=>retQ 0 [vS (some (ad b 0)) 2 2]))))).bind oneV:=by kernel_rfl
def gq32:=fnG [(132,gq2t)] noC [] (Tryz.f239.body.getD .skip) 12 [.tmp 6]
theorem gq32_ok:OKG 239 gq32:=λ hG=>fnG_ok ⟨gq2t_ok hG,trivial⟩ noC_ok Tryz.func239
theorem gq32_eq (f0 f1 f1n f1c a b):gq32 [.agg ⟨[vU f0,vS f1 f1n f1c]⟩,vU a,vU b] =
 (nB [vU f0,vS f1 f1n f1c] 232 λ n=>lU n 0 λ n=>(gq2t [vU n,vU a,vU b]).bU λ n=>retQ 0 [vU n]).bind oneV:=by kernel_rfl
def gq34:=fnG [(238,gq33),(239,gq32),(237,gq2z)] noC [] (Tryz.f185.body.getD .skip) 47 [.tmp 4]
theorem gq34_ok:OKG 185 gq34:=λ hG=>fnG_ok ⟨gq33_ok hG,gq32_ok hG,gq2z_ok hG,trivial⟩ noC_ok Tryz.func185
theorem gq34_eq (f0 f1 f1n f1c x xn xc):gq34 [.agg ⟨[vU f0,vS f1 f1n f1c]⟩,vS x xn xc] =
 (nB [vU f0,vS f1 f1n f1c] 232 λ n=>lU n 0 λ n_1=>lS n 1 λ s=>lU n 0 λ n_2=>lS n 1 λ s_1=>guardM (0<=Int.ofNat 1/\1 < (↑xn:Int)) (onOpt x λ a=>dU (a.add 1) λ n_3=>guardM (0<=Int.ofNat 2/\2 < (↑xn:Int)) (onOpt x λ a=>dU (a.add 2) λ n_4=>lS n 1 λ s_2=>guardM (0<=Int.ofNat 1/\1 < (↑s_2.n:Int)) (onOpt s_2.a λ a=>dU (a.add 1) λ n_5=>(gq33 [vA [vU n_2,vS s_1.a s_1.n s_1.c],vU n_3,vU n_4]).bU λ n_6=>(chk (dU (a.add 1) λ n=>M.ret (vU n)) (vU n_5)).bind λ u=>(chk (lS n 1 λ s=>M.ret (vS s.a s.n s.c)) (vS s_2.a s_2.n s_2.c)).bind λ u=>(chk (lU n 0 λ n_7=>lS n 1 λ s=>M.ret (vA [vU n_7,vS s.a s.n s.c])) (vA [vU n_1,vS s.a s.n s.c])).bind λ u=>(gq32 [vA [vU n_1,vS s.a s.n s.c],vU n_6,vU n_5]).bU λ n_7=>lU n 0 λ n_8=>lS n 1 λ s=>lU n 0 λ n_9=>lS n 1 λ s_3=>lU n 0 λ n_10=>lS n 1 λ s_4=>guardM (0<=Int.ofNat 0/\0 < (↑xn:Int)) (onOpt x λ a=>dU a λ n_11=>guardM (0<=Int.ofNat 2/\2 < (↑xn:Int)) (onOpt x λ a_1=>dU (a_1.add 2) λ n_12=>lU n 0 λ n_13=>lS n 1 λ s_5=>lU n 0 λ n_14=>lS n 1 λ s_6=>guardM (0<=Int.ofNat 0/\0 < (↑xn:Int)) (onOpt x λ a_2=>dU a_2 λ n_15=>guardM (0<=Int.ofNat 1/\1 < (↑xn:Int)) (onOpt x λ a_3=>dU (a_3.add 1) λ n_16=>(gq2z [vA [vU n_8,vS s.a s.n s.c],vS x xn xc]).bU λ n_17=>(chk (dU (a_3.add 1) λ n=>M.ret (vU n)) (vU n_16)).bind λ u=>(chk (dU a_2 λ n=>M.ret (vU n)) (vU n_15)).bind λ u=>(chk (lU n 0 λ n_18=>lS n 1 λ s=>M.ret (vA [vU n_18,vS s.a s.n s.c])) (vA [vU n_14,vS s_6.a s_6.n s_6.c])).bind λ u=>(chk (lU n 0 λ n_18=>lS n 1 λ s=>M.ret (vA [vU n_18,vS s.a s.n s.c])) (vA [vU n_13,vS s_5.a s_5.n s_5.c])).bind λ u=>(chk (dU (a_1.add 2) λ n=>M.ret (vU n)) (vU n_12)).bind λ u=>(chk (dU a λ n=>M.ret (vU n)) (vU n_11)).bind λ u=>(chk (lU n 0 λ n_18=>lS n 1 λ s=>M.ret (vA [vU n_18,vS s.a s.n s.c])) (vA [vU n_10,vS s_4.a s_4.n s_4.c])).bind λ u=>(chk (lU n 0 λ n_18=>lS n 1 λ s=>M.ret (vA [vU n_18,vS s.a s.n s.c])) (vA [vU n_9,vS s_3.a s_3.n s_3.c])).bind λ u=>(gq33 [vA [vU n_10,vS s_4.a s_4.n s_4.c],vU n_11,vU n_12]).bU λ n_18=>(chk (dU (a_3.add 1) λ n=>M.ret (vU n)) (vU n_16)).bind λ u=>(chk (dU a_2 λ n=>M.ret (vU n)) (vU n_15)).bind λ u=>(chk (lU n 0 λ n_19=>lS n 1 λ s=>M.ret (vA [vU n_19,vS s.a s.n s.c])) (vA [vU n_14,vS s_6.a s_6.n s_6.c])).bind λ u=>(chk (lU n 0 λ n_19=>lS n 1 λ s=>M.ret (vA [vU n_19,vS s.a s.n s.c])) (vA [vU n_13,vS s_5.a s_5.n s_5.c])).bind λ u=>(chk (lU n 0 λ n_19=>lS n 1 λ s=>M.ret (vA [vU n_19,vS s.a s.n s.c])) (vA [vU n_9,vS s_3.a s_3.n s_3.c])).bind λ u=>nB [vU n_18,vU n_7] 24 λ b=>(gq2z [vA [vU n_9,vS s_3.a s_3.n s_3.c],vS (some (ad b 0)) 2 2]).bU λ n_19=>(chk (dU (a_3.add 1) λ n=>M.ret (vU n)) (vU n_16)).bind λ u=>(chk (dU a_2 λ n=>M.ret (vU n)) (vU n_15)).bind λ u=>(chk (lU n 0 λ n_20=>lS n 1 λ s=>M.ret (vA [vU n_20,vS s.a s.n s.c])) (vA [vU n_14,vS s_6.a s_6.n s_6.c])).bind λ u=>(chk (lU n 0 λ n_20=>lS n 1 λ s=>M.ret (vA [vU n_20,vS s.a s.n s.c])) (vA [vU n_13,vS s_5.a s_5.n s_5.c])).bind λ u=>(gq33 [vA [vU n_14,vS s_6.a s_6.n s_6.c],vU n_15,vU n_16]).bU λ n_20=>(chk (lU n 0 λ n_21=>lS n 1 λ s=>M.ret (vA [vU n_21,vS s.a s.n s.c])) (vA [vU n_13,vS s_5.a s_5.n s_5.c])).bind λ u=>(gq33 [vA [vU n_13,vS s_5.a s_5.n s_5.c],vU n_20,vU n_7]).bU λ n=>nB [vU n_17,vU n_19,vU n] 24 λ b=>retQ 0 [vS (some (ad b 0)) 3 3])))))))).bind oneV:=by kernel_rfl
def gq31:=fnG [(184,gq35),(239,gq32),(237,gq2z),(238,gq33)] noC [] (Tryz.f186.body.getD .skip) 66 [.tmp 4]
theorem gq31_ok:OKG 186 gq31:=λ hG=>fnG_ok ⟨gq35_ok hG,gq32_ok hG,gq2z_ok hG,gq33_ok hG,trivial⟩ noC_ok Tryz.func186
theorem gq31_eq (f0 f1 f1n f1c x xn xc):gq31 [.agg ⟨[vU f0,vS f1 f1n f1c]⟩,vS x xn xc] =
 (nB [vU f0,vS f1 f1n f1c] 232 λ n=>lU n 0 λ n_1=>lS n 1 λ s=>guardM (0<=Int.ofNat 0/\0 < (↑xn:Int)) (onOpt x λ a=>dU a λ n_2=>guardM (0<=Int.ofNat 2/\2 < (↑xn:Int)) (onOpt x λ a=>dU (a.add 2) λ n_3=>nB [vU n_2,vU n_3] 24 λ b=>lU n 0 λ n_4=>lS n 1 λ s_1=>guardM (0<=Int.ofNat 1/\1 < (↑xn:Int)) (onOpt x λ a=>dU (a.add 1) λ n_5=>guardM (0<=Int.ofNat 3/\3 < (↑xn:Int)) (onOpt x λ a_1=>dU (a_1.add 3) λ n_6=>nB [vU n_5,vU n_6] 24 λ b_1=>(gq35 [vA [vU n_1,vS s.a s.n s.c],vS (some (ad b 0)) 2 2]).bS λ s=>(chk (dU (a_1.add 3) λ n=>M.ret (vU n)) (vU n_6)).bind λ u=>(chk (dU (a.add 1) λ n=>M.ret (vU n)) (vU n_5)).bind λ u=>(chk (lU n 0 λ n_7=>lS n 1 λ s=>M.ret (vA [vU n_7,vS s.a s.n s.c])) (vA [vU n_4,vS s_1.a s_1.n s_1.c])).bind λ u=>(gq35 [vA [vU n_4,vS s_1.a s_1.n s_1.c],vS (some (ad b_1 0)) 2 2]).bS λ s_2=>lU n 0 λ n_7=>lS n 1 λ s_3=>guardM (0<=Int.ofNat 1/\1 < (↑s_2.n:Int)) (onOpt s_2.a λ a=>dU (a.add 1) λ n_8=>lS n 1 λ s_4=>guardM (0<=Int.ofNat 1/\1 < (↑s_4.n:Int)) (onOpt s_4.a λ a=>dU (a.add 1) λ n_9=>(gq32 [vA [vU n_7,vS s_3.a s_3.n s_3.c],vU n_8,vU n_9]).bU λ n_10=>lU n 0 λ n_11=>lS n 1 λ s_5=>guardM (0<=Int.ofNat 0/\0 < (↑s.n:Int)) (onOpt s.a λ a=>dU a λ n_12=>guardM (0<=Int.ofNat 0/\0 < (↑s_2.n:Int)) (onOpt s_2.a λ a=>dU a λ n_13=>nB [vU n_12,vU n_13] 24 λ b=>lU n 0 λ n_14=>lS n 1 λ s_6=>guardM (0<=Int.ofNat 1/\1 < (↑s.n:Int)) (onOpt s.a λ a=>dU (a.add 1) λ n_15=>nB [vU n_15,vU n_10] 24 λ b_2=>lU n 0 λ n_16=>lS n 1 λ s_7=>guardM (0<=Int.ofNat 0/\0 < (↑s.n:Int)) (onOpt s.a λ a_2=>dU a_2 λ n_17=>guardM (0<=Int.ofNat 0/\0 < (↑s_2.n:Int)) (onOpt s_2.a λ a_3=>dU a_3 λ n_18=>lU n 0 λ n_19=>lS n 1 λ s_8=>guardM (0<=Int.ofNat 1/\1 < (↑s.n:Int)) (onOpt s.a λ a_4=>dU (a_4.add 1) λ n_20=>(gq2z [vA [vU n_11,vS s_5.a s_5.n s_5.c],vS (some (ad b 0)) 2 2]).bU λ n_21=>(chk (dU (a_4.add 1) λ n=>M.ret (vU n)) (vU n_20)).bind λ u=>(chk (lU n 0 λ n_22=>lS n 1 λ s=>M.ret (vA [vU n_22,vS s.a s.n s.c])) (vA [vU n_19,vS s_8.a s_8.n s_8.c])).bind λ u=>(chk (dU a_3 λ n=>M.ret (vU n)) (vU n_18)).bind λ u=>(chk (dU a_2 λ n=>M.ret (vU n)) (vU n_17)).bind λ u=>(chk (lU n 0 λ n_22=>lS n 1 λ s=>M.ret (vA [vU n_22,vS s.a s.n s.c])) (vA [vU n_16,vS s_7.a s_7.n s_7.c])).bind λ u=>(chk (dU (a.add 1) λ n=>M.ret (vU n)) (vU n_15)).bind λ u=>(chk (lU n 0 λ n_22=>lS n 1 λ s=>M.ret (vA [vU n_22,vS s.a s.n s.c])) (vA [vU n_14,vS s_6.a s_6.n s_6.c])).bind λ u=>(gq2z [vA [vU n_14,vS s_6.a s_6.n s_6.c],vS (some (ad b_2 0)) 2 2]).bU λ n_22=>(chk (dU (a_4.add 1) λ n=>M.ret (vU n)) (vU n_20)).bind λ u=>(chk (lU n 0 λ n_23=>lS n 1 λ s=>M.ret (vA [vU n_23,vS s.a s.n s.c])) (vA [vU n_19,vS s_8.a s_8.n s_8.c])).bind λ u=>(chk (dU a_3 λ n=>M.ret (vU n)) (vU n_18)).bind λ u=>(chk (dU a_2 λ n=>M.ret (vU n)) (vU n_17)).bind λ u=>(chk (lU n 0 λ n_23=>lS n 1 λ s=>M.ret (vA [vU n_23,vS s.a s.n s.c])) (vA [vU n_16,vS s_7.a s_7.n s_7.c])).bind λ u=>(gq33 [vA [vU n_16,vS s_7.a s_7.n s_7.c],vU n_17,vU n_18]).bU λ n_23=>(chk (dU (a_4.add 1) λ n=>M.ret (vU n)) (vU n_20)).bind λ u=>(chk (lU n 0 λ n_24=>lS n 1 λ s=>M.ret (vA [vU n_24,vS s.a s.n s.c])) (vA [vU n_19,vS s_8.a s_8.n s_8.c])).bind λ u=>(gq33 [vA [vU n_19,vS s_8.a s_8.n s_8.c],vU n_20,vU n_10]).bU λ n=>nB [vU n_21,vU n_22,vU n_23,vU n] 24 λ b=>retQ 0 [vS (some (ad b 0)) 4 4]))))))))))))).bind oneV:=by kernel_rfl
def aq0f:List (Nat×Ann):=[(58,⟨[5,6],[.slice none 0 0,.int .i64 0],[⟨.ex 0,[5],[.slice none 0 0]⟩]⟩),(14922,⟨[7,8],[.int .u64 0,.int .i64 0],[⟨.ex 2,[7],[.int .u64 0]⟩]⟩)]
def gq30:=fnG [(237,gq2z),(239,gq32)] noC aq0f (Tryz.f187.body.getD .skip) 47 [.tmp 4]
theorem gq30_ok:OKG 187 gq30:=λ hG=>fnG_ok ⟨gq2z_ok hG,gq32_ok hG,trivial⟩ noC_ok Tryz.func187
theorem gq30_eq (f0 f1 f1n f1c x xn xc):gq30 [.agg ⟨[vU f0,vS f1 f1n f1c]⟩,vS x xn xc] =
 (nB [vU f0,vS f1 f1n f1c] 232 λ n=>lU n 0 λ n_1=>lS n 1 λ s=>(gq2z [vA [vU n_1,vS s.a s.n s.c],vS x xn xc]).bU λ n_2=>nB [vU n_2] 24 λ b=>(loopM (λ st=>gL st 2 (hS st λ s=>hI st.tail λ n_3=>bif decide (n_3 < 5) then guardM (0<=Int.ofNat 0/\0 < (↑xn:Int)) (onOpt x λ a=>dU a λ n_4=>(loopM (λ st=>gL st 2 (hU st λ n_5=>hI st.tail λ n_6=>bif decide (n_6 < 5) then lU n 0 λ n_7=>lS n 1 λ s=>lU n 0 λ n_8=>lS n 1 λ s_1=>onX n_6 xn x (λ a=>xU a n_6 1 λ n_9=>lS n 1 λ s_2=>onX ((wI (n_6*n_3)).tmod 5) s_2.n s_2.a (λ a=>(ld (a.add (((wI (n_6*n_3)).tmod 5).toNat*1))).bU λ n_10=>(gq32 [vA [vU n_8,vS s_1.a s_1.n s_1.c],vU n_9,vU n_10]).bU λ n_11=>(chk (lU n 0 λ n_12=>lS n 1 λ s=>M.ret (vA [vU n_12,vS s.a s.n s.c])) (vA [vU n_7,vS s.a s.n s.c])).bind λ u=>nB [vU n_5,vU n_11] 24 λ b=>(gq2z [vA [vU n_7,vS s.a s.n s.c],vS (some (ad b 0)) 2 2]).bU λ n=>retQ 0 [vU n,vI (wI (n_6+1))])) else retQ 1 [vU n_5])) [vU n_4,vI 1]).bind λ q=>gL q.snd 1 (hU q.snd λ n=>nB [vU n] 24 λ b=>(rdN (some (ad b 0)) 1).bind λ xs=>(appM 24 1 8 s.a s.n s.c 1 xs).bind λ q=>retQ 0 [vS q.a q.n q.c,vI (wI (n_3+1))])) else retQ 1 [vS s.a s.n s.c])) [vS (some (ad b 0)) 1 1,vI 1]).bind λ q=>gL q.snd 1 (hS q.snd λ s=>retQ 0 [vS s.a s.n s.c])).bind oneV:=by kernel_rfl
def gq2w (C:FuncId->List Value->M Value):=fnG [(183,gq2x (lookD [(187,gq30)] (lookD [(186,gq31)] (lookD [(185,gq34)] (lookD [(184,gq35)] C))))),(124,gq2r)] (lookD [(187,gq30)] (lookD [(186,gq31)] (lookD [(185,gq34)] (lookD [(184,gq35)] C)))) [] (Tryz.f131.body.getD .skip) 39 [.tmp 6,.tmp 7]
theorem gq2w_ok {G:List (Nat×Obj)} (hG:GT G) (C:FuncId->List Value->M Value) (hC:COK Tryz.prog G C):FnOK Tryz.prog G 131 (gq2w C):=fnG_ok ⟨gq2x_ok hG _ (lookD_ok (L:=[(187,gq30)]) (lookD_ok (L:=[(186,gq31)]) (lookD_ok (L:=[(185,gq34)]) (lookD_ok (L:=[(184,gq35)]) hC ⟨gq35_ok hG,trivial⟩) ⟨gq34_ok hG,trivial⟩) ⟨gq31_ok hG,trivial⟩) ⟨gq30_ok hG,trivial⟩),gq2r_ok hG,trivial⟩ (lookD_ok (L:=[(187,gq30)]) (lookD_ok (L:=[(186,gq31)]) (lookD_ok (L:=[(185,gq34)]) (lookD_ok (L:=[(184,gq35)]) hC ⟨gq35_ok hG,trivial⟩) ⟨gq34_ok hG,trivial⟩) ⟨gq31_ok hG,trivial⟩) ⟨gq30_ok hG,trivial⟩) Tryz.func131
theorem gq2w_eq (C p inv x xn xc):gq2w C [vU p,vB inv,vS x xn xc] =
 ((gq2x (lookD [(187,gq30)] (lookD [(186,gq31)] (lookD [(185,gq34)] (lookD [(184,gq35)] C)))) [vU p,vI (↑xn:Int),vB inv]).bN 2 λ vs=>(hS vs λ s=>hI vs.tail λ n=>bif n != 0 then retQ 0 [vT [vS none 0 0,vI n]] else (gq2r [vU p,vS x xn xc]).bB λ b=>bif !b then retQ 0 [vT [vS none 0 0,vI 7]] else nB [Value.nilFunc,Value.nilFunc,Value.nilFunc,Value.nilFunc] 233 λ n=>sL (ad n 0) [Value.func (Fn.func 184) (ar ([])) (ar ([])),Value.func (Fn.func 185) (ar ([])) (ar ([])),Value.func (Fn.func 186) (ar ([])) (ar ([])),Value.func (Fn.func 187) (ar ([])) (ar ([]))] λ x_1=>guardM (0<=wI ((↑xn:Int)-2)/\wI ((↑xn:Int)-2) < (↑4:Int)) ((ld ((ad n 0).add ((wI ((↑xn:Int)-2)).toNat*1))).bind λ v=>(callV (lookD [(183,gq2x (lookD [(187,gq30)] (lookD [(186,gq31)] (lookD [(185,gq34)] (lookD [(184,gq35)] C))))),(124,gq2r)] (lookD [(187,gq30)] (lookD [(186,gq31)] (lookD [(185,gq34)] (lookD [(184,gq35)] C))))) v [vA [vU p,vS s.a s.n s.c],vS x xn xc]).bS λ s=>retQ 0 [vT [vS s.a s.n s.c,vI 0]]))).bind oneV:=by kernel_rfl
def aq0o:List (Nat×Ann):=[(26,⟨[14],[.int .i64 0],[⟨.ex 0,[],[]⟩,⟨.ret,[8],[.int .i64 0]⟩]⟩)]
def gq3o:=fnG [(63,gq3e)] noC aq0o (Tryz.f133.body.getD .skip) 32 [.tmp 8]
theorem gq3o_ok:OKG 133 gq3o:=λ hG=>fnG_ok ⟨gq3e_ok hG,trivial⟩ noC_ok Tryz.func133
theorem gq3o_eq (m from' at' at'n at'c l ln lc):gq3o [vP m,vI from',vS at' at'n at'c,vS l ln lc] =
 ((loopM (λ st=>gL st 1 (hI st λ n=>bif decide (n < (↑at'n:Int)) then onX n at'n at' (λ a=>xI a n 1 λ n_1=>onX n ln l (λ a=>xU a n 1 λ n_2=>(gq3e [vP m,vI (wI (from'+n_1)),vU n_2]).bI λ n_3=>bif n_3 != 0 then retQ 2 [vI n_3] else retQ 0 [vI (wI (n+1))])) else retQ 1 [])) [vI 0]).bind λ q=>pickM [gL q.snd 0 (retQ 0 [vI 0]),gL q.snd 1 (hI q.snd λ n=>retQ 0 [vI n])] (q.fst-1)).bind oneV:=by kernel_rfl
def gq53:=fnG [(153,gq4t),(117,gq37),(116,gq4f),(124,gq2r)] noC [] (Tryz.f191.body.getD .skip) 39 [.tmp 8]
theorem gq53_ok:OKG 191 gq53:=λ hG=>fnG_ok ⟨gq4t_ok hG,gq37_ok hG,gq4f_ok hG,gq2r_ok hG,trivial⟩ noC_ok Tryz.func191
theorem gq53_eq (p axes axesn axesc s0 s1 s2 s3 s4 x xn xc):gq53 [vU p,vS axes axesn axesc,.agg ⟨[vI s0,vB s1,vI s2,vI s3,vI s4]⟩,vS x xn xc] =
 (nB [vI s0,vB s1,vI s2,vI s3,vI s4] 29 λ n=>lI n 0 λ n_1=>lB n 1 λ b=>lI n 2 λ n_2=>lI n 3 λ n_3=>lI n 4 λ n=>(gq4t [vU p,vS axes axesn axesc,vA [vI n_1,vB b,vI n_2,vI n_3,vI n]]).bI λ n=>bif n != 0 then retQ 0 [vI n] else (gq37 [vS axes axesn axesc]).bS λ s=>(gq4f [vS s.a s.n s.c]).bN 2 λ vs=>(hI vs λ n=>hI vs.tail λ n_4=>bif n_4 != 0 then retQ 0 [vI n_4] else bif n != (↑xn:Int) then retQ 0 [vI 6] else (gq2r [vU p,vS x xn xc]).bB λ b=>bif !b then retQ 0 [vI 7] else retQ 0 [vI 0])).bind oneV:=by kernel_rfl
def aq0d:List (Nat×Ann):=[(250,⟨[12,39],[.int .u64 0,.int .i64 0],[⟨.ex 1,[12],[.int .u64 0]⟩]⟩)]
def gq2y:=fnG [(131,gq2w noC),(124,gq2r),(132,gq2t),(194,gq2q)] noC aq0d (Tryz.f193.body.getD .skip) 56 [.tmp 8,.tmp 9]
theorem gq2y_ok:OKG 193 gq2y:=λ hG=>fnG_ok ⟨gq2w_ok hG _ noC_ok,gq2r_ok hG,gq2t_ok hG,gq2q_ok hG,trivial⟩ noC_ok Tryz.func193
theorem gq2y_eq (p inv x xn xc w wn wc):gq2y [vU p,vB inv,vS x xn xc,vS w wn wc] =
 ((gq2w noC [vU p,vB inv,vS x xn xc]).bN 2 λ vs=>(hS vs λ s=>hI vs.tail λ n=>bif n != 0 then retQ 0 [vT [vU 0,vI n]] else bif (↑wn:Int) != (↑xn:Int) then retQ 0 [vT [vU 0,vI 6]] else (gq2r [vU p,vS w wn wc]).bB λ b=>bif !b then retQ 0 [vT [vU 0,vI 7]] else (loopM (λ st=>gL st 2 (hU st λ n=>hI st.tail λ n_1=>bif decide (n_1 < (↑s.n:Int)) then onX n_1 s.n s.a (λ a=>xU a n_1 1 λ n_2=>onX n_1 wn w (λ a=>xU a n_1 1 λ n_3=>(gq2t [vU p,vU n_2,vU n_3]).bU λ n_4=>(gq2q [vU p,vU n,vU n_4]).bU λ n=>retQ 0 [vU n,vI (wI (n_1+1))])) else retQ 1 [vU n])) [vU 0,vI 0]).bind λ q=>gL q.snd 1 (hU q.snd λ n=>retQ 0 [vT [vU n,vI 0]]))).bind oneV:=by kernel_rfl
def aq1c:List (Nat×Ann):=[(58,⟨[9,10,11,22],[.slice none 0 0,.slice none 0 0,.slice none 0 0,.int .i64 0],[⟨.ex 0,[9,10,11],[.slice none 0 0,.slice none 0 0,.slice none 0 0]⟩]⟩),(62,⟨[64],[.int .i64 0],[⟨.ex 2,[],[]⟩]⟩)]
def gq4x:=fnG [(132,gq2t),(193,gq2y),(194,gq2q)] noC aq1c (Tryz.f192.body.getD .skip) 100 []
theorem gq4x_ok:OKG 192 gq4x:=λ hG=>fnG_ok ⟨gq2t_ok hG,gq2y_ok hG,gq2q_ok hG,trivial⟩ noC_ok Tryz.func192
theorem gq4x_eq (g0 g0n g0c g1 g1n g1c g2 g2n g2c c0 c1 c2 c3 c4 c5 c6):gq4x [.agg ⟨[vS g0 g0n g0c,vS g1 g1n g1c,vS g2 g2n g2c]⟩,vP c0,vP c1,vP c2,vP c3,vP c4,vP c5,vP c6] =
 (nB [vS g0 g0n g0c,vS g1 g1n g1c,vS g2 g2n g2c] 128 λ n=>lS n 0 λ s=>(loopM (λ st=>gL st 4 (hS st λ s_1=>hS st.tail λ s_2=>hS st.tail.tail λ s_3=>hI st.tail.tail.tail λ n_1=>bif decide (n_1 < (↑s.n:Int)) then onX n_1 s.n s.a (λ a=>xI a n_1 1 λ n_2=>onOpt c0 λ a=>dS a λ s=>lS n 1 λ s_4=>onX n_1 s_4.n s_4.a (λ a=>xI a n_1 1 λ n_3=>onX n_3 s.n s.a (λ a=>xU a n_3 1 λ n_4=>onOpt c1 λ a=>dS a λ s=>onX n_2 s.n s.a (λ a=>xU a n_2 1 λ n_5=>nB [vU n_5] 24 λ b=>(rdN (some (ad b 0)) 1).bind λ xs=>(appM 24 1 8 s_1.a s_1.n s_1.c 1 xs).bind λ q=>nB [vU n_4] 24 λ b=>(rdN (some (ad b 0)) 1).bind λ xs=>(appM 24 1 8 s_2.a s_2.n s_2.c 1 xs).bind λ q_1=>onOpt c2 λ a=>dU a λ n_6=>lS n 2 λ s=>onX n_1 s.n s.a (λ a=>xI a n_1 1 λ n=>(gq2t [vU n_6,vU n_4,vU (wU (wU n+1))]).bU λ n=>nB [vU n] 24 λ b=>(rdN (some (ad b 0)) 1).bind λ xs=>(appM 24 1 8 s_3.a s_3.n s_3.c 1 xs).bind λ q_2=>retQ 0 [vS q.a q.n q.c,vS q_1.a q_1.n q_1.c,vS q_2.a q_2.n q_2.c,vI (wI (n_1+1))]))))) else retQ 1 [vS s_1.a s_1.n s_1.c,vS s_2.a s_2.n s_2.c,vS s_3.a s_3.n s_3.c])) [vS none 0 0,vS none 0 0,vS none 0 0,vI 0]).bind λ q=>gL q.snd 3 (hS q.snd λ s=>hS q.snd.tail λ s_1=>hS q.snd.tail.tail λ s_2=>nB [vS s_1.a s_1.n s_1.c,vS s_2.a s_2.n s_2.c] 22 λ b=>(loopM (λ st=>gL st 1 (hI st λ n=>bif decide (n < (↑2:Int)) then guardM (0<=n/\n < (↑2:Int)) (dS ((ad b 0).add (n.toNat*1)) λ s_3=>onOpt c2 λ a=>dU a λ n_1=>guardM (0<=Int.ofNat 0/\0 < (↑s.n:Int)) (onOpt s.a λ a=>dU a λ n_2=>guardM (0<=Int.ofNat 0/\0 < (↑s_3.n:Int)) (onOpt s_3.a λ a=>dU a λ n_3=>(gq2t [vU n_1,vU n_2,vU n_3]).bU λ n_4=>onOpt c3 λ a=>dB (a.add 1) λ b=>bif !b then onOpt c2 λ a=>dU a λ n_5=>onOpt c4 λ a=>dB a λ b=>(gq2y [vU n_5,vB b,vS s.a s.n s.c,vS s_3.a s_3.n s_3.c]).bN 2 λ vs=>(hU vs λ n_6=>hI vs.tail λ n_7=>bif n_7 != 0 then onOpt c5 λ a=>sL a [vI n_7] λ x=>onOpt c2 λ a=>dU a λ n_8=>onOpt c6 λ a=>guardM (0<=n/\n < (↑2:Int)) (xU a n 1 λ n_9=>(gq2q [vU n_8,vU n_9,vU n_6]).bU λ n_10=>onOpt c6 λ a=>guardM (0<=n/\n < (↑2:Int)) (sL (ax a n 1) [vU n_10] λ x=>retQ 0 [vI (wI (n+1))])) else onOpt c2 λ a=>dU a λ n_8=>onOpt c6 λ a=>guardM (0<=n/\n < (↑2:Int)) (xU a n 1 λ n_9=>(gq2q [vU n_8,vU n_9,vU n_6]).bU λ n_10=>onOpt c6 λ a=>guardM (0<=n/\n < (↑2:Int)) (sL (ax a n 1) [vU n_10] λ x=>retQ 0 [vI (wI (n+1))]))) else onOpt c2 λ a=>dU a λ n_5=>onOpt c6 λ a=>guardM (0<=n/\n < (↑2:Int)) (xU a n 1 λ n_6=>(gq2q [vU n_5,vU n_6,vU n_4]).bU λ n_7=>onOpt c6 λ a=>guardM (0<=n/\n < (↑2:Int)) (sL (ax a n 1) [vU n_7] λ x=>retQ 0 [vI (wI (n+1))]))))) else retQ 1 [])) [vI 0]).bind λ q=>gL q.snd 0 (retQ 0 [vT []]))).bind oneV:=by kernel_rfl
def gq4w:=fnG [(191,gq53),(82,gq4y),(181,gq50 (lookD [(192,gq4x)] noC))] (lookD [(192,gq4x)] noC) [] (Tryz.f134.body.getD .skip) 50 [.cell 10 40,.tmp 11]
theorem gq4w_ok:OKG 134 gq4w:=λ hG=>fnG_ok ⟨gq53_ok hG,gq4y_ok hG,gq50_ok hG _ (lookD_ok (L:=[(192,gq4x)]) noC_ok ⟨gq4x_ok hG,trivial⟩),trivial⟩ (lookD_ok (L:=[(192,gq4x)]) noC_ok ⟨gq4x_ok hG,trivial⟩) Tryz.func134
theorem gq4w_eq (p axes axesn axesc inv s0 s1 s2 s3 s4 x xn xc):gq4w [vU p,vS axes axesn axesc,vB inv,.agg ⟨[vI s0,vB s1,vI s2,vI s3,vI s4]⟩,vS x xn xc] =
 (nB [vU p] 24 λ n=>nB [vB inv] 4 λ n_1=>nB [vI s0,vB s1,vI s2,vI s3,vI s4] 29 λ n_2=>nB [vS x xn xc] 22 λ n_3=>nB [vU 0,vU 0] 40 λ n_4=>lU n 0 λ n_5=>lI n_2 0 λ n_6=>lB n_2 1 λ b=>lI n_2 2 λ n_7=>lI n_2 3 λ n_8=>lI n_2 4 λ n_9=>lS n_3 0 λ s=>(gq53 [vU n_5,vS axes axesn axesc,vA [vI n_6,vB b,vI n_7,vI n_8,vI n_9],vS s.a s.n s.c]).bI λ n_10=>bif n_10 != 0 then sL (ad n_4 0) [vU 0,vU 0] λ x=>lU n_4 0 λ n=>lU n_4 1 λ n_11=>retQ 0 [vT [vA [vU n,vU n_11],vI n_10]] else lU n 0 λ n_11=>lB n_1 0 λ b=>lI n_2 0 λ n_12=>lB n_2 1 λ b_1=>lI n_2 2 λ n_13=>lI n_2 3 λ n_14=>lI n_2 4 λ n_15=>(gq4y [vU n_11,vS axes axesn axesc,vB b,vA [vI n_12,vB b_1,vI n_13,vI n_14,vI n_15]]).bN 2 λ vs=>(hS vs λ s=>hI vs.tail λ n_16=>nB [vS none 0 0] 22 λ n_17=>sL (ad n_17 0) [vS s.a s.n s.c] λ x=>bif n_16 != 0 then sL (ad n_4 0) [vU 0,vU 0] λ x=>lU n_4 0 λ n=>lU n_4 1 λ n_18=>retQ 0 [vT [vA [vU n,vU n_18],vI n_16]] else nB [vU 0,vU 0] 40 λ n_18=>nB [vI 0] 37 λ n_19=>sL (ad n_19 0) [vI 0] λ x=>lI n_2 0 λ n_20=>lB n_2 1 λ b=>lI n_2 2 λ n_21=>lI n_2 3 λ n_22=>lI n_2 4 λ n_23=>(gq50 (lookD [(192,gq4x)] noC) [vS axes axesn axesc,vA [vI n_20,vB b,vI n_21,vI n_22,vI n_23],Value.func (Fn.func 192) (ar ([])) (ar ([vP (some (ad n_17 0)),vP (some (ad n_3 0)),vP (some (ad n 0)),vP (some (ad n_2 0)),vP (some (ad n_1 0)),vP (some (ad n_19 0)),vP (some (ad n_18 0))]))]).bI λ n=>bif n == 0 then lI n_19 0 λ n=>bif n != 0 then sL (ad n_4 0) [vU 0,vU 0] λ x=>lU n_4 0 λ n_24=>lU n_4 1 λ n_25=>retQ 0 [vT [vA [vU n_24,vU n_25],vI n]] else lU n_18 0 λ n=>lU n_18 1 λ n_24=>sL (ad n_4 0) [vU n,vU n_24] λ x=>lU n_4 0 λ n=>lU n_4 1 λ n_25=>retQ 0 [vT [vA [vU n,vU n_25],vI 0]] else bif n != 0 then sL (ad n_4 0) [vU 0,vU 0] λ x=>lU n_4 0 λ n_24=>lU n_4 1 λ n_25=>retQ 0 [vT [vA [vU n_24,vU n_25],vI n]] else lU n_18 0 λ n=>lU n_18 1 λ n_24=>sL (ad n_4 0) [vU n,vU n_24] λ x=>lU n_4 0 λ n=>lU n_4 1 λ n_25=>retQ 0 [vT [vA [vU n,vU n_25],vI 0]])).bind oneV:=by kernel_rfl
def aq0m:List (Nat×Ann):=[(2042,⟨[22,64],[.int .i64 0,.int .i64 0],[⟨.ex 0,[22],[.int .i64 0]⟩]⟩),(511,⟨[],[],[⟨.norm,[],[]⟩,⟨.ret,[17],[.int .i64 0]⟩]⟩),(1022,⟨[],[],[⟨.norm,[95],[.bool false]⟩]⟩),(16378,⟨[101],[.int .i64 0],[⟨.ex 2,[],[]⟩,⟨.ret,[17],[.int .i64 0]⟩]⟩),(134171898,⟨[133],[.int .i64 0],[⟨.ex 4,[],[]⟩]⟩),(33542975,⟨[],[],[⟨.norm,[28],[.slice none 0 0]⟩,⟨.ret,[17],[.int .i64 0]⟩]⟩),(536687610,⟨[172],[.int .i64 0],[⟨.ex 6,[],[]⟩]⟩)]
def gq3l:=fnG [(126,gq4u),(82,gq4y),(127,gq3m),(128,gq3n (lookD [(129,gq3c)] noC)),(130,gq2u),(131,gq2w (lookD [(129,gq3c)] noC)),(132,gq2t),(133,gq3o),(134,gq4w)] (lookD [(129,gq3c)] noC) aq0m (Tryz.f60.body.getD .skip) 230 [.cell 16 40,.tmp 17]
theorem gq3l_ok:OKG 60 gq3l:=λ hG=>fnG_ok ⟨gq4u_ok hG,gq4y_ok hG,gq3m_ok hG,gq3n_ok hG _ (lookD_ok (L:=[(129,gq3c)]) noC_ok ⟨gq3c_ok hG,trivial⟩),gq2u_ok hG,gq2w_ok hG _ (lookD_ok (L:=[(129,gq3c)]) noC_ok ⟨gq3c_ok hG,trivial⟩),gq2t_ok hG,gq3o_ok hG,gq4w_ok hG,trivial⟩ (lookD_ok (L:=[(129,gq3c)]) noC_ok ⟨gq3c_ok hG,trivial⟩) Tryz.func60
def kq5y:Option Addr->Int->Int->Nat->Nat->Int->Nat->Sl->Nat×List Value->M (Nat×List Value):=
 λ m p dst n n_1 n_2 n_3 s q=>pickM [gL q.snd 1 (hS q.snd λ s_1=>(loopM (λ st=>gL st 1 (hI st λ n=>bif decide (n < (↑s.n:Int)) then onX n s.n s.a (λ a=>xU a n 1 λ n_4=>onX n s_1.n s_1.a (λ a=>xU a n 1 λ n_5=>(gq2t [vU p,vU n_5,vU n_4]).bU λ n_6=>onX n s_1.n s_1.a (λ a=>sL (ax a n 1) [vU n_6] λ x=>retQ 0 [vI (wI (n+1))]))) else retQ 1 [])) [vI 0]).bind λ q=>gL q.snd 0 (lS n_3 2 λ s=>(gq3o [vP m,vI dst,vS s.a s.n s.c,vS s_1.a s_1.n s_1.c]).bI λ n_4=>bif n_4 != 0 then lU n_1 0 λ n_5=>lU n_1 1 λ n_6=>sL (ad n 0) [vU n_5,vU n_6] λ x=>retQ 2 [vI n_4] else retQ 0 [vI (wI (n_2+1))])),gL q.snd 1 (hI q.snd λ n=>retQ 2 [vI n])] q.fst
def kq5z:Option Addr->Int->Option Addr->Nat->Nat->Bool->Int->Int->Int->Nat->Nat->Nat->Sl->Int->Nat×List Value->M (Nat×List Value):=
 λ m p axes axesn axesc inv src dst tab n n_1 n_2 s n_3 q=>pickM [gL q.snd 0 (guardM (0<=n_3/\n_3<=n_3/\n_3<=281474976710656/\(↑8:Int)*n_3<=281474976710656/\[vU 0].all flatV=true) (nB (zeroC n_3.toNat [vU 0]) 24 λ n_4=>(loopM (λ st=>gL st 1 (hI st λ n_5=>bif decide (n_5 < (↑s.n:Int)) then onX n_5 s.n s.a (λ a=>xS a n_5 3 λ s=>dS ((ax a n_5 3).add 1) λ s_1=>dS ((ax a n_5 3).add 2) λ s_2=>nB [vS none 0 0,vS none 0 0,vS none 0 0] 128 λ n_6=>sL (ad n_6 0) [vS s.a s.n s.c,vS s_1.a s_1.n s_1.c,vS s_2.a s_2.n s_2.c] λ x=>lS n_6 0 λ s=>(gq3n (lookD [(129,gq3c)] noC) [Value.func (Fn.func 129) (ar ([vP m])) (ar ([])),vI src,vS s.a s.n s.c]).bN 2 λ vs=>(hS vs λ s=>hI vs.tail λ n_7=>bif n_7 != 0 then lU n_2 0 λ n=>lU n_2 1 λ n_8=>sL (ad n_1 0) [vU n,vU n_8] λ x=>retQ 2 [vI n_7] else lS n_6 1 λ s_3=>(gq3n (lookD [(129,gq3c)] noC) [Value.func (Fn.func 129) (ar ([vP m])) (ar ([])),vI tab,vS s_3.a s_3.n s_3.c]).bN 2 λ vs=>(hS vs λ s_4=>hI vs.tail λ n_8=>bif n_8 != 0 then lU n_2 0 λ n=>lU n_2 1 λ n_9=>sL (ad n_1 0) [vU n,vU n_9] λ x=>retQ 2 [vI n_8] else (loopM (λ st=>gL st 1 (hI st λ n=>bif decide (n < (↑s.n:Int)) then onX n s.n s.a (λ a=>xU a n 1 λ n_9=>(gq2u [vU p,vU n_9]).bU λ n_10=>onX n s.n s.a (λ a=>sL (ax a n 1) [vU n_10] λ x=>lS n_6 0 λ s_5=>onX n s_5.n s_5.a (λ a=>xI a n 1 λ n_11=>onX n s.n s.a (λ a=>xU a n 1 λ n_12=>guardM (0<=n_11/\n_11 < (↑n_3.toNat:Int)) (sL ((ad n_4 0).add (n_11.toNat*1)) [vU n_12] λ x=>retQ 0 [vI (wI (n+1))]))))) else retQ 1 [])) [vI 0]).bind λ q=>gL q.snd 0 ((lB n 1 λ b=>bif !b then (gq2w (lookD [(129,gq3c)] noC) [vU p,vB inv,vS s.a s.n s.c]).bN 2 λ vs=>(hS vs λ s=>hI vs.tail λ n=>bif n != 0 then lU n_2 0 λ n_9=>lU n_2 1 λ n_10=>sL (ad n_1 0) [vU n_9,vU n_10] λ x=>retQ 1 [vI n] else retQ 0 [vS s.a s.n s.c]) else retQ 0 [vS s.a s.n s.c]).bind (kq5y m p dst n_1 n_2 n_5 n_6 s_4))))) else retQ 1 [])) [vI 0]).bind λ q=>pickM [gL q.snd 0 (lI n 0 λ n_5=>lB n 1 λ b=>lI n 2 λ n_6=>lI n 3 λ n_7=>lI n 4 λ n=>(gq4w [vU p,vS axes axesn axesc,vB inv,vA [vI n_5,vB b,vI n_6,vI n_7,vI n],vS (some (ad n_4 0)) n_3.toNat n_3.toNat]).bN 2 λ vs=>(hA vs λ vs_1=>gL vs_1 2 (hU vs_1 λ n=>hU vs_1.tail λ n_8=>hI vs.tail λ n_9=>nB [vU 0,vU 0] 40 λ n_10=>sL (ad n_10 0) [vU n,vU n_8] λ x=>bif n_9 != 0 then lU n_2 0 λ n=>lU n_2 1 λ n_11=>sL (ad n_1 0) [vU n,vU n_11] λ x=>lU n_1 0 λ n=>lU n_1 1 λ n_12=>retQ 0 [vT [vA [vU n,vU n_12],vI n_9]] else lU n_10 0 λ n=>lU n_10 1 λ n_11=>lU n_10 0 λ n_12=>lU n_10 1 λ n_13=>nB [vI 0,vI 1,vI 2,vI 3,vI 4,vI 5] 3 λ b=>nB [vU n,vU n,vU n,vU n_11,vU n_11,vU n_11] 24 λ b_1=>(gq3o [vP m,vI (wI (dst+n_3)),vS (some (ad b 0)) 6 6,vS (some (ad b_1 0)) 6 6]).bI λ n=>(chk (lU n_10 0 λ n=>lU n_10 1 λ n_14=>M.ret (vA [vU n,vU n_14])) (vA [vU n_12,vU n_13])).bind λ u=>sL (ad n_1 0) [vU n_12,vU n_13] λ x=>lU n_1 0 λ n_14=>lU n_1 1 λ n_15=>retQ 0 [vT [vA [vU n_14,vU n_15],vI n]]))),gL q.snd 1 (hI q.snd λ n=>lU n_1 0 λ n_5=>lU n_1 1 λ n_6=>retQ 0 [vT [vA [vU n_5,vU n_6],vI n]])] (q.fst-1))),gL q.snd 1 (hI q.snd λ n=>lU n_1 0 λ n_4=>lU n_1 1 λ n_5=>retQ 0 [vT [vA [vU n_4,vU n_5],vI n]])] q.fst
theorem gq3l_eq (m p axes axesn axesc inv s0 s1 s2 s3 s4 src dst tab):gq3l [vP m,vU p,vS axes axesn axesc,vB inv,.agg ⟨[vI s0,vB s1,vI s2,vI s3,vI s4]⟩,vI src,vI dst,vI tab] =
 (nB [vI s0,vB s1,vI s2,vI s3,vI s4] 29 λ n=>nB [vU 0,vU 0] 40 λ n_1=>nB [vU 0,vU 0] 40 λ n_2=>lI n 0 λ n_3=>lB n 1 λ b=>lI n 2 λ n_4=>lI n 3 λ n_5=>lI n 4 λ n_6=>(gq4u [vU p,vS axes axesn axesc,vA [vI n_3,vB b,vI n_4,vI n_5,vI n_6]]).bN 2 λ vs=>(hS vs λ s=>hI vs.tail λ n_7=>bif n_7 != 0 then lU n_2 0 λ n=>lU n_2 1 λ n_8=>sL (ad n_1 0) [vU n,vU n_8] λ x=>lU n_1 0 λ n=>lU n_1 1 λ n_9=>retQ 0 [vT [vA [vU n,vU n_9],vI n_7]] else lI n 0 λ n_8=>lB n 1 λ b=>lI n 2 λ n_9=>lI n 3 λ n_10=>lI n 4 λ n_11=>(gq4y [vU p,vS axes axesn axesc,vB inv,vA [vI n_8,vB b,vI n_9,vI n_10,vI n_11]]).bN 2 λ vs=>(hS vs λ s_1=>hI vs.tail λ n_12=>bif n_12 != 0 then lU n_2 0 λ n=>lU n_2 1 λ n_13=>sL (ad n_1 0) [vU n,vU n_13] λ x=>lU n_1 0 λ n=>lU n_1 1 λ n_14=>retQ 0 [vT [vA [vU n,vU n_14],vI n_12]] else (loopM (λ st=>gL st 2 (hI st λ n=>hI st.tail λ n_13=>bif decide (n_13 < (↑s.n:Int)) then onX n_13 s.n s.a (λ a=>xS a n_13 3 λ s=>dS ((ax a n_13 3).add 1) λ s_2=>dS ((ax a n_13 3).add 2) λ s_3=>nB [vS none 0 0,vS none 0 0,vS none 0 0] 128 λ n_14=>sL (ad n_14 0) [vS s.a s.n s.c,vS s_2.a s_2.n s_2.c,vS s_3.a s_3.n s_3.c] λ x=>lS n_14 0 λ s=>retQ 0 [vI (wI (n+(↑s.n:Int))),vI (wI (n_13+1))]) else retQ 1 [vI n])) [vI 0,vI 0]).bind λ q=>gL q.snd 1 (hI q.snd λ n_13=>(((gq3m [vP m,vI src,vI (wI (n_13+6))]).bB λ b=>bif !b then retQ 0 [vB true] else (gq3m [vP m,vI dst,vI (wI (n_13+6))]).bB λ b=>bif !b then retQ 0 [vB true] else (gq3m [vP m,vI tab,vI (↑s_1.n:Int)]).bB λ b=>retQ 0 [vB !b]).bind λ q=>gL q.snd 1 (hB q.snd λ b=>bif b then lU n_2 0 λ n=>lU n_2 1 λ n_14=>sL (ad n_1 0) [vU n,vU n_14] λ x=>retQ 1 [vI 1] else retQ 0 [])).bind (kq5z m p axes axesn axesc inv src dst tab n n_1 n_2 s n_13))))).bind oneV:=by kernel_rfl
def aq0w:List (Nat×Ann):=[(58,⟨[3,8],[.slice none 0 0,.int .i64 0],[⟨.ex 0,[3],[.slice none 0 0]⟩]⟩)]
def gq42:=fnG [] noC aq0w (Tryz.f68.body.getD .skip) 19 [.tmp 2]
theorem gq42_ok:OKG 68 gq42:=λ hG=>fnG_ok trivial noC_ok Tryz.func68
theorem gq42_eq (axes axesn axesc):gq42 [vS axes axesn axesc] =
 ((loopM (λ st=>gL st 2 (hS st λ s=>hI st.tail λ n=>bif decide (n < (↑axesn:Int)) then onX n axesn axes (λ a=>xI a n 2 λ n_1=>dB ((ax a n 2).add 1) λ b=>nB [vI 0,vB false] 113 λ n_2=>sL (ad n_2 0) [vI n_1,vB b] λ x=>lI n_2 0 λ n_3=>nB [vI n_3] 3 λ b=>(rdN (some (ad b 0)) 1).bind λ xs=>(appM 3 1 8 s.a s.n s.c 1 xs).bind λ q=>retQ 0 [vS q.a q.n q.c,vI (wI (n+1))]) else retQ 1 [vS s.a s.n s.c])) [vS none 0 0,vI 0]).bind λ q=>gL q.snd 1 (hS q.snd λ s=>retQ 0 [vS s.a s.n s.c])).bind oneV:=by kernel_rfl
def aq0v:List (Nat×Ann):=[(3,⟨[],[],[⟨.norm,[],[]⟩,⟨.ret,[2,3],[.int .i64 0,.int .i64 0]⟩]⟩),(122,⟨[4,17],[.int .i64 0,.int .i64 0],[⟨.ex 0,[4],[.int .i64 0]⟩,⟨.ret,[2,3],[.int .i64 0,.int .i64 0]⟩]⟩)]
def gq41:=fnG [] noC aq0v (Tryz.f67.body.getD .skip) 34 [.tmp 2,.tmp 3]
theorem gq41_ok:OKG 67 gq41:=λ hG=>fnG_ok trivial noC_ok Tryz.func67
theorem gq41_eq (dims dimsn dimsc):gq41 [vS dims dimsn dimsc] =
 ((bif decide ((↑dimsn:Int) < 1) then retQ 1 [vI 0,vI 3] else bif decide (4 < (↑dimsn:Int)) then retQ 1 [vI 0,vI 3] else retQ 0 []).bind λ q=>pickM [gL q.snd 0 ((loopM (λ st=>gL st 2 (hI st λ n=>hI st.tail λ n_1=>bif decide (n_1 < (↑dimsn:Int)) then onX n_1 dimsn dims (λ a=>xI a n_1 1 λ n_2=>bif decide (n_2 < 1) then retQ 2 [vI 0,vI 3] else bif decide (4096 < n_2) then retQ 2 [vI 0,vI 3] else retQ 0 [vI (wI (n*n_2)),vI (wI (n_1+1))]) else retQ 1 [vI n])) [vI 1,vI 0]).bind λ q=>pickM [gL q.snd 1 (hI q.snd λ n=>bif decide (4096 < n) then retQ 0 [vT [vI 0,vI 3]] else retQ 0 [vT [vI n,vI 0]]),gL q.snd 2 (hI q.snd λ n=>hI q.snd.tail λ n_1=>retQ 0 [vT [vI n,vI n_1]])] (q.fst-1)),gL q.snd 2 (hI q.snd λ n=>hI q.snd.tail λ n_1=>retQ 0 [vT [vI n,vI n_1]])] q.fst).bind oneV:=by kernel_rfl
def gq43:=fnG [(68,gq42),(67,gq41)] noC [] (Tryz.f61.body.getD .skip) 25 [.tmp 4]
theorem gq43_ok:OKG 61 gq43:=λ hG=>fnG_ok ⟨gq42_ok hG,gq41_ok hG,trivial⟩ noC_ok Tryz.func61
theorem gq43_eq (axes axesn axesc most):gq43 [vS axes axesn axesc,vI most] =
 ((gq42 [vS axes axesn axesc]).bS λ s=>(gq41 [vS s.a s.n s.c]).bN 2 λ vs=>(hI vs λ n=>hI vs.tail λ n_1=>bif decide ((↑axesn:Int)<=10) then bif n_1 != 0 then retQ 0 [vB true] else retQ 0 [vB (decide (n<=most))] else retQ 0 [vB false])).bind oneV:=by kernel_rfl
def aq0u:List (Nat×Ann):=[(58,⟨[13],[.int .i64 0],[⟨.ex 0,[],[]⟩,⟨.ret,[4],[.bool false]⟩]⟩)]
def gq40:=fnG [] noC aq0u (Tryz.f25.body.getD .skip) 26 [.tmp 4]
theorem gq40_ok:OKG 25 gq40:=λ hG=>fnG_ok trivial noC_ok Tryz.func25
theorem gq40_eq (a an ac b bn bc):gq40 [vS a an ac,vS b bn bc] =
 (bif (↑an:Int) != (↑bn:Int) then retQ 0 [vB false] else (loopM (λ st=>gL st 1 (hI st λ n=>bif decide (n < (↑an:Int)) then onX n an a (λ a=>xU a n 1 λ n_1=>onX n bn b (λ a=>xU a n 1 λ n_2=>bif n_1 != n_2 then retQ 2 [vB false] else retQ 0 [vI (wI (n+1))])) else retQ 1 [])) [vI 0]).bind λ q=>pickM [gL q.snd 0 (retQ 0 [vB true]),gL q.snd 1 (hB q.snd λ b=>retQ 0 [vB b])] (q.fst-1)).bind oneV:=by kernel_rfl
def gq5l:=fnG [(127,gq3m)] noC [] (Tryz.f83.body.getD .skip) 10 [.tmp 2]
theorem gq5l_ok:OKG 83 gq5l:=λ hG=>fnG_ok ⟨gq3m_ok hG,trivial⟩ noC_ok Tryz.func83
theorem gq5l_eq (r0 r1 r2):gq5l [.agg ⟨[vP r0,vI r1,vI r2]⟩] =
 (nB [vP r0,vI r1,vI r2] 145 λ n=>lP n 0 λ p=>lI n 1 λ n_1=>lI n 2 λ n=>(gq3m [vP p,vI n_1,vI n]).bB λ b=>retQ 0 [vB b]).bind oneV:=by kernel_rfl
def aq1o:List (Nat×Ann):=[(51,⟨[],[],[⟨.norm,[15],[.bool false]⟩]⟩)]
def gq5i:=fnG [(167,gq2s),(127,gq3m)] noC aq1o (Tryz.f157.body.getD .skip) 31 [.tmp 10]
theorem gq5i_ok:OKG 157 gq5i:=λ hG=>fnG_ok ⟨gq2s_ok hG,gq3m_ok hG,trivial⟩ noC_ok Tryz.func157
theorem gq5i_eq (m p n at' more):gq5i [vP m,vU p,vI n,vI at',vI more] =
 ((gq2s [vU p]).bB λ b=>bif !b then retQ 0 [vI 2] else (bif decide (n < 1) then retQ 0 [vB true] else bif decide (4096 < n) then retQ 0 [vB true] else (gq3m [vP m,vI at',vI (wI (n+more))]).bB λ b=>retQ 0 [vB !b]).bind λ q=>gL q.snd 1 (hB q.snd λ b=>bif b then retQ 0 [vI 1] else retQ 0 [vI 0])).bind oneV:=by kernel_rfl
def aq1p:List (Nat×Ann):=[(58,⟨[13],[.int .i64 0],[⟨.ex 0,[],[]⟩,⟨.ret,[2,3],[.slice none 0 0,.int .i64 0]⟩]⟩)]
def gq5k:=fnG [(129,gq3c)] noC aq1p (Tryz.f93.body.getD .skip) 35 [.tmp 2,.tmp 3]
theorem gq5k_ok:OKG 93 gq5k:=λ hG=>fnG_ok ⟨gq3c_ok hG,trivial⟩ noC_ok Tryz.func93
theorem gq5k_eq (r0 r1 r2):gq5k [.agg ⟨[vP r0,vI r1,vI r2]⟩] =
 (nB [vP r0,vI r1,vI r2] 145 λ n=>lI n 2 λ n_1=>guardM (0<=n_1/\n_1<=n_1/\n_1<=281474976710656/\(↑8:Int)*n_1<=281474976710656/\[vU 0].all flatV=true) (nB (zeroC n_1.toNat [vU 0]) 24 λ n_2=>(loopM (λ st=>gL st 1 (hI st λ n_3=>bif decide (n_3 < (↑n_1.toNat:Int)) then lP n 0 λ p=>lI n 1 λ n=>(gq3c [vP p,vI (wI (n+n_3))]).bN 2 λ vs=>(hU vs λ n=>hI vs.tail λ n_4=>bif n_4 != 0 then retQ 2 [vS none 0 0,vI n_4] else guardM (0<=n_3/\n_3 < (↑n_1.toNat:Int)) (sL ((ad n_2 0).add (n_3.toNat*1)) [vU n] λ x=>retQ 0 [vI (wI (n_3+1))])) else retQ 1 [])) [vI 0]).bind λ q=>pickM [gL q.snd 0 (retQ 0 [vT [vS (some (ad n_2 0)) n_1.toNat n_1.toNat,vI 0]]),gL q.snd 2 (hS q.snd λ s=>hI q.snd.tail λ n=>retQ 0 [vT [vS s.a s.n s.c,vI n]])] (q.fst-1))).bind oneV:=by kernel_rfl
def gq2b:=fnG [(167,gq2s)] noC [] (Tryz.f208.body.getD .skip) 28 [.tmp 4,.tmp 5,.tmp 6]
theorem gq2b_ok:OKG 208 gq2b:=λ hG=>fnG_ok ⟨gq2s_ok hG,trivial⟩ noC_ok Tryz.func208
theorem gq2b_eq (p c cn cc):gq2b [vU p,vS c cn cc] =
 ((gq2s [vU p]).bB λ b=>bif !b then retQ 0 [vT [vS none 0 0,vS none 0 0,vI 2]] else bif decide (wI ((↑cn:Int)-6) < 1) then retQ 0 [vT [vS none 0 0,vS none 0 0,vI 6]] else bif decide (4096 < wI ((↑cn:Int)-6)) then retQ 0 [vT [vS none 0 0,vS none 0 0,vI 6]] else (cutM true true 1 c cc (↑0:Int) (wI ((↑cn:Int)-6)) (↑cc:Int)).bind λ s=>(cutM true true 1 c cc (wI ((↑cn:Int)-6)) (↑cn:Int) (↑cc:Int)).bind λ s_1=>retQ 0 [vT [vS s.a s.n s.c,vS s_1.a s_1.n s_1.c,vI 0]]).bind oneV:=by kernel_rfl
def aq1s:List (Nat×Ann):=[(26,⟨[8],[.int .i64 0],[⟨.ex 0,[],[]⟩,⟨.ret,[2,3,4],[.int .u64 0,.slice none 0 0,.bool false]⟩]⟩)]
def gq5q:=fnG [] noC aq1s (Tryz.f268.body.getD .skip) 36 [.tmp 2,.tmp 3,.tmp 4]
theorem gq5q_ok:OKG 268 gq5q:=λ hG=>fnG_ok trivial noC_ok Tryz.func268
theorem gq5q_eq (c0 c1 c2):gq5q [.agg ⟨[vU c0,vU c1,vU c2]⟩] =
 (nB [vU c0,vU c1,vU c2] 311 λ n=>(loopM (λ st=>gL st 1 (hI st λ n_1=>bif decide (n_1 < 3) then guardM (0<=(wI (n_1+1)).tmod 3/\(wI (n_1+1)).tmod 3 < (↑3:Int)) ((ld ((ad n 0).add (((wI (n_1+1)).tmod 3).toNat*1))).bU λ n_2=>guardM (0<=(wI (n_1+2)).tmod 3/\(wI (n_1+2)).tmod 3 < (↑3:Int)) ((ld ((ad n 0).add (((wI (n_1+2)).tmod 3).toNat*1))).bU λ n_3=>bif n_2 != n_3 then retQ 0 [vI (wI (n_1+1))] else guardM (0<=n_1/\n_1 < (↑3:Int)) (dU ((ad n 0).add (n_1.toNat*1)) λ n=>bif n_2 == n then retQ 2 [vU n_2,vS none 0 0,vB true] else nB [vI n_1] 3 λ b=>retQ 2 [vU n_2,vS (some (ad b 0)) 1 1,vB true]))) else retQ 1 [])) [vI 0]).bind λ q=>pickM [gL q.snd 0 (retQ 0 [vT [vU 0,vS none 0 0,vB false]]),gL q.snd 3 (hU q.snd λ n=>hS q.snd.tail λ s=>hB q.snd.tail.tail λ b=>retQ 0 [vT [vU n,vS s.a s.n s.c,vB b]])] (q.fst-1)).bind oneV:=by kernel_rfl
def gq5p:=fnG [(268,gq5q)] noC [] (Tryz.f247.body.getD .skip) 23 [.tmp 2,.tmp 3,.tmp 4]
theorem gq5p_ok:OKG 247 gq5p:=λ hG=>fnG_ok ⟨gq5q_ok hG,trivial⟩ noC_ok Tryz.func247
theorem gq5p_eq (l ln lc):gq5p [vS l ln lc] =
 (bif (↑ln:Int) != 3 then retQ 0 [vT [vU 0,vS none 0 0,vI 6]] else guardM (3<=ln) (onOpt l λ a=>dU a λ n=>dU (a.add 1) λ n_1=>dU (a.add 2) λ n_2=>(gq5q [vA [vU n,vU n_1,vU n_2]]).bN 3 λ vs=>(hU vs λ n=>hS vs.tail λ s=>hB vs.tail.tail λ b=>bif !b then retQ 0 [vT [vU 0,vS none 0 0,vI 10]] else retQ 0 [vT [vU n,vS s.a s.n s.c,vI 0]]))).bind oneV:=by kernel_rfl
def aq1q:List (Nat×Ann):=[(250,⟨[6,28],[.slice none 0 0,.int .i64 0],[⟨.ex 1,[6],[.slice none 0 0]⟩,⟨.ret,[2,3,4],[.slice none 0 0,.slice none 0 0,.int .i64 0]⟩]⟩),(512830,⟨[6,52],[.slice none 0 0,.int .i64 0],[⟨.ex 3,[6],[.slice none 0 0]⟩]⟩)]
def gq5n:=fnG [(247,gq5p)] noC aq1q (Tryz.f209.body.getD .skip) 76 [.tmp 2,.tmp 3,.tmp 4]
theorem gq5n_ok:OKG 209 gq5n:=λ hG=>fnG_ok ⟨gq5p_ok hG,trivial⟩ noC_ok Tryz.func209
theorem gq5n_eq (l ln lc):gq5n [vS l ln lc] =
 (bif decide (3072 < (↑ln:Int)) then retQ 0 [vT [vS none 0 0,vS none 0 0,vI 1]] else bif (↑ln:Int).tmod 3 != 0 then retQ 0 [vT [vS none 0 0,vS none 0 0,vI 6]] else guardM (0<=wI ((↑ln:Int).tdiv 3)/\wI ((↑ln:Int).tdiv 3)<=wI ((↑ln:Int).tdiv 3)/\wI ((↑ln:Int).tdiv 3)<=281474976710656/\(↑8:Int)*wI ((↑ln:Int).tdiv 3)<=281474976710656/\[vU 0].all flatV=true) (nB (zeroC (wI ((↑ln:Int).tdiv 3)).toNat [vU 0]) 24 λ n=>(loopM (λ st=>gL st 2 (hS st λ s=>hI st.tail λ n_1=>bif decide (n_1 < (↑(wI ((↑ln:Int).tdiv 3)).toNat:Int)) then (cutM true true 1 l lc (wI (n_1*3)) (wI (wI (n_1+1)*3)) (↑lc:Int)).bind λ s_1=>(gq5p [vS s_1.a s_1.n s_1.c]).bN 3 λ vs=>(hU vs λ n_2=>hS vs.tail λ s_2=>hI vs.tail.tail λ n_3=>bif n_3 != 0 then retQ 2 [vS none 0 0,vS none 0 0,vI n_3] else guardM (0<=n_1/\n_1 < (↑(wI ((↑ln:Int).tdiv 3)).toNat:Int)) (sL ((ad n 0).add (n_1.toNat*1)) [vU n_2] λ x=>(loopM (λ st=>gL st 2 (hS st λ s=>hI st.tail λ n=>bif decide (n < (↑s_2.n:Int)) then onX n s_2.n s_2.a (λ a=>xI a n 1 λ n_4=>onX (wI (wI (n_1*3)+n_4)) ln l (λ a=>(ld (a.add ((wI (wI (n_1*3)+n_4)).toNat*1))).bU λ n_5=>nB [vI (wI (wI (n_1*3)+n_4)),vU n_5,vU n_2] 78 λ b=>(rdN (some (ad b 0)) 3).bind λ xs=>(appM 78 3 24 s.a s.n s.c 1 xs).bind λ q=>retQ 0 [vS q.a q.n q.c,vI (wI (n+1))])) else retQ 1 [vS s.a s.n s.c])) [vS s.a s.n s.c,vI 0]).bind λ q=>gL q.snd 1 (hS q.snd λ s=>retQ 0 [vS s.a s.n s.c,vI (wI (n_1+1))]))) else retQ 1 [vS s.a s.n s.c])) [vS none 0 0,vI 0]).bind λ q=>pickM [gL q.snd 1 (hS q.snd λ s=>retQ 0 [vT [vS (some (ad n 0)) (wI ((↑ln:Int).tdiv 3)).toNat (wI ((↑ln:Int).tdiv 3)).toNat,vS s.a s.n s.c,vI 0]]),gL q.snd 3 (hS q.snd λ s=>hS q.snd.tail λ s_1=>hI q.snd.tail.tail λ n=>retQ 0 [vT [vS s.a s.n s.c,vS s_1.a s_1.n s_1.c,vI n]])] (q.fst-1))).bind oneV:=by kernel_rfl
def aq05:List (Nat×Ann):=[(58,⟨[4,5],[.int .u64 0,.int .i64 0],[⟨.ex 0,[4],[.int .u64 0]⟩]⟩)]
def gq2d (C:FuncId->List Value->M Value):=fnG [] C aq05 (Tryz.f219.body.getD .skip) 21 [.tmp 3]
theorem gq2d_ok {G:List (Nat×Obj)} (hG:GT G) (C:FuncId->List Value->M Value) (hC:COK Tryz.prog G C):FnOK Tryz.prog G 219 (gq2d C):=fnG_ok trivial hC Tryz.func219
theorem gq2d_eq (C step c0):gq2d C [step,vP c0] =
 (onOpt c0 λ a=>dS a λ s=>(loopM (λ st=>gL st 2 (hU st λ n=>hI st.tail λ n_1=>bif decide (0<=n_1) then onOpt c0 λ a=>dS a λ s=>onX n_1 s.n s.a (λ a=>xU a n_1 1 λ n_2=>(callV C step [vU n,vU n_2]).bU λ n=>retQ 0 [vU n,vI (wI (n_1-1))]) else retQ 1 [vU n])) [vU 0,vI (wI ((↑s.n:Int)-1))]).bind λ q=>gL q.snd 1 (hU q.snd λ n=>retQ 0 [vU n])).bind oneV:=by kernel_rfl
def gq2e:=fnG [(194,gq2q)] noC [] (Tryz.f220.body.getD .skip) 10 [.tmp 5]
theorem gq2e_ok:OKG 220 gq2e:=λ hG=>fnG_ok ⟨gq2q_ok hG,trivial⟩ noC_ok Tryz.func220
theorem gq2e_eq (a w c0):gq2e [vU a,vU w,vP c0] =
 (onOpt c0 λ a_1=>dU a_1 λ n=>(gq2q [vU n,vU a,vU w]).bU λ n=>retQ 0 [vU n]).bind oneV:=by kernel_rfl
def gq2f:=fnG [(194,gq2q)] noC [] (Tryz.f221.body.getD .skip) 15 [.tmp 6]
theorem gq2f_ok:OKG 221 gq2f:=λ hG=>fnG_ok ⟨gq2q_ok hG,trivial⟩ noC_ok Tryz.func221
theorem gq2f_eq (a w c0 c1):gq2f [vU a,vU w,vP c0,vP c1] =
 (onOpt c0 λ a_1=>dU a_1 λ n=>onOpt c1 λ a_2=>dU a_2 λ n_1=>(gq2q [vU n,vU n_1,vU w]).bU λ n=>onOpt c1 λ a_3=>sL a_3 [vU n] λ x=>onOpt c0 λ a_4=>dU a_4 λ n=>onOpt c1 λ a_5=>dU a_5 λ n_2=>(gq2q [vU n,vU a,vU n_2]).bU λ n=>retQ 0 [vU n]).bind oneV:=by kernel_rfl
def gq2c (C:FuncId->List Value->M Value):=fnG [] (lookD [(219,gq2d (lookD [(221,gq2f)] (lookD [(220,gq2e)] C)))] (lookD [(221,gq2f)] (lookD [(220,gq2e)] C))) [] (Tryz.f169.body.getD .skip) 18 [.cell 4 218]
theorem gq2c_ok {G:List (Nat×Obj)} (hG:GT G) (C:FuncId->List Value->M Value) (hC:COK Tryz.prog G C):FnOK Tryz.prog G 169 (gq2c C):=fnG_ok trivial (lookD_ok (L:=[(219,gq2d (lookD [(221,gq2f)] (lookD [(220,gq2e)] C)))]) (lookD_ok (L:=[(221,gq2f)]) (lookD_ok (L:=[(220,gq2e)]) hC ⟨gq2e_ok hG,trivial⟩) ⟨gq2f_ok hG,trivial⟩) ⟨gq2d_ok hG _ (lookD_ok (L:=[(221,gq2f)]) (lookD_ok (L:=[(220,gq2e)]) hC ⟨gq2e_ok hG,trivial⟩) ⟨gq2f_ok hG,trivial⟩),trivial⟩) Tryz.func169
theorem gq2c_eq (C p l ln lc):gq2c C [vU p,vS l ln lc] =
 (nB [vU p] 24 λ n=>nB [vS l ln lc] 22 λ n_1=>nB [vU 0,vU 0] 218 λ n_2=>nB [vU 0,vU 0] 218 λ n_3=>(gq2d (lookD [(221,gq2f)] (lookD [(220,gq2e)] C)) [Value.func (Fn.func 220) (ar ([])) (ar ([vP (some (ad n 0))])),vP (some (ad n_1 0))]).bU λ n_4=>sL (ad n_3 0) [vU n_4] λ x=>nB [vU 0] 24 λ n_5=>sL (ad n_5 0) [vU 0] λ x=>(gq2d (lookD [(221,gq2f)] (lookD [(220,gq2e)] C)) [Value.func (Fn.func 221) (ar ([])) (ar ([vP (some (ad n 0)),vP (some (ad n_5 0))])),vP (some (ad n_1 0))]).bU λ n=>sL (ad n_3 1) [vU n] λ x=>lU n_3 0 λ n=>lU n_3 1 λ n_6=>sL (ad n_2 0) [vU n,vU n_6] λ x=>lU n_2 0 λ n=>lU n_2 1 λ n_7=>retQ 0 [vA [vU n,vU n_7]]).bind oneV:=by kernel_rfl
def aq06:List (Nat×Ann):=[(26,⟨[6,8,18],[.int .i64 0,.int .i64 0,.int .i64 0],[⟨.ex 0,[6,8],[.int .i64 0,.int .i64 0]⟩]⟩),(15,⟨[],[],[⟨.norm,[6,8],[.int .i64 0,.int .i64 0]⟩,⟨.ret,[6,7,8],[.int .i64 0,.int .u64 0,.int .i64 0]⟩]⟩),(30,⟨[],[],[⟨.norm,[45],[.bool false]⟩]⟩),(8106,⟨[6,14,15],[.int .i64 0,.int .i64 0,.int .u64 0],[⟨.ex 2,[6],[.int .i64 0]⟩]⟩),(16212,⟨[],[],[⟨.norm,[],[]⟩,⟨.ex 2,[],[]⟩]⟩)]
def gq2h:=fnG [(124,gq2r),(169,gq2c noC),(248,gq2v),(194,gq2q),(132,gq2t)] noC aq06 (Tryz.f210.body.getD .skip) 103 [.tmp 6,.tmp 7,.tmp 8]
theorem gq2h_ok:OKG 210 gq2h:=λ hG=>fnG_ok ⟨gq2r_ok hG,gq2c_ok hG _ noC_ok,gq2v_ok hG,gq2q_ok hG,gq2t_ok hG,trivial⟩ noC_ok Tryz.func210
def kq5u:Int->Option Addr->Nat->Nat->Nat->Nat×List Value->M (Nat×List Value):=
 λ p x xn n n_1 q=>pickM [gL q.snd 2 (hI q.snd λ n_2=>hI q.snd.tail λ n_3=>lU n 0 λ n_4=>lU n_1 0 λ n_5=>lU n 1 λ n_6=>lU n_1 1 λ n_7=>(gq2v [vU p,vU n_4,vU n_5]).bU λ n_8=>(chk (lU n_1 1 λ n=>M.ret (vU n)) (vU n_7)).bind λ u=>(chk (lU n 1 λ n=>M.ret (vU n)) (vU n_6)).bind λ u=>(gq2v [vU p,vU n_6,vU n_7]).bU λ n=>bif n_3 == 0 then (loopM (λ st=>gL st 3 (hI st λ n_9=>hI st.tail λ n_10=>hU st.tail.tail λ n_11=>(bif decide (n_10 < (↑xn:Int)) then bif n_8 != 0 then bif decide (n_9 < 0) then retQ 0 [] else retQ 1 [] else retQ 1 [] else retQ 1 []).bind λ q=>pickM [gL q.snd 0 (bif n_11 == n then (gq2q [vU p,vU n_11,vU n_8]).bU λ n=>retQ 0 [vI n_10,vI (wI (n_10+1)),vU n] else (gq2q [vU p,vU n_11,vU n_8]).bU λ n=>retQ 0 [vI n_9,vI (wI (n_10+1)),vU n]),gL q.snd 0 (retQ 1 [vI n_9])] q.fst)) [vI (-1),vI 0,vU n_8]).bind λ q=>gL q.snd 1 (hI q.snd λ n_9=>bif decide (n_9 < 0) then retQ 0 [vT [vI 0,vU 0,vI 2]] else (gq2t [vU p,vU n_8,vU (wU (wU n_9+1))]).bU λ n_10=>bif n_10 != n then retQ 0 [vT [vI 0,vU 0,vI 2]] else onX n_9 xn x (λ a=>xU a n_9 1 λ n=>(gq2q [vU p,vU n,vU n_8]).bU λ n=>retQ 0 [vT [vI n_9,vU n,vI 1]])) else (gq2t [vU p,vU n_8,vU (wU (wU n_2+1))]).bU λ n_9=>bif n_9 != n then retQ 0 [vT [vI 0,vU 0,vI 2]] else onX n_2 xn x (λ a=>xU a n_2 1 λ n=>(gq2q [vU p,vU n,vU n_8]).bU λ n=>retQ 0 [vT [vI n_2,vU n,vI 1]])),gL q.snd 3 (hI q.snd λ n=>hU q.snd.tail λ n_2=>hI q.snd.tail.tail λ n_3=>retQ 0 [vT [vI n,vU n_2,vI n_3]])] q.fst
theorem gq2h_eq (p x xn xc want0 want1):gq2h [vU p,vS x xn xc,.agg ⟨[vU want0,vU want1]⟩] =
 (nB [vU want0,vU want1] 218 λ n=>(loopM (λ st=>gL st 3 (hI st λ n=>hI st.tail λ n_1=>hI st.tail.tail λ n_2=>bif decide (n_2 < (↑xn:Int)) then onX n_2 xn x (λ a=>xU a n_2 1 λ n_3=>nB [vU n_3] 24 λ b=>(gq2r [vU p,vS (some (ad b 0)) 1 1]).bB λ b=>bif !b then retQ 0 [vI n_2,vI (wI (n_1+1)),vI (wI (n_2+1))] else retQ 0 [vI n,vI n_1,vI (wI (n_2+1))]) else retQ 1 [vI n,vI n_1])) [vI 0,vI 0,vI 0]).bind λ q=>gL q.snd 2 (hI q.snd λ n_1=>hI q.snd.tail λ n_2=>(gq2c noC [vU p,vS x xn xc]).bA λ vs=>gL vs 2 (hU vs λ n_3=>hU vs.tail λ n_4=>nB [vU 0,vU 0] 218 λ n_5=>sL (ad n_5 0) [vU n_3,vU n_4] λ x_1=>((bif decide (1 < n_2) then retQ 0 [vB true] else bif n_2 == 0 then lU n_5 0 λ n_6=>lU n_5 1 λ n_7=>lU n 0 λ n_8=>lU n 1 λ n=>retQ 0 [vB (eqL (ar ([vU n_6,vU n_7])).toList (ar ([vU n_8,vU n])).toList)] else retQ 0 [vB false]).bind λ q=>gL q.snd 1 (hB q.snd λ b=>bif b then retQ 1 [vI 0,vU 0,vI (if 2 < n_2 then 2 else n_2)] else retQ 0 [vI n_1,vI n_2])).bind (kq5u p x xn n n_5)))).bind oneV:=by kernel_rfl
def aq1r:List (Nat×Ann):=[(122,⟨[15],[.int .i64 0],[⟨.ex 0,[],[]⟩]⟩)]
def gq5o:=fnG [] noC aq1r (Tryz.f218.body.getD .skip) 28 [.tmp 2,.tmp 3]
theorem gq5o_ok:OKG 218 gq5o:=λ hG=>fnG_ok trivial noC_ok Tryz.func218
theorem gq5o_eq (l ln lc):gq5o [vS l ln lc] =
 (bif decide (1024 < (↑ln:Int)) then retQ 0 [vT [vS none 0 0,vI 1]] else guardM (0<=wI (3*(↑ln:Int))/\wI (3*(↑ln:Int))<=wI (3*(↑ln:Int))/\wI (3*(↑ln:Int))<=281474976710656/\(↑8:Int)*wI (3*(↑ln:Int))<=281474976710656/\[vU 0].all flatV=true) (nB (zeroC (wI (3*(↑ln:Int))).toNat [vU 0]) 24 λ n=>(loopM (λ st=>gL st 1 (hI st λ n_1=>bif decide (n_1 < (↑(wI (3*(↑ln:Int))).toNat:Int)) then onX (wI (n_1.tdiv 3)) ln l (λ a=>(ld (a.add ((wI (n_1.tdiv 3)).toNat*1))).bU λ n_2=>guardM (0<=n_1/\n_1 < (↑(wI (3*(↑ln:Int))).toNat:Int)) (sL ((ad n 0).add (n_1.toNat*1)) [vU n_2] λ x=>retQ 0 [vI (wI (n_1+1))])) else retQ 1 [])) [vI 0]).bind λ q=>gL q.snd 0 (retQ 0 [vT [vS (some (ad n 0)) (wI (3*(↑ln:Int))).toNat (wI (3*(↑ln:Int))).toNat,vI 0]]))).bind oneV:=by kernel_rfl
def gq2g:=fnG [(218,gq5o)] noC [] (Tryz.f168.body.getD .skip) 29 [.tmp 4,.tmp 5]
theorem gq2g_ok:OKG 168 gq2g:=λ hG=>fnG_ok ⟨gq5o_ok hG,trivial⟩ noC_ok Tryz.func168
theorem gq2g_eq (x xn xc s0 s1):gq2g [vS x xn xc,.agg ⟨[vU s0,vU s1]⟩] =
 (nB [vU s0,vU s1] 218 λ n=>guardM (0<=(↑xn:Int)/\(↑xn:Int)<=wI ((↑xn:Int)+6)/\wI ((↑xn:Int)+6)<=281474976710656/\(↑8:Int)*wI ((↑xn:Int)+6)<=281474976710656/\[vU 0].all flatV=true) (nB (zeroC (wI ((↑xn:Int)+6)).toNat [vU 0]) 24 λ n_1=>(rdN x (min xn (↑xn:Int).toNat*1)).bind λ xs=>sL (ad n_1 0) xs λ x=>(exactB (ad n 0)).bind λ x=>(gq5o [vS (some (bif decide ((↑0:Int)=(↑2:Int)) then (ad n 0) else (ad n 0).add ((↑0:Int).toNat*1))) 2 2]).bN 2 λ vs=>(hS vs λ s=>hI vs.tail λ n=>bif n != 0 then retQ 0 [vT [vS none 0 0,vI n]] else (rdN s.a (s.n*1)).bind λ xs=>(appM 24 1 8 (some (ad n_1 0)) (↑xn:Int).toNat (wI ((↑xn:Int)+6)).toNat s.n xs).bind λ q=>retQ 0 [vT [vS q.a q.n q.c,vI 0]]))).bind oneV:=by kernel_rfl
def aq03:List (Nat×Ann):=[(4095,⟨[],[],[⟨.norm,[16],[.slice none 0 0]⟩]⟩),(65530,⟨[16,83],[.slice none 0 0,.int .i64 0],[⟨.ex 0,[16],[.slice none 0 0]⟩]⟩)]
def gq28:=fnG [(208,gq2b),(209,gq5n),(124,gq2r),(210,gq2h),(168,gq2g)] noC aq03 (Tryz.f158.body.getD .skip) 100 [.tmp 4,.tmp 5,.tmp 6]
theorem gq28_ok:OKG 158 gq28:=λ hG=>fnG_ok ⟨gq2b_ok hG,gq5n_ok hG,gq2r_ok hG,gq2h_ok hG,gq2g_ok hG,trivial⟩ noC_ok Tryz.func158
def kq5s:Sl->Sl->Sl->Nat×List Value->M (Nat×List Value):=
 λ s s_1 s_2 q=>gL q.snd 1 (hS q.snd λ s_3=>(loopM (λ st=>gL st 2 (hS st λ s_4=>hI st.tail λ n=>bif decide (n < (↑s_1.n:Int)) then onX n s_1.n s_1.a (λ a=>xI a n 3 λ n_1=>dU ((ax a n 3).add 1) λ n_2=>dU ((ax a n 3).add 2) λ n_3=>nB [vI 0,vU 0,vU 0] 78 λ n_4=>sL (ad n_4 0) [vI n_1,vU n_2,vU n_3] λ x=>lI n_4 0 λ n_5=>sL (ad n_4 0) [vI (wI (n_5+(↑s.n:Int)))] λ x=>lI n_4 0 λ n_6=>lU n_4 1 λ n_7=>lU n_4 2 λ n_8=>nB [vI n_6,vU n_7,vU n_8] 78 λ b=>(rdN (some (ad b 0)) 3).bind λ xs=>(appM 78 3 24 s_4.a s_4.n s_4.c 1 xs).bind λ q=>retQ 0 [vS q.a q.n q.c,vI (wI (n+1))]) else retQ 1 [vS s_4.a s_4.n s_4.c])) [vS s_3.a s_3.n s_3.c,vI 0]).bind λ q=>gL q.snd 1 (hS q.snd λ s=>retQ 0 [vT [vS s_2.a s_2.n s_2.c,vS s.a s.n s.c,vI 0]]))
theorem gq28_eq (p c cn cc):gq28 [vU p,vS c cn cc] =
 ((gq2b [vU p,vS c cn cc]).bN 3 λ vs=>(hS vs λ s=>hS vs.tail λ s_1=>hI vs.tail.tail λ n=>bif n != 0 then retQ 0 [vT [vS none 0 0,vS none 0 0,vI n]] else (gq5n [vS s_1.a s_1.n s_1.c]).bN 3 λ vs=>(hS vs λ s_2=>hS vs.tail λ s_3=>hI vs.tail.tail λ n=>bif n != 0 then retQ 0 [vT [vS none 0 0,vS none 0 0,vI n]] else (gq2r [vU p,vS s_2.a s_2.n s_2.c]).bB λ b=>bif !b then retQ 0 [vT [vS none 0 0,vS none 0 0,vI 10]] else guardM (2<=s_2.n) (onOpt s_2.a λ a=>dU a λ n=>dU (a.add 1) λ n_1=>(gq2h [vU p,vS s.a s.n s.c,vA [vU n,vU n_1]]).bN 3 λ vs=>(hI vs λ n=>hU vs.tail λ n_2=>hI vs.tail.tail λ n_3=>bif decide (1 < n_3) then retQ 0 [vT [vS none 0 0,vS none 0 0,vI 10]] else guardM (2<=s_2.n) (onOpt s_2.a λ a=>dU a λ n_4=>dU (a.add 1) λ n_5=>(gq2g [vS s.a s.n s.c,vA [vU n_4,vU n_5]]).bN 2 λ vs=>(hS vs λ s_4=>hI vs.tail λ n_6=>bif n_6 != 0 then retQ 0 [vT [vS none 0 0,vS none 0 0,vI n_6]] else (bif n_3 == 1 then onX n s.n s.a (λ a=>xU a n 1 λ n_7=>nB [vI n,vU n_7,vU n_2] 78 λ b=>(rdN (some (ad b 0)) 3).bind λ xs=>(appM 78 3 24 none 0 0 1 xs).bind λ q=>onX n s_4.n s_4.a (λ a=>sL (ax a n 1) [vU n_2] λ x=>retQ 0 [vS q.a q.n q.c])) else retQ 0 [vS none 0 0]).bind (kq5s s s_3 s_4)))))))).bind oneV:=by kernel_rfl
def aq1n:List (Nat×Ann):=[(2042,⟨[53],[.int .i64 0],[⟨.ex 0,[],[]⟩,⟨.ret,[8,10],[.slice none 0 0,.int .i64 0]⟩]⟩)]
def gq5g:=fnG [(157,gq5i),(93,gq5k),(158,gq28),(63,gq3e)] noC aq1n (Tryz.f84.body.getD .skip) 93 [.tmp 8,.cell 9 40,.tmp 10]
theorem gq5g_ok:OKG 84 gq5g:=λ hG=>fnG_ok ⟨gq5i_ok hG,gq5k_ok hG,gq28_ok hG,gq3e_ok hG,trivial⟩ noC_ok Tryz.func84
theorem gq5g_eq (m p n at'):gq5g [vP m,vU p,vI n,vI at'] =
 (nB [vU 0,vU 0] 40 λ n_1=>nB [vU 0,vU 0] 40 λ n_2=>(gq5i [vP m,vU p,vI n,vI at',vI 6]).bI λ n_3=>bif n_3 != 0 then lU n_2 0 λ n=>lU n_2 1 λ n_4=>sL (ad n_1 0) [vU n,vU n_4] λ x=>lU n_1 0 λ n=>lU n_1 1 λ n_5=>retQ 0 [vT [vS none 0 0,vA [vU n,vU n_5],vI n_3]] else (gq5k [vA [vP m,vI at',vI (wI (n+6))]]).bN 2 λ vs=>(hS vs λ s=>hI vs.tail λ n_4=>bif n_4 != 0 then lU n_2 0 λ n=>lU n_2 1 λ n_5=>sL (ad n_1 0) [vU n,vU n_5] λ x=>lU n_1 0 λ n=>lU n_1 1 λ n_6=>retQ 0 [vT [vS none 0 0,vA [vU n,vU n_6],vI n_4]] else (gq28 [vU p,vS s.a s.n s.c]).bN 3 λ vs=>(hS vs λ s=>hS vs.tail λ s_1=>hI vs.tail.tail λ n_5=>bif n_5 != 0 then lU n_2 0 λ n=>lU n_2 1 λ n_6=>sL (ad n_1 0) [vU n,vU n_6] λ x=>lU n_1 0 λ n=>lU n_1 1 λ n_7=>retQ 0 [vT [vS none 0 0,vA [vU n,vU n_7],vI 10]] else (loopM (λ st=>gL st 1 (hI st λ n=>bif decide (n < (↑s_1.n:Int)) then onX n s_1.n s_1.a (λ a=>xI a n 3 λ n_6=>onX n s_1.n s_1.a (λ a=>sL (ax a n 3) [vI (wI (n_6+at'))] λ x=>onX n s_1.n s_1.a (λ a=>xI a n 3 λ n_7=>onX n s_1.n s_1.a (λ a=>dU ((ax a n 3).add 2) λ n_8=>(gq3e [vP m,vI n_7,vU n_8]).bI λ n_9=>bif n_9 != 0 then lU n_2 0 λ n=>lU n_2 1 λ n_10=>sL (ad n_1 0) [vU n,vU n_10] λ x=>retQ 2 [vS none 0 0,vI n_9] else retQ 0 [vI (wI (n+1))])))) else retQ 1 [])) [vI 0]).bind λ q=>pickM [gL q.snd 0 (onX n s.n s.a (λ a=>xU a n 1 λ n_6=>onX (wI (n+3)) s.n s.a (λ a=>(ld (a.add ((wI (n+3)).toNat*1))).bU λ n=>sL (ad n_1 0) [vU n_6,vU n] λ x=>lU n_1 0 λ n=>lU n_1 1 λ n_7=>retQ 0 [vT [vS s_1.a s_1.n s_1.c,vA [vU n,vU n_7],vI 0]]))),gL q.snd 2 (hS q.snd λ s=>hI q.snd.tail λ n=>lU n_1 0 λ n_6=>lU n_1 1 λ n_7=>retQ 0 [vT [vS s.a s.n s.c,vA [vU n_6,vU n_7],vI n]])] (q.fst-1)))).bind oneV:=by kernel_rfl
def aq1m:List (Nat×Ann):=[(58,⟨[19],[.int .i64 0],[⟨.ex 0,[],[]⟩,⟨.ret,[6],[.int .i64 0]⟩]⟩)]
def gq5e:=fnG [(83,gq5l),(63,gq3e)] noC aq1m (Tryz.f85.body.getD .skip) 34 [.tmp 6]
theorem gq5e_ok:OKG 85 gq5e:=λ hG=>fnG_ok ⟨gq5l_ok hG,gq3e_ok hG,trivial⟩ noC_ok Tryz.func85
theorem gq5e_eq (m l ln lc at'):gq5e [vP m,vS l ln lc,vI at'] =
 ((gq5l [vA [vP m,vI at',vI (↑ln:Int)]]).bB λ b=>bif !b then retQ 0 [vI 1] else (loopM (λ st=>gL st 1 (hI st λ n=>bif decide (n < (↑ln:Int)) then onX n ln l (λ a=>xU a n 1 λ n_1=>(gq3e [vP m,vI (wI (at'+n)),vU n_1]).bI λ n_2=>bif n_2 != 0 then retQ 2 [vI n_2] else retQ 0 [vI (wI (n+1))]) else retQ 1 [])) [vI 0]).bind λ q=>pickM [gL q.snd 0 (retQ 0 [vI 0]),gL q.snd 1 (hI q.snd λ n=>retQ 0 [vI n])] (q.fst-1)).bind oneV:=by kernel_rfl
end Go.AM
end
