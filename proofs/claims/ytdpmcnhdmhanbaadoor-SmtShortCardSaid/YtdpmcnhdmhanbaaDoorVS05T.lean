import Derived.Test.YtdpmcnhdmhanbaaDoorVS05S
import Derived.Test.YtdpmcnhdmhanbaaDoorVS05J
set_option maxHeartbeats 4000000
set_option linter.unusedVariables false
namespace Go.V
open Go
def T39 (k : Nat) : Fn PU := fun args boxes K => match args, boxes with
  | [.int .i64 r1], [] => Hold (F_smt_width k r1 (fun z0 => K (.bool z0) []))
  | _, _ => False
def T26 (k : Nat) : Fn PU := fun args boxes K => match args, boxes with
  | [.int .i64 r1], [] => Hold (F_smt_New k r1 (fun z0 => K (.tup [.nilp, .int .i64 z0]) []) (fun z0 z1 z2 z3 => K (.tup [.ptr 0 [], .int .i64 z0]) [.box (.agg [.int .i64 z1, .int .i64 z2, .tr 36 z3 []])]))
  | _, _ => False
def T27 (k : Nat) : Fn PU := fun args boxes K => match args, boxes with
  | [.nilp, .ro false 36 r1], [] => Hold (F_smt_Tree_Set k r1 (fun z0 => K (.int .i64 z0) []))
  | [.ptr 0 [], .ro false 36 r1], [.box (.agg [.int .i64 r2, .int .i64 r3, .tr 36 r4 []])] => Hold (F_smt_Tree_Set_s1 k r1 r2 r3 r4 (fun z0 z1 z2 z3 => K (.int .i64 z0) [.box (.agg [.int .i64 z1, .int .i64 z2, .tr 36 z3 []])]))
  | [.nilp, .ro true 36 r1], [] => Hold (F_smt_Tree_Set k r1 (fun z0 => K (.int .i64 z0) []))
  | [.ptr 0 [], .ro true 36 r1], [.box (.agg [.int .i64 r2, .int .i64 r3, .tr 36 r4 []])] => Hold (F_smt_Tree_Set_s1 k r1 r2 r3 r4 (fun z0 z1 z2 z3 => K (.int .i64 z0) [.box (.agg [.int .i64 z1, .int .i64 z2, .tr 36 z3 []])]))
  | _, _ => False
def T29 (k : Nat) : Fn PU := fun args boxes K => match args, boxes with
  | [.nilp], [] => Hold (F_smt_Tree_Root k (fun z0 => K (.arr 5 32 z0) []))
  | [.ptr 0 []], [.box (.agg [.int .i64 r1, .int .i64 r2, .tr 36 r3 []])] => Hold (F_smt_Tree_Root_s1 k r1 r2 r3 (fun z0 z1 z2 z3 => K (.arr 5 32 z0) [.box (.agg [.int .i64 z1, .int .i64 z2, .tr 36 z3 []])]))
  | _, _ => False
def T61 (k : Nat) : Fn PU := fun args boxes K => match args, boxes with
  | [.ro false 36 r1], [] => Hold (F_slices_Clone_api_Leaf_api_Leaf k r1 (fun z0 => K (.usl 36 z0) []))
  | [.ro true 36 r1], [] => Hold (F_slices_Clone_api_Leaf_api_Leaf k r1 (fun z0 => K (.usl 36 z0) []))
  | _, _ => False
def T89 (k : Nat) : Fn PU := fun args boxes K => match args, boxes with
  | [.int .u8 r1], [] => Hold (F_cmp_isNaN_byte k r1 (fun z0 => K (.bool z0) []))
  | _, _ => False
def T73 (k : Nat) : Fn PU := fun args boxes K => match args, boxes with
  | [.int .u8 r1, .int .u8 r2], [] => Hold (F_cmp_Compare_byte k r1 r2 (fun z0 => K (.int .i64 z0) []))
  | _, _ => False
def T64 (k : Nat) : Fn PU := fun args boxes K => match args, boxes with
  | [.ro true 5 r1, .ro true 5 r2], [] => Hold (F_slices_Compare_byte_byte k r1 r2 (fun z0 => K (.int .i64 z0) []))
  | _, _ => False
def T63 (k : Nat) : Fn PU := fun args boxes K => match args, boxes with
  | [.agg [.arr 5 32 r1, .arr 5 32 r2], .agg [.arr 5 32 r3, .arr 5 32 r4]], [] => Hold (F_smt_twice_1 k r1 r2 r3 r4 (fun z0 => K (.int .i64 z0) []))
  | _, _ => False
def T62 (k : Nat) : Fn PU := fun args boxes K => match args, boxes with
  | [.own 0, .clo 63 []], [.lst 36 r1] => Hold (F_slices_SortFunc_api_Leaf_api_Leaf k r1 (fun z0 => K (.tup []) [.lst 36 z0]))
  | _, _ => False
def T46 (k : Nat) : Fn PU := fun args boxes K => match args, boxes with
  | [.ro false 36 r1], [] => Hold (F_smt_twice k r1 (fun z0 => K (.bool z0) []))
  | [.ro true 36 r1], [] => Hold (F_smt_twice k r1 (fun z0 => K (.bool z0) []))
  | _, _ => False
def T49 (k : Nat) : Fn PU := fun args boxes K => match args, boxes with
  | [.tr 36 r1 []], [] => Hold (F_smt_knot_inner k r1 (fun z0 => K (.bool z0) []))
  | [.ptr 0 []], [.box (.agg [.agg [.agg [.int .u32 r1, .int .i32 r2, .int .u32 r3], .arr 5 32 r4], .agg [.arr 5 32 r5, .arr 5 32 r6], .tr 36 r7 [], .tr 36 r8 []])] => Hold (F_smt_knot_inner_s1 k r1 r2 r3 r4 r5 r6 r7 r8 (fun z0 z1 z2 z3 z4 z5 z6 z7 z8 => K (.bool z0) [.box (.agg [.agg [.agg [.int .u32 z1, .int .i32 z2, .int .u32 z3], .arr 5 32 z4], .agg [.arr 5 32 z5, .arr 5 32 z6], .tr 36 z7 [], .tr 36 z8 []])]))
  | _, _ => False
def T76 (k : Nat) : Fn PU := fun args boxes K => match args, boxes with
  | [.int .i64 r1], [] => Hold (F_path_mask k r1 (fun z0 => K (.int .u8 z0) []))
  | _, _ => False
def T67 (k : Nat) : Fn PU := fun args boxes K => match args, boxes with
  | [.arr 5 32 r1, .int .i64 r2], [] => Hold (F_path_Bit k r1 r2 (fun z0 z1 => K (.tup [.int .i64 z0, .int .i64 z1]) []))
  | _, _ => False
def T50 (k : Nat) : Fn PU := fun args boxes K => match args, boxes with
  | [.arr 5 32 r1, .int .i64 r2], [] => Hold (F_smt_right k r1 r2 (fun z0 => K (.bool z0) []))
  | _, _ => False
def T30 (k : Nat) : Fn PU := fun args boxes K => match args, boxes with
  | [.ptr 0 [], .arr 5 32 r1], [.box (.agg [.int .i64 r2, .int .i64 r3, .tr 36 r4 []])] => Hold (F_smt_Tree_Get k r1 r2 r3 r4 (fun z0 z1 z2 z3 z4 => K (.tup [.arr 5 32 z0, .bool z1]) [.box (.agg [.int .i64 z2, .int .i64 z3, .tr 36 z4 []])]))
  | _, _ => False
def T47 (k : Nat) : Fn PU := fun args boxes K => match args, boxes with
  | [.tr 36 r1 [], .agg [.arr 5 32 r2, .arr 5 32 r3], .int .i64 r4], [] => Hold (F_smt_knot_with k r1 r2 r3 r4 (fun z0 => K (.tr 36 z0 []) []))
  | _, _ => False
def T55 (k : Nat) : Fn PU := fun args boxes K => match args, boxes with
  | [], [] => Hold (F_sha_New k (fun z0 z1 z2 => K (.ptr 0 []) [.box (.agg [.arr 76 8 z0, .arr 5 64 z1, .int .i64 z2])]))
  | _, _ => False
def T78 (k : Nat) : Fn PU := fun args boxes K => match args, boxes with
  | [.int .u32 r1, .int .i64 r2], [] => Hold (F_math_bits_RotateLeft32 k r1 r2 (fun z0 => K (.int .u32 z0) []))
  | _, _ => False
def T69 (k : Nat) : Fn PU := fun args boxes K => match args, boxes with
  | [.ptr 0 []], [.box (.agg [.arr 76 8 r1, .arr 5 64 r2, .int .i64 r3])] => Hold (F_sha_Hash_mix k r1 r2 r3 (fun z0 z1 z2 => K (.tup []) [.box (.agg [.arr 76 8 z0, .arr 5 64 z1, .int .i64 z2])]))
  | _, _ => False
def T56 (k : Nat) : Fn PU := fun args boxes K => match args, boxes with
  | [.ptr 0 [], .ro false 5 r1], [.box (.agg [.arr 76 8 r2, .arr 5 64 r3, .int .i64 r4])] => Hold (F_sha_Hash_Write k r1 r2 r3 r4 (fun z0 z1 z2 z3 => K (.int .i64 z0) [.box (.agg [.arr 76 8 z1, .arr 5 64 z2, .int .i64 z3])]))
  | _, _ => False
def T57 (k : Nat) : Fn PU := fun args boxes K => match args, boxes with
  | [.ptr 0 []], [.box (.agg [.arr 76 8 r1, .arr 5 64 r2, .int .i64 r3])] => Hold (F_sha_Hash_Sum k r1 r2 r3 (fun z0 z1 z2 z3 => K (.arr 5 32 z0) [.box (.agg [.arr 76 8 z1, .arr 5 64 z2, .int .i64 z3])]))
  | _, _ => False
def T40 (k : Nat) : Fn PU := fun args boxes K => match args, boxes with
  | [.int .i64 r1, .arr 5 32 r2], [] => Hold (F_smt_short k r1 r2 (fun z0 => K (.arr 5 32 z0) []))
  | _, _ => False
def T43 (k : Nat) : Fn PU := fun args boxes K => match args, boxes with
  | [.int .i64 r1, .int .u8 r2, .ro true 24 r3], [] => Hold (F_smt_summed k r1 r2 r3 (fun z0 => K (.arr 5 32 z0) []))
  | [.int .i64 r1, .int .u8 r2, .ro false 24 r3], [] => Hold (F_smt_summed k r1 r2 r3 (fun z0 => K (.arr 5 32 z0) []))
  | _, _ => False
def T24 (k : Nat) : Fn PU := fun args boxes K => match args, boxes with
  | [.int .i64 r1, .arr 5 32 r2, .arr 5 32 r3], [] => Hold (F_smt_Node k r1 r2 r3 (fun z0 => K (.arr 5 32 z0) []))
  | _, _ => False
def T22 (k : Nat) : Fn PU := fun args boxes K => match args, boxes with
  | [.int .i64 r1, .agg [.arr 5 32 r2, .arr 5 32 r3]], [] => Hold (F_smt_Leaf k r1 r2 r3 (fun z0 => K (.arr 5 32 z0) []))
  | _, _ => False
def T66 (k : Nat) : Fn PU := fun args boxes K => match args, boxes with
  | [.ptr 0 [], .ptr 1 []], [.box (.ptr 2 []), .box (.int .i64 r1), .box (.agg [.agg [.agg [.int .u32 r2, .int .i32 r3, .int .u32 r4], .arr 5 32 r5], .agg [.arr 5 32 r6, .arr 5 32 r7], .tr 36 r8 [], .tr 36 r9 []])] => Hold (F_smt_knot_digest_1 k r1 r2 r3 r4 r5 r6 r7 r8 r9 (fun z0 z1 z2 z3 z4 z5 z6 z7 z8 => K (.tup []) [.box (.ptr 2 []), .box (.int .i64 z0), .box (.agg [.agg [.agg [.int .u32 z1, .int .i32 z2, .int .u32 z3], .arr 5 32 z4], .agg [.arr 5 32 z5, .arr 5 32 z6], .tr 36 z7 [], .tr 36 z8 []])]))
  | _, _ => False
def T20 (k : Nat) : Fn PU := fun args boxes K => match args, boxes with
  | [.int .i64 r1], [] => Hold (F_smt_Empty k r1 (fun z0 => K (.arr 5 32 z0) []))
  | _, _ => False
def T48 (k : Nat) : Fn PU := fun args boxes K => match args, boxes with
  | [.tr 36 r1 [], .int .i64 r2], [] => Hold (F_smt_knot_digest k r1 r2 (fun z0 => K (.arr 5 32 z0) []))
  | _, _ => False
def T11 (k : Nat) : Fn PU := fun args boxes K => match args, boxes with
  | [.int .i64 r1, .ro false 36 r2], [] => Hold (F_smt_Root k r1 r2 (fun z0 z1 => K (.tup [.arr 5 32 z0, .int .i64 z1]) []))
  | [.int .i64 r1, .ro true 36 r2], [] => Hold (F_smt_Root k r1 r2 (fun z0 z1 => K (.tup [.arr 5 32 z0, .int .i64 z1]) []))
  | _, _ => False
def T12 (k : Nat) : Fn PU := fun args boxes K => match args, boxes with
  | [.int .i64 r1], [] => Hold (F_r05_Width k r1 (fun z0 => K (.bool z0) []))
  | _, _ => False
def T35 (k : Nat) : Fn PU := fun args boxes K => match args, boxes with
  | [], [] => Hold (F_l05_a k (fun z0 z1 => K (.agg [.arr 5 32 z0, .arr 5 32 z1]) []))
  | _, _ => False
def T36 (k : Nat) : Fn PU := fun args boxes K => match args, boxes with
  | [], [] => Hold (F_l05_b k (fun z0 z1 => K (.agg [.arr 5 32 z0, .arr 5 32 z1]) []))
  | _, _ => False
def T14 (k : Nat) : Fn PU := fun args boxes K => match args, boxes with
  | [], [] => Hold (F_l05_roots k (fun z0 => K (.bool z0) []))
  | _, _ => False
def T13 (k : Nat) : Fn PU := fun args boxes K => match args, boxes with
  | [.ro false 36 r1], [] => Hold (F_r05_Twice k r1 (fun z0 => K (.bool z0) []))
  | [.ro true 36 r1], [] => Hold (F_r05_Twice k r1 (fun z0 => K (.bool z0) []))
  | _, _ => False
def T15 (k : Nat) : Fn PU := fun args boxes K => match args, boxes with
  | [.ro false 36 r1], [] => Hold (F_l05_own k r1 (fun z0 => K (.usl 36 z0) []))
  | _, _ => False
def T58 (k : Nat) : Fn PU := fun args boxes K => match args, boxes with
  | [.ro true 5 r1], [] => Hold (F_r02_Padded k r1 (fun z0 => K (.usl 5 z0) []))
  | [.ro false 5 r1], [] => Hold (F_r02_Padded k r1 (fun z0 => K (.usl 5 z0) []))
  | _, _ => False
def T59 (k : Nat) : Fn PU := fun args boxes K => match args, boxes with
  | [], [] => Hold (F_r02_begin k (fun z0 => K (.arr 76 8 z0) []))
  | _, _ => False
def T70 (k : Nat) : Fn PU := fun args boxes K => match args, boxes with
  | [.int .u32 r1, .int .i64 r2], [] => Hold (F_r02_turned k r1 r2 (fun z0 => K (.int .u32 z0) []))
  | _, _ => False
def T60 (k : Nat) : Fn PU := fun args boxes K => match args, boxes with
  | [.arr 76 8 r1, .ro true 5 r2], [] => Hold (F_r02_block k r1 r2 (fun z0 => K (.arr 76 8 z0) []))
  | _, _ => False
def T42 (k : Nat) : Fn PU := fun args boxes K => match args, boxes with
  | [.ro true 5 r1], [] => Hold (F_r02_Sum k r1 (fun z0 => K (.arr 5 32 z0) []))
  | [.ro false 5 r1], [] => Hold (F_r02_Sum k r1 (fun z0 => K (.arr 5 32 z0) []))
  | _, _ => False
def T19 (k : Nat) : Fn PU := fun args boxes K => match args, boxes with
  | [.int .i64 r1, .ro true 5 r2], [] => Hold (F_r05_Short k r1 r2 (fun z0 z1 => K (.tup [.arr 5 32 z0, .int .i64 z1]) []))
  | [.int .i64 r1, .ro false 5 r2], [] => Hold (F_r05_Short k r1 r2 (fun z0 z1 => K (.tup [.arr 5 32 z0, .int .i64 z1]) []))
  | _, _ => False
def T21 (k : Nat) : Fn PU := fun args boxes K => match args, boxes with
  | [.int .i64 r1], [] => Hold (F_r05_Empty k r1 (fun z0 => K (.arr 5 32 z0) []))
  | _, _ => False
def T44 (k : Nat) : Fn PU := fun args boxes K => match args, boxes with
  | [.agg [.arr 5 32 r1, .arr 5 32 r2]], [] => Hold (F_r05_LeafBytes k r1 r2 (fun z0 => K (.usl 5 z0) []))
  | _, _ => False
def T23 (k : Nat) : Fn PU := fun args boxes K => match args, boxes with
  | [.int .i64 r1, .agg [.arr 5 32 r2, .arr 5 32 r3]], [] => Hold (F_r05_Leaf k r1 r2 r3 (fun z0 => K (.arr 5 32 z0) []))
  | _, _ => False
def T77 (k : Nat) : Fn PU := fun args boxes K => match args, boxes with
  | [.int .i64 r1], [] => Hold (F_r04_weight k r1 (fun z0 => K (.int .i64 z0) []))
  | _, _ => False
def T68 (k : Nat) : Fn PU := fun args boxes K => match args, boxes with
  | [.arr 5 32 r1, .int .i64 r2], [] => Hold (F_r04_At k r1 r2 (fun z0 => K (.int .i64 z0) []))
  | _, _ => False
def T54 (k : Nat) : Fn PU := fun args boxes K => match args, boxes with
  | [.ro true 36 r1, .int .i64 r2, .int .i64 r3], [] => Hold (F_r05_Half k r1 r2 r3 (fun z0 => K (.usl 36 z0) []))
  | _, _ => False
def T45 (k : Nat) : Fn PU := fun args boxes K => match args, boxes with
  | [.arr 5 32 r1, .arr 5 32 r2], [] => Hold (F_r05_NodeBytes k r1 r2 (fun z0 => K (.usl 5 z0) []))
  | _, _ => False
def T25 (k : Nat) : Fn PU := fun args boxes K => match args, boxes with
  | [.int .i64 r1, .arr 5 32 r2, .arr 5 32 r3], [] => Hold (F_r05_Node k r1 r2 r3 (fun z0 => K (.arr 5 32 z0) []))
  | _, _ => False
def T37 (k : Nat) : Fn PU := fun args boxes K => match args, boxes with
  | [.int .i64 r1, .ro true 36 r2, .int .i64 r3], [] => Hold (F_r05_Digest k r1 r2 r3 (fun z0 => K (.arr 5 32 z0) []))
  | _, _ => False
def T16 (k : Nat) : Fn PU := fun args boxes K => match args, boxes with
  | [.int .i64 r1, .ro true 36 r2], [] => Hold (F_r05_Root k r1 r2 (fun z0 z1 => K (.tup [.arr 5 32 z0, .int .i64 z1]) []))
  | _, _ => False
def T38 (k : Nat) : Fn PU := fun args boxes K => match args, boxes with
  | [.ro false 36 r1, .ro true 36 r2], [] => Hold (F_r05_Same k r1 r2 (fun z0 => K (.bool z0) []))
  | _, _ => False
def T17 (k : Nat) : Fn PU := fun args boxes K => match args, boxes with
  | [.ro false 36 r1, .ro true 36 r2], [] => Hold (F_l05_same k r1 r2 (fun z0 => K (.bool z0) []))
  | _, _ => False
def T3 (k : Nat) : Fn PU := fun args boxes K => match args, boxes with
  | [.int .i64 r1, .ro false 36 r2], [] => Hold (F_l05_SmtRoots k r1 r2 (fun z0 => K (.bool z0) []))
  | _, _ => False
def T41 (k : Nat) : Fn PU := fun args boxes K => match args, boxes with
  | [.ro false 5 r1], [] => Hold (F_sha_Sum k r1 (fun z0 => K (.arr 5 32 z0) []))
  | _, _ => False
def T18 (k : Nat) : Fn PU := fun args boxes K => match args, boxes with
  | [.int .i64 r1, .ro false 5 r2], [] => Hold (F_smt_Short k r1 r2 (fun z0 z1 => K (.tup [.arr 5 32 z0, .int .i64 z1]) []))
  | _, _ => False
def T5 (k : Nat) : Fn PU := fun args boxes K => match args, boxes with
  | [.int .i64 r1, .ro false 5 r2, .agg [.arr 5 32 r3, .arr 5 32 r4], .arr 5 32 r5, .arr 5 32 r6], [] => Hold (F_l05_SmtShort k r1 r2 r3 r4 r5 r6 (fun z0 => K (.bool z0) []))
  | _, _ => False
def D64_2 (k : Nat) : Nat → List (A PU) → List (AObj PU) → (A PU → List (AObj PU) → Prop) → Prop := fun nb vals objs K => match nb, vals, objs with
  | 0, [.ro true 5 r3, .ro true 5 r4, .ro true 5 r5, .int .i64 r6, .int .i64 r7], [] => Hold (C_slices_Compare_byte_byte_2 k r3 r4 r5 r6 r7 (fun z0 => K (.int .i64 z0) []))
  | _, _, _ => False
def D46_4 (k : Nat) : Nat → List (A PU) → List (AObj PU) → (A PU → List (AObj PU) → Prop) → Prop := fun nb vals objs K => match nb, vals, objs with
  | 0, [.own 0, .int .i64 r4, .int .i64 r5], [.lst 36 r6] => Hold (C_smt_twice_4 k r4 r5 r6 (fun z0 => K (.bool z0) []))
  | _, _, _ => False
def D30_5 (k : Nat) : Nat → List (A PU) → List (AObj PU) → (A PU → List (AObj PU) → Prop) → Prop := fun nb vals objs K => match nb, vals, objs with
  | 1, [.ptr 1 [], .ptr 2 [], .tr 36 r5 [], .int .i64 r6], [.box (.agg [.int .i64 r7, .int .i64 r8, .tr 36 r9 []]), .box (.arr 5 32 r10), .box (.arr 5 32 r11)] => Hold (C_smt_Tree_Get_5 k r5 r6 r7 r8 r9 r10 r11 (fun z0 z1 z2 z3 z4 => K (.tup [.arr 5 32 z0, .bool z1]) [.box (.agg [.int .i64 z2, .int .i64 z3, .tr 36 z4 []])]))
  | _, _, _ => False
def D30_11 (k : Nat) : Nat → List (A PU) → List (AObj PU) → (A PU → List (AObj PU) → Prop) → Prop := fun nb vals objs K => match nb, vals, objs with
  | 1, [.ptr 1 []], [.box (.agg [.int .i64 r14, .int .i64 r15, .tr 36 r16 []]), .box (.arr 5 32 r17)] => Hold (C_smt_Tree_Get_11 k r14 r15 r16 r17 (fun z0 z1 z2 z3 z4 => K (.tup [.arr 5 32 z0, .bool z1]) [.box (.agg [.int .i64 z2, .int .i64 z3, .tr 36 z4 []])]))
  | _, _, _ => False
def D47_3 (k : Nat) : Nat → List (A PU) → List (AObj PU) → (A PU → List (AObj PU) → Prop) → Prop := fun nb vals objs K => match nb, vals, objs with
  | 0, [.tr 36 r8 [], .int .i64 r9, .ptr 0 []], [.box (.agg [.arr 5 32 r10, .arr 5 32 r11])] => Hold (C_smt_knot_with_3 k r8 r9 r10 r11 (fun z0 => K (.tr 36 z0 []) []))
  | _, _, _ => False
def D47_8 (k : Nat) : Nat → List (A PU) → List (AObj PU) → (A PU → List (AObj PU) → Prop) → Prop := fun nb vals objs K => match nb, vals, objs with
  | 0, [.ptr 0 [], .int .i64 r16, .ptr 1 []], [.box (.agg [.agg [.gh r17, .arr 5 32 r18], .agg [.arr 5 32 r19, .arr 5 32 r20], .tr 36 r21 [], .tr 36 r22 []]), .box (.agg [.arr 5 32 r23, .arr 5 32 r24])] => Hold (C_smt_knot_with_8 k r16 r17 r18 r19 r20 r21 r22 r23 r24 (fun z0 => K (.tr 36 z0 []) []))
  | 0, [.tr 36 r38 [], .int .i64 r39, .ptr 0 []], [.box (.agg [.arr 5 32 r40, .arr 5 32 r41])] => Hold (C_smt_knot_with_8_1 k r38 r39 r40 r41 (fun z0 => K (.tr 36 z0 []) []))
  | _, _, _ => False
def D47_9 (k : Nat) : Nat → List (A PU) → List (AObj PU) → (A PU → List (AObj PU) → Prop) → Prop := fun nb vals objs K => match nb, vals, objs with
  | 0, [.int .i64 r26, .ptr 0 [], .ptr 1 []], [.box (.agg [.arr 5 32 r27, .arr 5 32 r28]), .box (.agg [.agg [.gh r29, .arr 5 32 r30], .agg [.arr 5 32 r31, .arr 5 32 r32], .tr 36 r33 [], .tr 36 r34 []])] => Hold (C_smt_knot_with_9 k r26 r27 r28 r29 r30 r31 r32 r33 r34 (fun z0 => K (.tr 36 z0 []) []))
  | _, _, _ => False
def D27_9 (k : Nat) : Nat → List (A PU) → List (AObj PU) → (A PU → List (AObj PU) → Prop) → Prop := fun nb vals objs K => match nb, vals, objs with
  | 1, [.ptr 0 [], .tr 36 r6 [], .int .i64 r7, .ro false 36 r8, .int .i64 r9, .int .i64 r10], [.box (.agg [.int .i64 r11, .int .i64 r12, .tr 36 r13 []])] => Hold (C_smt_Tree_Set_9 k r6 r7 r8 r9 r10 r11 r12 r13 (fun z0 z1 z2 z3 => K (.int .i64 z0) [.box (.agg [.int .i64 z1, .int .i64 z2, .tr 36 z3 []])]))
  | 1, [.ptr 0 [], .tr 36 r6 [], .int .i64 r7, .ro true 36 r8, .int .i64 r9, .int .i64 r10], [.box (.agg [.int .i64 r11, .int .i64 r12, .tr 36 r13 []])] => Hold (C_smt_Tree_Set_9 k r6 r7 r8 r9 r10 r11 r12 r13 (fun z0 z1 z2 z3 => K (.int .i64 z0) [.box (.agg [.int .i64 z1, .int .i64 z2, .tr 36 z3 []])]))
  | _, _, _ => False
def D69_2 (k : Nat) : Nat → List (A PU) → List (AObj PU) → (A PU → List (AObj PU) → Prop) → Prop := fun nb vals objs K => match nb, vals, objs with
  | 1, [.ptr 0 [], .ptr 1 [], .int .i64 r4], [.box (.agg [.arr 76 8 r5, .arr 5 64 r6, .int .i64 r7]), .box (.arr 76 64 r8)] => Hold (C_sha_Hash_mix_2 k r4 r5 r6 r7 r8 (fun z0 z1 z2 => K (.tup []) [.box (.agg [.arr 76 8 z0, .arr 5 64 z1, .int .i64 z2])]))
  | _, _, _ => False
def D69_11 (k : Nat) : Nat → List (A PU) → List (AObj PU) → (A PU → List (AObj PU) → Prop) → Prop := fun nb vals objs K => match nb, vals, objs with
  | 1, [.ptr 0 [], .ptr 1 [], .int .i64 r9], [.box (.agg [.arr 76 8 r10, .arr 5 64 r11, .int .i64 r12]), .box (.arr 76 64 r13)] => Hold (C_sha_Hash_mix_11 k r9 r10 r11 r12 r13 (fun z0 z1 z2 => K (.tup []) [.box (.agg [.arr 76 8 z0, .arr 5 64 z1, .int .i64 z2])]))
  | _, _, _ => False
def D69_14 (k : Nat) : Nat → List (A PU) → List (AObj PU) → (A PU → List (AObj PU) → Prop) → Prop := fun nb vals objs K => match nb, vals, objs with
  | 1, [.ptr 0 [], .int .u32 r18, .int .u32 r19, .int .u32 r20, .int .u32 r21, .int .u32 r22, .int .u32 r23, .int .u32 r24, .int .u32 r25, .arr 76 64 r26, .int .i64 r27], [.box (.agg [.arr 76 8 r28, .arr 5 64 r29, .int .i64 r30])] => Hold (C_sha_Hash_mix_14 k r18 r19 r20 r21 r22 r23 r24 r25 r26 r27 r28 r29 r30 (fun z0 z1 z2 => K (.tup []) [.box (.agg [.arr 76 8 z0, .arr 5 64 z1, .int .i64 z2])]))
  | _, _, _ => False
def D69_23 (k : Nat) : Nat → List (A PU) → List (AObj PU) → (A PU → List (AObj PU) → Prop) → Prop := fun nb vals objs K => match nb, vals, objs with
  | 1, [.ptr 0 [], .arr 76 8 r37, .int .i64 r38], [.box (.agg [.arr 76 8 r39, .arr 5 64 r40, .int .i64 r41])] => Hold (C_sha_Hash_mix_23 k r37 r38 r39 r40 r41 (fun z0 z1 z2 => K (.tup []) [.box (.agg [.arr 76 8 z0, .arr 5 64 z1, .int .i64 z2])]))
  | _, _, _ => False
def D56_3 (k : Nat) : Nat → List (A PU) → List (AObj PU) → (A PU → List (AObj PU) → Prop) → Prop := fun nb vals objs K => match nb, vals, objs with
  | 1, [.ptr 0 [], .ro false 5 r5], [.box (.agg [.arr 76 8 r6, .arr 5 64 r7, .int .i64 r8])] => Hold (C_sha_Hash_Write_3 k r5 r6 r7 r8 (fun z0 z1 z2 z3 => K (.int .i64 z0) [.box (.agg [.arr 76 8 z1, .arr 5 64 z2, .int .i64 z3])]))
  | _, _, _ => False
def D57_9 (k : Nat) : Nat → List (A PU) → List (AObj PU) → (A PU → List (AObj PU) → Prop) → Prop := fun nb vals objs K => match nb, vals, objs with
  | 1, [.ptr 0 [], .ptr 1 [], .ptr 2 [], .ptr 3 [], .ptr 4 [], .int .i64 r8, .int .i64 r9], [.box (.agg [.arr 76 8 r10, .arr 5 64 r11, .int .i64 r12]), .box (.arr 5 32 r13), .box (.arr 5 32 r14), .box (.agg [.arr 76 8 r15, .arr 5 64 r16, .int .i64 r17]), .box (.arr 5 72 r18)] => Hold (C_sha_Hash_Sum_9 k r8 r9 r10 r11 r12 r13 r14 r15 r16 r17 r18 (fun z0 z1 z2 z3 => K (.arr 5 32 z0) [.box (.agg [.arr 76 8 z1, .arr 5 64 z2, .int .i64 z3])]))
  | _, _, _ => False
def D57_15 (k : Nat) : Nat → List (A PU) → List (AObj PU) → (A PU → List (AObj PU) → Prop) → Prop := fun nb vals objs K => match nb, vals, objs with
  | 1, [.ptr 1 [], .ptr 2 [], .ptr 3 [], .int .i64 r23], [.box (.agg [.arr 76 8 r24, .arr 5 64 r25, .int .i64 r26]), .box (.arr 5 32 r27), .box (.arr 5 32 r28), .box (.agg [.arr 76 8 r29, .arr 5 64 r30, .int .i64 r31])] => Hold (C_sha_Hash_Sum_15 k r23 r24 r25 r26 r27 r28 r29 r30 r31 (fun z0 z1 z2 z3 => K (.arr 5 32 z0) [.box (.agg [.arr 76 8 z1, .arr 5 64 z2, .int .i64 z3])]))
  | _, _, _ => False
def D40_4 (k : Nat) : Nat → List (A PU) → List (AObj PU) → (A PU → List (AObj PU) → Prop) → Prop := fun nb vals objs K => match nb, vals, objs with
  | 0, [.ptr 0 [], .ptr 1 []], [.box (.arr 5 32 r4), .box (.arr 5 32 r5)] => Hold (C_smt_short_4 k r4 r5 (fun z0 => K (.arr 5 32 z0) []))
  | _, _, _ => False
def D43_4 (k : Nat) : Nat → List (A PU) → List (AObj PU) → (A PU → List (AObj PU) → Prop) → Prop := fun nb vals objs K => match nb, vals, objs with
  | 0, [.int .i64 r11, .ptr 0 [], .ptr 1 [], .ro true 24 r12, .int .i64 r13, .int .i64 r14], [.box (.arr 5 32 r15), .box (.agg [.arr 76 8 r16, .arr 5 64 r17, .int .i64 r18])] => Hold (C_smt_summed_4 k r11 r12 r13 r14 r15 r16 r17 r18 (fun z0 => K (.arr 5 32 z0) []))
  | 0, [.int .i64 r11, .ptr 0 [], .ptr 1 [], .ro false 24 r12, .int .i64 r13, .int .i64 r14], [.box (.arr 5 32 r15), .box (.agg [.arr 76 8 r16, .arr 5 64 r17, .int .i64 r18])] => Hold (C_smt_summed_4 k r11 r12 r13 r14 r15 r16 r17 r18 (fun z0 => K (.arr 5 32 z0) []))
  | _, _, _ => False
def D11_2 (k : Nat) : Nat → List (A PU) → List (AObj PU) → (A PU → List (AObj PU) → Prop) → Prop := fun nb vals objs K => match nb, vals, objs with
  | 0, [.ro false 36 r4, .ptr 0 [], .nilp, .int .i64 r5], [.box (.arr 5 32 r6)] => Hold (C_smt_Root_2 k r4 r5 r6 (fun z0 z1 => K (.tup [.arr 5 32 z0, .int .i64 z1]) []))
  | 0, [.ro false 36 r21, .ptr 0 [], .ptr 1 [], .int .i64 r22], [.box (.arr 5 32 r23), .box (.agg [.int .i64 r24, .int .i64 r25, .tr 36 r26 []])] => Hold (C_smt_Root_2_1 k r21 r22 r23 r24 r25 r26 (fun z0 z1 => K (.tup [.arr 5 32 z0, .int .i64 z1]) []))
  | 0, [.ro true 36 r4, .ptr 0 [], .nilp, .int .i64 r5], [.box (.arr 5 32 r6)] => Hold (C_smt_Root_2 k r4 r5 r6 (fun z0 z1 => K (.tup [.arr 5 32 z0, .int .i64 z1]) []))
  | 0, [.ro true 36 r14, .ptr 0 [], .ptr 1 [], .int .i64 r15], [.box (.arr 5 32 r16), .box (.agg [.int .i64 r17, .int .i64 r18, .tr 36 r19 []])] => Hold (C_smt_Root_2_1 k r14 r15 r16 r17 r18 r19 (fun z0 z1 => K (.tup [.arr 5 32 z0, .int .i64 z1]) []))
  | _, _, _ => False
def D11_3 (k : Nat) : Nat → List (A PU) → List (AObj PU) → (A PU → List (AObj PU) → Prop) → Prop := fun nb vals objs K => match nb, vals, objs with
  | 0, [.ptr 0 [], .int .i64 r7], [.box (.arr 5 32 r8)] => Hold (C_smt_Root_3 k r7 r8 (fun z0 z1 => K (.tup [.arr 5 32 z0, .int .i64 z1]) []))
  | _, _, _ => False
def D11_4 (k : Nat) : Nat → List (A PU) → List (AObj PU) → (A PU → List (AObj PU) → Prop) → Prop := fun nb vals objs K => match nb, vals, objs with
  | 0, [.ro false 36 r9, .ptr 0 [], .nilp], [.box (.arr 5 32 r10)] => Hold (C_smt_Root_4 k r9 r10 (fun z0 z1 => K (.tup [.arr 5 32 z0, .int .i64 z1]) []))
  | 0, [.ro false 36 r27, .ptr 0 [], .ptr 1 []], [.box (.arr 5 32 r28), .box (.agg [.int .i64 r29, .int .i64 r30, .tr 36 r31 []])] => Hold (C_smt_Root_4_1 k r27 r28 r29 r30 r31 (fun z0 z1 => K (.tup [.arr 5 32 z0, .int .i64 z1]) []))
  | 0, [.ro true 36 r7, .ptr 0 [], .nilp], [.box (.arr 5 32 r8)] => Hold (C_smt_Root_4 k r7 r8 (fun z0 z1 => K (.tup [.arr 5 32 z0, .int .i64 z1]) []))
  | 0, [.ro true 36 r20, .ptr 0 [], .ptr 1 []], [.box (.arr 5 32 r21), .box (.agg [.int .i64 r22, .int .i64 r23, .tr 36 r24 []])] => Hold (C_smt_Root_4_1 k r20 r21 r22 r23 r24 (fun z0 z1 => K (.tup [.arr 5 32 z0, .int .i64 z1]) []))
  | _, _, _ => False
def D11_5 (k : Nat) : Nat → List (A PU) → List (AObj PU) → (A PU → List (AObj PU) → Prop) → Prop := fun nb vals objs K => match nb, vals, objs with
  | 0, [.ptr 0 [], .nilp, .int .i64 r12], [.box (.arr 5 32 r13)] => Hold (C_smt_Root_5 k r12 r13 (fun z0 z1 => K (.tup [.arr 5 32 z0, .int .i64 z1]) []))
  | 0, [.ptr 0 [], .ptr 1 [], .int .i64 r36], [.box (.arr 5 32 r37), .box (.agg [.int .i64 r38, .int .i64 r39, .tr 36 r40 []])] => Hold (C_smt_Root_5_1 k r36 r37 r38 r39 r40 (fun z0 z1 => K (.tup [.arr 5 32 z0, .int .i64 z1]) []))
  | _, _, _ => False
def D11_6 (k : Nat) : Nat → List (A PU) → List (AObj PU) → (A PU → List (AObj PU) → Prop) → Prop := fun nb vals objs K => match nb, vals, objs with
  | 0, [.ptr 0 [], .int .i64 r14], [.box (.arr 5 32 r15)] => Hold (C_smt_Root_6 k r14 r15 (fun z0 z1 => K (.tup [.arr 5 32 z0, .int .i64 z1]) []))
  | _, _, _ => False
def D13_2 (k : Nat) : Nat → List (A PU) → List (AObj PU) → (A PU → List (AObj PU) → Prop) → Prop := fun nb vals objs K => match nb, vals, objs with
  | 0, [.ro false 36 r2, .int .i64 r3], [] => Hold (C_r05_Twice_2 k r2 r3 (fun z0 => K (.bool z0) []))
  | 0, [.ro true 36 r2, .int .i64 r3], [] => Hold (C_r05_Twice_2 k r2 r3 (fun z0 => K (.bool z0) []))
  | _, _, _ => False
def D13_5 (k : Nat) : Nat → List (A PU) → List (AObj PU) → (A PU → List (AObj PU) → Prop) → Prop := fun nb vals objs K => match nb, vals, objs with
  | 0, [.ro false 36 r4, .int .i64 r5, .int .i64 r6], [] => Hold (C_r05_Twice_5 k r4 r5 r6 (fun z0 => K (.bool z0) []))
  | 0, [.ro true 36 r4, .int .i64 r5, .int .i64 r6], [] => Hold (C_r05_Twice_5 k r4 r5 r6 (fun z0 => K (.bool z0) []))
  | _, _, _ => False
def D58_4 (k : Nat) : Nat → List (A PU) → List (AObj PU) → (A PU → List (AObj PU) → Prop) → Prop := fun nb vals objs K => match nb, vals, objs with
  | 0, [.ro true 5 r2, .own 0], [.lst 5 r3] => Hold (C_r02_Padded_4 k r2 r3 (fun z0 => K (.usl 5 z0) []))
  | 0, [.ro false 5 r2, .own 0], [.lst 5 r3] => Hold (C_r02_Padded_4 k r2 r3 (fun z0 => K (.usl 5 z0) []))
  | _, _, _ => False
def D58_8 (k : Nat) : Nat → List (A PU) → List (AObj PU) → (A PU → List (AObj PU) → Prop) → Prop := fun nb vals objs K => match nb, vals, objs with
  | 0, [.own 0, .int .u64 r4, .int .i64 r5], [.lst 5 r6] => Hold (C_r02_Padded_8 k r4 r5 r6 (fun z0 => K (.usl 5 z0) []))
  | _, _, _ => False
def D60_3 (k : Nat) : Nat → List (A PU) → List (AObj PU) → (A PU → List (AObj PU) → Prop) → Prop := fun nb vals objs K => match nb, vals, objs with
  | 0, [.ro true 5 r3, .ptr 0 [], .ptr 1 [], .ptr 2 [], .int .i64 r4], [.box (.arr 76 8 r5), .box (.arr 76 8 r6), .box (.arr 76 64 r7)] => Hold (C_r02_block_3 k r3 r4 r5 r6 r7 (fun z0 => K (.arr 76 8 z0) []))
  | _, _, _ => False
def D60_7 (k : Nat) : Nat → List (A PU) → List (AObj PU) → (A PU → List (AObj PU) → Prop) → Prop := fun nb vals objs K => match nb, vals, objs with
  | 0, [.ptr 0 [], .ptr 1 [], .ptr 2 [], .int .i64 r8], [.box (.arr 76 8 r9), .box (.arr 76 8 r10), .box (.arr 76 64 r11)] => Hold (C_r02_block_7 k r8 r9 r10 r11 (fun z0 => K (.arr 76 8 z0) []))
  | _, _, _ => False
def D60_14 (k : Nat) : Nat → List (A PU) → List (AObj PU) → (A PU → List (AObj PU) → Prop) → Prop := fun nb vals objs K => match nb, vals, objs with
  | 0, [.ptr 0 [], .ptr 1 [], .ptr 2 [], .ptr 3 [], .int .i64 r16], [.box (.arr 76 8 r17), .box (.arr 76 8 r18), .box (.arr 76 64 r19), .box (.arr 76 8 r20)] => Hold (C_r02_block_14 k r16 r17 r18 r19 r20 (fun z0 => K (.arr 76 8 z0) []))
  | _, _, _ => False
def D60_22 (k : Nat) : Nat → List (A PU) → List (AObj PU) → (A PU → List (AObj PU) → Prop) → Prop := fun nb vals objs K => match nb, vals, objs with
  | 0, [.ptr 0 [], .ptr 1 [], .ptr 2 [], .int .i64 r27], [.box (.arr 76 8 r28), .box (.arr 76 8 r29), .box (.arr 76 8 r30)] => Hold (C_r02_block_22 k r27 r28 r29 r30 (fun z0 => K (.arr 76 8 z0) []))
  | _, _, _ => False
def D42_4 (k : Nat) : Nat → List (A PU) → List (AObj PU) → (A PU → List (AObj PU) → Prop) → Prop := fun nb vals objs K => match nb, vals, objs with
  | 0, [.ptr 0 [], .own 1, .ptr 2 [], .int .i64 r4], [.box (.arr 5 32 r5), .lst 5 r6, .box (.arr 76 8 r7)] => Hold (C_r02_Sum_4 k r4 r5 r6 r7 (fun z0 => K (.arr 5 32 z0) []))
  | _, _, _ => False
def D42_9 (k : Nat) : Nat → List (A PU) → List (AObj PU) → (A PU → List (AObj PU) → Prop) → Prop := fun nb vals objs K => match nb, vals, objs with
  | 0, [.ptr 0 [], .ptr 1 [], .ptr 2 [], .int .i64 r9], [.box (.arr 5 32 r10), .box (.arr 76 8 r11), .box (.arr 5 32 r12)] => Hold (C_r02_Sum_9 k r9 r10 r11 r12 (fun z0 => K (.arr 5 32 z0) []))
  | _, _, _ => False
def D19_6 (k : Nat) : Nat → List (A PU) → List (AObj PU) → (A PU → List (AObj PU) → Prop) → Prop := fun nb vals objs K => match nb, vals, objs with
  | 0, [.int .i64 r5, .ptr 0 [], .ptr 1 [], .ptr 2 [], .int .i64 r6], [.box (.arr 5 32 r7), .box (.arr 5 32 r8), .box (.arr 5 32 r9)] => Hold (C_r05_Short_6 k r5 r6 r7 r8 r9 (fun z0 z1 => K (.tup [.arr 5 32 z0, .int .i64 z1]) []))
  | _, _, _ => False
def D77_3 (k : Nat) : Nat → List (A PU) → List (AObj PU) → (A PU → List (AObj PU) → Prop) → Prop := fun nb vals objs K => match nb, vals, objs with
  | 0, [.int .i64 r2, .int .i64 r3, .int .i64 r4], [] => Hold (C_r04_weight_3 k r2 r3 r4 (fun z0 => K (.int .i64 z0) []))
  | _, _, _ => False
def D54_3 (k : Nat) : Nat → List (A PU) → List (AObj PU) → (A PU → List (AObj PU) → Prop) → Prop := fun nb vals objs K => match nb, vals, objs with
  | 0, [.ro true 36 r4, .int .i64 r5, .int .i64 r6, .own 0, .int .i64 r7], [.lst 36 r8] => Hold (C_r05_Half_3 k r4 r5 r6 r7 r8 (fun z0 => K (.usl 36 z0) []))
  | _, _, _ => False
def D54_4 (k : Nat) : Nat → List (A PU) → List (AObj PU) → (A PU → List (AObj PU) → Prop) → Prop := fun nb vals objs K => match nb, vals, objs with
  | 0, [.ro true 36 r10, .int .i64 r11, .int .i64 r12, .own 0, .int .i64 r13], [.lst 36 r14] => Hold (C_r05_Half_4 k r10 r11 r12 r13 r14 (fun z0 => K (.usl 36 z0) []))
  | _, _, _ => False
def D38_4 (k : Nat) : Nat → List (A PU) → List (AObj PU) → (A PU → List (AObj PU) → Prop) → Prop := fun nb vals objs K => match nb, vals, objs with
  | 0, [.ro false 36 r3, .ro true 36 r4, .int .i64 r5], [] => Hold (C_r05_Same_4 k r3 r4 r5 (fun z0 => K (.bool z0) []))
  | _, _, _ => False
def D3_10 (k : Nat) : Nat → List (A PU) → List (AObj PU) → (A PU → List (AObj PU) → Prop) → Prop := fun nb vals objs K => match nb, vals, objs with
  | 0, [.int .i64 r6, .int .i64 r7], [] => Hold (C_l05_SmtRoots_10 k r6 r7 (fun z0 => K (.bool z0) []))
  | _, _, _ => False
def PTr (k : Nat) : List (Nat × Fn PU) := [(39, T39 k), (26, T26 k), (27, T27 k), (29, T29 k), (61, T61 k), (89, T89 k), (73, T73 k), (64, T64 k), (63, T63 k), (62, T62 k), (46, T46 k), (49, T49 k), (76, T76 k), (67, T67 k), (50, T50 k), (30, T30 k), (47, T47 k), (55, T55 k), (78, T78 k), (69, T69 k), (56, T56 k), (57, T57 k), (40, T40 k), (43, T43 k), (24, T24 k), (22, T22 k), (66, T66 k), (20, T20 k), (48, T48 k), (11, T11 k), (12, T12 k), (35, T35 k), (36, T36 k), (14, T14 k), (13, T13 k), (15, T15 k), (58, T58 k), (59, T59 k), (70, T70 k), (60, T60 k), (42, T42 k), (19, T19 k), (21, T21 k), (44, T44 k), (23, T23 k), (77, T77 k), (68, T68 k), (54, T54 k), (45, T45 k), (25, T25 k), (37, T37 k), (16, T16 k), (38, T38 k), (17, T17 k), (3, T3 k), (41, T41 k), (18, T18 k), (5, T5 k)]
def PCr (k : Nat) : List (Nat × Nat × (Nat → List (A PU) → List (AObj PU) → (A PU → List (AObj PU) → Prop) → Prop)) := [(64, 2, D64_2 k), (46, 4, D46_4 k), (30, 5, D30_5 k), (30, 11, D30_11 k), (47, 3, D47_3 k), (47, 8, D47_8 k), (47, 9, D47_9 k), (27, 9, D27_9 k), (69, 2, D69_2 k), (69, 11, D69_11 k), (69, 14, D69_14 k), (69, 23, D69_23 k), (56, 3, D56_3 k), (57, 9, D57_9 k), (57, 15, D57_15 k), (40, 4, D40_4 k), (43, 4, D43_4 k), (11, 2, D11_2 k), (11, 3, D11_3 k), (11, 4, D11_4 k), (11, 5, D11_5 k), (11, 6, D11_6 k), (13, 2, D13_2 k), (13, 5, D13_5 k), (58, 4, D58_4 k), (58, 8, D58_8 k), (60, 3, D60_3 k), (60, 7, D60_7 k), (60, 14, D60_14 k), (60, 22, D60_22 k), (42, 4, D42_4 k), (42, 9, D42_9 k), (19, 6, D19_6 k), (77, 3, D77_3 k), (54, 3, D54_3 k), (54, 4, D54_4 k), (38, 4, D38_4 k), (3, 10, D3_10 k)]
def PT (k : Nat) : Tab PU := fun f => lookT f (PTr k)
def PC (k : Nat) : Cut PU := fun f id => lookC f id (PCr k)
theorem hrow62 (k : Nat) (l : List S_api_Leaf) (K : A PU → List (AObj PU) → Prop) (h : (100 ≤ k ∧ List.length l < 4611686018427387904) ∧ ∀ l9 : (List S_api_Leaf), List.Perm l9 l ∧ SortedL l9 → K (.tup []) [.lst 36 l9]) (TS : TSound PE (PT k)) : RowSound PE 62 [.own 0, .clo 63 []] [.lst 36 l] K :=
  hand62 l K TS h.1.2 h.2 fun a b K' hab hK => (Hold.mp (p := Hold (F_smt_twice_1 k a.f0 a.f1 b.f0 b.f1 (fun z0 => K' (.int .i64 z0) []))) (by kernel_rfl) ⟨cmp_s k hab.1 hab.2 (by have := h.1.1; omega) hK⟩).out
theorem hrow48 (k : Nat) (x : KT S_api_Leaf) (w : Int) (K : A PU → List (AObj PU) → Prop) (h : (digBound x ≤ k ∧ (0 ≤ w ∧ w ≤ 32) ∧ allG w x) ∧ K (.arr 5 32 (digT w x)) []) (TS : TSound PE (PT k)) : RowSound PE 48 [.tr 36 x [], .int .i64 w] [] K :=
  hand48 x w K TS h.1.2.1 h.1.2.2 h.2
    (fun K' hK => (Hold.mp (p := Hold (F_smt_Empty k w (fun z0 => K' (.arr 5 32 z0) []))) (by kernel_rfl) ⟨Empty_i k h.1.2.1 (by have := h.1.1; unfold digBound at this; omega) hK⟩).out)
    (fun g v l r dl K' e hK => (Hold.mp (p := Hold (F_smt_knot_digest_1 k w 0 1 0 dl v.f0 v.f1 l r (fun z0 z1 z2 z3 z4 z5 z6 z7 z8 => K' (.tup []) [.box (.ptr 2 []), .box (.int .i64 z0), .box (.agg [.agg [.agg [.int .u32 z1, .int .i32 z2, .int .u32 z3], .arr 5 32 z4], .agg [.arr 5 32 z5, .arr 5 32 z6], .tr 36 z7 [], .tr 36 z8 []])]))) (by kernel_rfl) ⟨digest_1_s k h.1.2.1 (e ▸ h.1.2.2) (e ▸ h.1.1) (by subst e; exact hK)⟩).out)
theorem fnok39 : fnOk PE.P 39 = true := by kernel_rfl
theorem fnok26 : fnOk PE.P 26 = true := by kernel_rfl
theorem fnok27 : fnOk PE.P 27 = true := by kernel_rfl
theorem fnok29 : fnOk PE.P 29 = true := by kernel_rfl
theorem fnok61 : fnOk PE.P 61 = true := by kernel_rfl
theorem fnok89 : fnOk PE.P 89 = true := by kernel_rfl
theorem fnok73 : fnOk PE.P 73 = true := by kernel_rfl
theorem fnok64 : fnOk PE.P 64 = true := by kernel_rfl
theorem fnok63 : fnOk PE.P 63 = true := by kernel_rfl
theorem fnok46 : fnOk PE.P 46 = true := by kernel_rfl
theorem fnok49 : fnOk PE.P 49 = true := by kernel_rfl
theorem fnok76 : fnOk PE.P 76 = true := by kernel_rfl
theorem fnok67 : fnOk PE.P 67 = true := by kernel_rfl
theorem fnok50 : fnOk PE.P 50 = true := by kernel_rfl
theorem fnok30 : fnOk PE.P 30 = true := by kernel_rfl
theorem fnok47 : fnOk PE.P 47 = true := by kernel_rfl
theorem fnok55 : fnOk PE.P 55 = true := by kernel_rfl
theorem fnok78 : fnOk PE.P 78 = true := by kernel_rfl
theorem fnok69 : fnOk PE.P 69 = true := by kernel_rfl
theorem fnok56 : fnOk PE.P 56 = true := by kernel_rfl
theorem fnok57 : fnOk PE.P 57 = true := by kernel_rfl
theorem fnok40 : fnOk PE.P 40 = true := by kernel_rfl
theorem fnok43 : fnOk PE.P 43 = true := by kernel_rfl
theorem fnok24 : fnOk PE.P 24 = true := by kernel_rfl
theorem fnok22 : fnOk PE.P 22 = true := by kernel_rfl
theorem fnok66 : fnOk PE.P 66 = true := by kernel_rfl
theorem fnok20 : fnOk PE.P 20 = true := by kernel_rfl
theorem fnok11 : fnOk PE.P 11 = true := by kernel_rfl
theorem fnok12 : fnOk PE.P 12 = true := by kernel_rfl
theorem fnok35 : fnOk PE.P 35 = true := by kernel_rfl
theorem fnok36 : fnOk PE.P 36 = true := by kernel_rfl
theorem fnok14 : fnOk PE.P 14 = true := by kernel_rfl
theorem fnok13 : fnOk PE.P 13 = true := by kernel_rfl
theorem fnok15 : fnOk PE.P 15 = true := by kernel_rfl
theorem fnok58 : fnOk PE.P 58 = true := by kernel_rfl
theorem fnok59 : fnOk PE.P 59 = true := by kernel_rfl
theorem fnok70 : fnOk PE.P 70 = true := by kernel_rfl
theorem fnok60 : fnOk PE.P 60 = true := by kernel_rfl
theorem fnok42 : fnOk PE.P 42 = true := by kernel_rfl
theorem fnok19 : fnOk PE.P 19 = true := by kernel_rfl
theorem fnok21 : fnOk PE.P 21 = true := by kernel_rfl
theorem fnok44 : fnOk PE.P 44 = true := by kernel_rfl
theorem fnok23 : fnOk PE.P 23 = true := by kernel_rfl
theorem fnok77 : fnOk PE.P 77 = true := by kernel_rfl
theorem fnok68 : fnOk PE.P 68 = true := by kernel_rfl
theorem fnok54 : fnOk PE.P 54 = true := by kernel_rfl
theorem fnok45 : fnOk PE.P 45 = true := by kernel_rfl
theorem fnok25 : fnOk PE.P 25 = true := by kernel_rfl
theorem fnok37 : fnOk PE.P 37 = true := by kernel_rfl
theorem fnok16 : fnOk PE.P 16 = true := by kernel_rfl
theorem fnok38 : fnOk PE.P 38 = true := by kernel_rfl
theorem fnok17 : fnOk PE.P 17 = true := by kernel_rfl
theorem fnok3 : fnOk PE.P 3 = true := by kernel_rfl
theorem fnok41 : fnOk PE.P 41 = true := by kernel_rfl
theorem fnok18 : fnOk PE.P 18 = true := by kernel_rfl
theorem fnok5 : fnOk PE.P 5 = true := by kernel_rfl
theorem T39_z (args : List (A PU)) (objs : List (AObj PU)) (K : A PU → List (AObj PU) → Prop) : ¬ T39 0 args objs K := by
  intro h; unfold T39 at h; split at h <;> (first | exact h | exact h.out)
theorem T39_ok (k : Nat) (args : List (A PU)) (objs : List (AObj PU)) (K : A PU → List (AObj PU) → Prop) (h : T39 (k + 1) args objs K) : RowOk PE (PT k) (PC k) 39 args objs K := by
  unfold T39 at h; split at h
  · exact .fn fnok39 rfl (Hold.mp (by kernel_rfl) h.out)
  · exact h.elim
theorem T26_z (args : List (A PU)) (objs : List (AObj PU)) (K : A PU → List (AObj PU) → Prop) : ¬ T26 0 args objs K := by
  intro h; unfold T26 at h; split at h <;> (first | exact h | exact h.out)
theorem T26_ok (k : Nat) (args : List (A PU)) (objs : List (AObj PU)) (K : A PU → List (AObj PU) → Prop) (h : T26 (k + 1) args objs K) : RowOk PE (PT k) (PC k) 26 args objs K := by
  unfold T26 at h; split at h
  · exact .fn fnok26 rfl (Hold.mp (by kernel_rfl) h.out)
  · exact h.elim
theorem T27_z (args : List (A PU)) (objs : List (AObj PU)) (K : A PU → List (AObj PU) → Prop) : ¬ T27 0 args objs K := by
  intro h; unfold T27 at h; split at h <;> (first | exact h | exact h.out)
theorem T27_ok (k : Nat) (args : List (A PU)) (objs : List (AObj PU)) (K : A PU → List (AObj PU) → Prop) (h : T27 (k + 1) args objs K) : RowOk PE (PT k) (PC k) 27 args objs K := by
  unfold T27 at h; split at h
  · exact .fn fnok27 rfl (Hold.mp (by kernel_rfl) h.out)
  · exact .fn fnok27 rfl (Hold.mp (by kernel_rfl) h.out)
  · exact .fn fnok27 rfl (Hold.mp (by kernel_rfl) h.out)
  · exact .fn fnok27 rfl (Hold.mp (by kernel_rfl) h.out)
  · exact h.elim
theorem T29_z (args : List (A PU)) (objs : List (AObj PU)) (K : A PU → List (AObj PU) → Prop) : ¬ T29 0 args objs K := by
  intro h; unfold T29 at h; split at h <;> (first | exact h | exact h.out)
theorem T29_ok (k : Nat) (args : List (A PU)) (objs : List (AObj PU)) (K : A PU → List (AObj PU) → Prop) (h : T29 (k + 1) args objs K) : RowOk PE (PT k) (PC k) 29 args objs K := by
  unfold T29 at h; split at h
  · exact .fn fnok29 rfl (Hold.mp (by kernel_rfl) h.out)
  · exact .fn fnok29 rfl (Hold.mp (by kernel_rfl) h.out)
  · exact h.elim
theorem T61_z (args : List (A PU)) (objs : List (AObj PU)) (K : A PU → List (AObj PU) → Prop) : ¬ T61 0 args objs K := by
  intro h; unfold T61 at h; split at h <;> (first | exact h | exact h.out)
theorem T61_ok (k : Nat) (args : List (A PU)) (objs : List (AObj PU)) (K : A PU → List (AObj PU) → Prop) (h : T61 (k + 1) args objs K) : RowOk PE (PT k) (PC k) 61 args objs K := by
  unfold T61 at h; split at h
  · exact .fn fnok61 rfl (Hold.mp (by kernel_rfl) h.out)
  · exact .fn fnok61 rfl (Hold.mp (by kernel_rfl) h.out)
  · exact h.elim
theorem T89_z (args : List (A PU)) (objs : List (AObj PU)) (K : A PU → List (AObj PU) → Prop) : ¬ T89 0 args objs K := by
  intro h; unfold T89 at h; split at h <;> (first | exact h | exact h.out)
theorem T89_ok (k : Nat) (args : List (A PU)) (objs : List (AObj PU)) (K : A PU → List (AObj PU) → Prop) (h : T89 (k + 1) args objs K) : RowOk PE (PT k) (PC k) 89 args objs K := by
  unfold T89 at h; split at h
  · exact .fn fnok89 rfl (Hold.mp (by kernel_rfl) h.out)
  · exact h.elim
theorem T73_z (args : List (A PU)) (objs : List (AObj PU)) (K : A PU → List (AObj PU) → Prop) : ¬ T73 0 args objs K := by
  intro h; unfold T73 at h; split at h <;> (first | exact h | exact h.out)
theorem T73_ok (k : Nat) (args : List (A PU)) (objs : List (AObj PU)) (K : A PU → List (AObj PU) → Prop) (h : T73 (k + 1) args objs K) : RowOk PE (PT k) (PC k) 73 args objs K := by
  unfold T73 at h; split at h
  · exact .fn fnok73 rfl (Hold.mp (by kernel_rfl) h.out)
  · exact h.elim
theorem T64_z (args : List (A PU)) (objs : List (AObj PU)) (K : A PU → List (AObj PU) → Prop) : ¬ T64 0 args objs K := by
  intro h; unfold T64 at h; split at h <;> (first | exact h | exact h.out)
theorem T64_ok (k : Nat) (args : List (A PU)) (objs : List (AObj PU)) (K : A PU → List (AObj PU) → Prop) (h : T64 (k + 1) args objs K) : RowOk PE (PT k) (PC k) 64 args objs K := by
  unfold T64 at h; split at h
  · exact .fn fnok64 rfl (Hold.mp (by kernel_rfl) h.out)
  · exact h.elim
theorem T63_z (args : List (A PU)) (objs : List (AObj PU)) (K : A PU → List (AObj PU) → Prop) : ¬ T63 0 args objs K := by
  intro h; unfold T63 at h; split at h <;> (first | exact h | exact h.out)
theorem T63_ok (k : Nat) (args : List (A PU)) (objs : List (AObj PU)) (K : A PU → List (AObj PU) → Prop) (h : T63 (k + 1) args objs K) : RowOk PE (PT k) (PC k) 63 args objs K := by
  unfold T63 at h; split at h
  · exact .fn fnok63 rfl (Hold.mp (by kernel_rfl) h.out)
  · exact h.elim
theorem T62_z (args : List (A PU)) (objs : List (AObj PU)) (K : A PU → List (AObj PU) → Prop) : ¬ T62 0 args objs K := by
  intro h; unfold T62 at h; split at h <;> (first | exact h | exact h.out)
theorem T62_ok (k : Nat) (args : List (A PU)) (objs : List (AObj PU)) (K : A PU → List (AObj PU) → Prop) (h : T62 (k + 1) args objs K) : RowOk PE (PT k) (PC k) 62 args objs K := by
  unfold T62 at h; split at h
  · exact .row fun TS => hrow62 k _ _ (Hold.mp (by kernel_rfl) h.out).out TS
  · exact h.elim
theorem T46_z (args : List (A PU)) (objs : List (AObj PU)) (K : A PU → List (AObj PU) → Prop) : ¬ T46 0 args objs K := by
  intro h; unfold T46 at h; split at h <;> (first | exact h | exact h.out)
theorem T46_ok (k : Nat) (args : List (A PU)) (objs : List (AObj PU)) (K : A PU → List (AObj PU) → Prop) (h : T46 (k + 1) args objs K) : RowOk PE (PT k) (PC k) 46 args objs K := by
  unfold T46 at h; split at h
  · exact .fn fnok46 rfl (Hold.mp (by kernel_rfl) h.out)
  · exact .fn fnok46 rfl (Hold.mp (by kernel_rfl) h.out)
  · exact h.elim
theorem T49_z (args : List (A PU)) (objs : List (AObj PU)) (K : A PU → List (AObj PU) → Prop) : ¬ T49 0 args objs K := by
  intro h; unfold T49 at h; split at h <;> (first | exact h | exact h.out)
theorem T49_ok (k : Nat) (args : List (A PU)) (objs : List (AObj PU)) (K : A PU → List (AObj PU) → Prop) (h : T49 (k + 1) args objs K) : RowOk PE (PT k) (PC k) 49 args objs K := by
  unfold T49 at h; split at h
  · exact .fn fnok49 rfl (Hold.mp (by kernel_rfl) h.out)
  · exact .fn fnok49 rfl (Hold.mp (by kernel_rfl) h.out)
  · exact h.elim
theorem T76_z (args : List (A PU)) (objs : List (AObj PU)) (K : A PU → List (AObj PU) → Prop) : ¬ T76 0 args objs K := by
  intro h; unfold T76 at h; split at h <;> (first | exact h | exact h.out)
theorem T76_ok (k : Nat) (args : List (A PU)) (objs : List (AObj PU)) (K : A PU → List (AObj PU) → Prop) (h : T76 (k + 1) args objs K) : RowOk PE (PT k) (PC k) 76 args objs K := by
  unfold T76 at h; split at h
  · exact .fn fnok76 rfl (Hold.mp (by kernel_rfl) h.out)
  · exact h.elim
theorem T67_z (args : List (A PU)) (objs : List (AObj PU)) (K : A PU → List (AObj PU) → Prop) : ¬ T67 0 args objs K := by
  intro h; unfold T67 at h; split at h <;> (first | exact h | exact h.out)
theorem T67_ok (k : Nat) (args : List (A PU)) (objs : List (AObj PU)) (K : A PU → List (AObj PU) → Prop) (h : T67 (k + 1) args objs K) : RowOk PE (PT k) (PC k) 67 args objs K := by
  unfold T67 at h; split at h
  · exact .fn fnok67 rfl (Hold.mp (by kernel_rfl) h.out)
  · exact h.elim
theorem T50_z (args : List (A PU)) (objs : List (AObj PU)) (K : A PU → List (AObj PU) → Prop) : ¬ T50 0 args objs K := by
  intro h; unfold T50 at h; split at h <;> (first | exact h | exact h.out)
theorem T50_ok (k : Nat) (args : List (A PU)) (objs : List (AObj PU)) (K : A PU → List (AObj PU) → Prop) (h : T50 (k + 1) args objs K) : RowOk PE (PT k) (PC k) 50 args objs K := by
  unfold T50 at h; split at h
  · exact .fn fnok50 rfl (Hold.mp (by kernel_rfl) h.out)
  · exact h.elim
theorem T30_z (args : List (A PU)) (objs : List (AObj PU)) (K : A PU → List (AObj PU) → Prop) : ¬ T30 0 args objs K := by
  intro h; unfold T30 at h; split at h <;> (first | exact h | exact h.out)
theorem T30_ok (k : Nat) (args : List (A PU)) (objs : List (AObj PU)) (K : A PU → List (AObj PU) → Prop) (h : T30 (k + 1) args objs K) : RowOk PE (PT k) (PC k) 30 args objs K := by
  unfold T30 at h; split at h
  · exact .fn fnok30 rfl (Hold.mp (by kernel_rfl) h.out)
  · exact h.elim
theorem T47_z (args : List (A PU)) (objs : List (AObj PU)) (K : A PU → List (AObj PU) → Prop) : ¬ T47 0 args objs K := by
  intro h; unfold T47 at h; split at h <;> (first | exact h | exact h.out)
theorem T47_ok (k : Nat) (args : List (A PU)) (objs : List (AObj PU)) (K : A PU → List (AObj PU) → Prop) (h : T47 (k + 1) args objs K) : RowOk PE (PT k) (PC k) 47 args objs K := by
  unfold T47 at h; split at h
  · exact .fn fnok47 rfl (Hold.mp (by kernel_rfl) h.out)
  · exact h.elim
theorem T55_z (args : List (A PU)) (objs : List (AObj PU)) (K : A PU → List (AObj PU) → Prop) : ¬ T55 0 args objs K := by
  intro h; unfold T55 at h; split at h <;> (first | exact h | exact h.out)
theorem T55_ok (k : Nat) (args : List (A PU)) (objs : List (AObj PU)) (K : A PU → List (AObj PU) → Prop) (h : T55 (k + 1) args objs K) : RowOk PE (PT k) (PC k) 55 args objs K := by
  unfold T55 at h; split at h
  · exact .fn fnok55 rfl (Hold.mp (by kernel_rfl) h.out)
  · exact h.elim
theorem T78_z (args : List (A PU)) (objs : List (AObj PU)) (K : A PU → List (AObj PU) → Prop) : ¬ T78 0 args objs K := by
  intro h; unfold T78 at h; split at h <;> (first | exact h | exact h.out)
theorem T78_ok (k : Nat) (args : List (A PU)) (objs : List (AObj PU)) (K : A PU → List (AObj PU) → Prop) (h : T78 (k + 1) args objs K) : RowOk PE (PT k) (PC k) 78 args objs K := by
  unfold T78 at h; split at h
  · exact .fn fnok78 rfl (Hold.mp (by kernel_rfl) h.out)
  · exact h.elim
theorem T69_z (args : List (A PU)) (objs : List (AObj PU)) (K : A PU → List (AObj PU) → Prop) : ¬ T69 0 args objs K := by
  intro h; unfold T69 at h; split at h <;> (first | exact h | exact h.out)
theorem T69_ok (k : Nat) (args : List (A PU)) (objs : List (AObj PU)) (K : A PU → List (AObj PU) → Prop) (h : T69 (k + 1) args objs K) : RowOk PE (PT k) (PC k) 69 args objs K := by
  unfold T69 at h; split at h
  · exact .fn fnok69 rfl (Hold.mp (by kernel_rfl) h.out)
  · exact h.elim
theorem T56_z (args : List (A PU)) (objs : List (AObj PU)) (K : A PU → List (AObj PU) → Prop) : ¬ T56 0 args objs K := by
  intro h; unfold T56 at h; split at h <;> (first | exact h | exact h.out)
theorem T56_ok (k : Nat) (args : List (A PU)) (objs : List (AObj PU)) (K : A PU → List (AObj PU) → Prop) (h : T56 (k + 1) args objs K) : RowOk PE (PT k) (PC k) 56 args objs K := by
  unfold T56 at h; split at h
  · exact .fn fnok56 rfl (Hold.mp (by kernel_rfl) h.out)
  · exact h.elim
theorem T57_z (args : List (A PU)) (objs : List (AObj PU)) (K : A PU → List (AObj PU) → Prop) : ¬ T57 0 args objs K := by
  intro h; unfold T57 at h; split at h <;> (first | exact h | exact h.out)
theorem T57_ok (k : Nat) (args : List (A PU)) (objs : List (AObj PU)) (K : A PU → List (AObj PU) → Prop) (h : T57 (k + 1) args objs K) : RowOk PE (PT k) (PC k) 57 args objs K := by
  unfold T57 at h; split at h
  · exact .fn fnok57 rfl (Hold.mp (by kernel_rfl) h.out)
  · exact h.elim
theorem T40_z (args : List (A PU)) (objs : List (AObj PU)) (K : A PU → List (AObj PU) → Prop) : ¬ T40 0 args objs K := by
  intro h; unfold T40 at h; split at h <;> (first | exact h | exact h.out)
theorem T40_ok (k : Nat) (args : List (A PU)) (objs : List (AObj PU)) (K : A PU → List (AObj PU) → Prop) (h : T40 (k + 1) args objs K) : RowOk PE (PT k) (PC k) 40 args objs K := by
  unfold T40 at h; split at h
  · exact .fn fnok40 rfl (Hold.mp (by kernel_rfl) h.out)
  · exact h.elim
theorem T43_z (args : List (A PU)) (objs : List (AObj PU)) (K : A PU → List (AObj PU) → Prop) : ¬ T43 0 args objs K := by
  intro h; unfold T43 at h; split at h <;> (first | exact h | exact h.out)
theorem T43_ok (k : Nat) (args : List (A PU)) (objs : List (AObj PU)) (K : A PU → List (AObj PU) → Prop) (h : T43 (k + 1) args objs K) : RowOk PE (PT k) (PC k) 43 args objs K := by
  unfold T43 at h; split at h
  · exact .fn fnok43 rfl (Hold.mp (by kernel_rfl) h.out)
  · exact .fn fnok43 rfl (Hold.mp (by kernel_rfl) h.out)
  · exact h.elim
theorem T24_z (args : List (A PU)) (objs : List (AObj PU)) (K : A PU → List (AObj PU) → Prop) : ¬ T24 0 args objs K := by
  intro h; unfold T24 at h; split at h <;> (first | exact h | exact h.out)
theorem T24_ok (k : Nat) (args : List (A PU)) (objs : List (AObj PU)) (K : A PU → List (AObj PU) → Prop) (h : T24 (k + 1) args objs K) : RowOk PE (PT k) (PC k) 24 args objs K := by
  unfold T24 at h; split at h
  · exact .fn fnok24 rfl (Hold.mp (by kernel_rfl) h.out)
  · exact h.elim
theorem T22_z (args : List (A PU)) (objs : List (AObj PU)) (K : A PU → List (AObj PU) → Prop) : ¬ T22 0 args objs K := by
  intro h; unfold T22 at h; split at h <;> (first | exact h | exact h.out)
theorem T22_ok (k : Nat) (args : List (A PU)) (objs : List (AObj PU)) (K : A PU → List (AObj PU) → Prop) (h : T22 (k + 1) args objs K) : RowOk PE (PT k) (PC k) 22 args objs K := by
  unfold T22 at h; split at h
  · exact .fn fnok22 rfl (Hold.mp (by kernel_rfl) h.out)
  · exact h.elim
theorem T66_z (args : List (A PU)) (objs : List (AObj PU)) (K : A PU → List (AObj PU) → Prop) : ¬ T66 0 args objs K := by
  intro h; unfold T66 at h; split at h <;> (first | exact h | exact h.out)
theorem T66_ok (k : Nat) (args : List (A PU)) (objs : List (AObj PU)) (K : A PU → List (AObj PU) → Prop) (h : T66 (k + 1) args objs K) : RowOk PE (PT k) (PC k) 66 args objs K := by
  unfold T66 at h; split at h
  · exact .fn fnok66 rfl (Hold.mp (by kernel_rfl) h.out)
  · exact h.elim
theorem T20_z (args : List (A PU)) (objs : List (AObj PU)) (K : A PU → List (AObj PU) → Prop) : ¬ T20 0 args objs K := by
  intro h; unfold T20 at h; split at h <;> (first | exact h | exact h.out)
theorem T20_ok (k : Nat) (args : List (A PU)) (objs : List (AObj PU)) (K : A PU → List (AObj PU) → Prop) (h : T20 (k + 1) args objs K) : RowOk PE (PT k) (PC k) 20 args objs K := by
  unfold T20 at h; split at h
  · exact .fn fnok20 rfl (Hold.mp (by kernel_rfl) h.out)
  · exact h.elim
theorem T48_z (args : List (A PU)) (objs : List (AObj PU)) (K : A PU → List (AObj PU) → Prop) : ¬ T48 0 args objs K := by
  intro h; unfold T48 at h; split at h <;> (first | exact h | exact h.out)
theorem T48_ok (k : Nat) (args : List (A PU)) (objs : List (AObj PU)) (K : A PU → List (AObj PU) → Prop) (h : T48 (k + 1) args objs K) : RowOk PE (PT k) (PC k) 48 args objs K := by
  unfold T48 at h; split at h
  · exact .row fun TS => hrow48 k _ _ _ (Hold.mp (by kernel_rfl) h.out).out TS
  · exact h.elim
theorem T11_z (args : List (A PU)) (objs : List (AObj PU)) (K : A PU → List (AObj PU) → Prop) : ¬ T11 0 args objs K := by
  intro h; unfold T11 at h; split at h <;> (first | exact h | exact h.out)
theorem T11_ok (k : Nat) (args : List (A PU)) (objs : List (AObj PU)) (K : A PU → List (AObj PU) → Prop) (h : T11 (k + 1) args objs K) : RowOk PE (PT k) (PC k) 11 args objs K := by
  unfold T11 at h; split at h
  · exact .fn fnok11 rfl (Hold.mp (by kernel_rfl) h.out)
  · exact .fn fnok11 rfl (Hold.mp (by kernel_rfl) h.out)
  · exact h.elim
theorem T12_z (args : List (A PU)) (objs : List (AObj PU)) (K : A PU → List (AObj PU) → Prop) : ¬ T12 0 args objs K := by
  intro h; unfold T12 at h; split at h <;> (first | exact h | exact h.out)
theorem T12_ok (k : Nat) (args : List (A PU)) (objs : List (AObj PU)) (K : A PU → List (AObj PU) → Prop) (h : T12 (k + 1) args objs K) : RowOk PE (PT k) (PC k) 12 args objs K := by
  unfold T12 at h; split at h
  · exact .fn fnok12 rfl (Hold.mp (by kernel_rfl) h.out)
  · exact h.elim
theorem T35_z (args : List (A PU)) (objs : List (AObj PU)) (K : A PU → List (AObj PU) → Prop) : ¬ T35 0 args objs K := by
  intro h; unfold T35 at h; split at h <;> (first | exact h | exact h.out)
theorem T35_ok (k : Nat) (args : List (A PU)) (objs : List (AObj PU)) (K : A PU → List (AObj PU) → Prop) (h : T35 (k + 1) args objs K) : RowOk PE (PT k) (PC k) 35 args objs K := by
  unfold T35 at h; split at h
  · exact .fn fnok35 rfl (Hold.mp (by kernel_rfl) h.out)
  · exact h.elim
theorem T36_z (args : List (A PU)) (objs : List (AObj PU)) (K : A PU → List (AObj PU) → Prop) : ¬ T36 0 args objs K := by
  intro h; unfold T36 at h; split at h <;> (first | exact h | exact h.out)
theorem T36_ok (k : Nat) (args : List (A PU)) (objs : List (AObj PU)) (K : A PU → List (AObj PU) → Prop) (h : T36 (k + 1) args objs K) : RowOk PE (PT k) (PC k) 36 args objs K := by
  unfold T36 at h; split at h
  · exact .fn fnok36 rfl (Hold.mp (by kernel_rfl) h.out)
  · exact h.elim
theorem T14_z (args : List (A PU)) (objs : List (AObj PU)) (K : A PU → List (AObj PU) → Prop) : ¬ T14 0 args objs K := by
  intro h; unfold T14 at h; split at h <;> (first | exact h | exact h.out)
theorem T14_ok (k : Nat) (args : List (A PU)) (objs : List (AObj PU)) (K : A PU → List (AObj PU) → Prop) (h : T14 (k + 1) args objs K) : RowOk PE (PT k) (PC k) 14 args objs K := by
  unfold T14 at h; split at h
  · exact .fn fnok14 rfl (Hold.mp (by kernel_rfl) h.out)
  · exact h.elim
theorem T13_z (args : List (A PU)) (objs : List (AObj PU)) (K : A PU → List (AObj PU) → Prop) : ¬ T13 0 args objs K := by
  intro h; unfold T13 at h; split at h <;> (first | exact h | exact h.out)
theorem T13_ok (k : Nat) (args : List (A PU)) (objs : List (AObj PU)) (K : A PU → List (AObj PU) → Prop) (h : T13 (k + 1) args objs K) : RowOk PE (PT k) (PC k) 13 args objs K := by
  unfold T13 at h; split at h
  · exact .fn fnok13 rfl (Hold.mp (by kernel_rfl) h.out)
  · exact .fn fnok13 rfl (Hold.mp (by kernel_rfl) h.out)
  · exact h.elim
theorem T15_z (args : List (A PU)) (objs : List (AObj PU)) (K : A PU → List (AObj PU) → Prop) : ¬ T15 0 args objs K := by
  intro h; unfold T15 at h; split at h <;> (first | exact h | exact h.out)
theorem T15_ok (k : Nat) (args : List (A PU)) (objs : List (AObj PU)) (K : A PU → List (AObj PU) → Prop) (h : T15 (k + 1) args objs K) : RowOk PE (PT k) (PC k) 15 args objs K := by
  unfold T15 at h; split at h
  · exact .fn fnok15 rfl (Hold.mp (by kernel_rfl) h.out)
  · exact h.elim
theorem T58_z (args : List (A PU)) (objs : List (AObj PU)) (K : A PU → List (AObj PU) → Prop) : ¬ T58 0 args objs K := by
  intro h; unfold T58 at h; split at h <;> (first | exact h | exact h.out)
theorem T58_ok (k : Nat) (args : List (A PU)) (objs : List (AObj PU)) (K : A PU → List (AObj PU) → Prop) (h : T58 (k + 1) args objs K) : RowOk PE (PT k) (PC k) 58 args objs K := by
  unfold T58 at h; split at h
  · exact .fn fnok58 rfl (Hold.mp (by kernel_rfl) h.out)
  · exact .fn fnok58 rfl (Hold.mp (by kernel_rfl) h.out)
  · exact h.elim
theorem T59_z (args : List (A PU)) (objs : List (AObj PU)) (K : A PU → List (AObj PU) → Prop) : ¬ T59 0 args objs K := by
  intro h; unfold T59 at h; split at h <;> (first | exact h | exact h.out)
theorem T59_ok (k : Nat) (args : List (A PU)) (objs : List (AObj PU)) (K : A PU → List (AObj PU) → Prop) (h : T59 (k + 1) args objs K) : RowOk PE (PT k) (PC k) 59 args objs K := by
  unfold T59 at h; split at h
  · exact .fn fnok59 rfl (Hold.mp (by kernel_rfl) h.out)
  · exact h.elim
theorem T70_z (args : List (A PU)) (objs : List (AObj PU)) (K : A PU → List (AObj PU) → Prop) : ¬ T70 0 args objs K := by
  intro h; unfold T70 at h; split at h <;> (first | exact h | exact h.out)
theorem T70_ok (k : Nat) (args : List (A PU)) (objs : List (AObj PU)) (K : A PU → List (AObj PU) → Prop) (h : T70 (k + 1) args objs K) : RowOk PE (PT k) (PC k) 70 args objs K := by
  unfold T70 at h; split at h
  · exact .fn fnok70 rfl (Hold.mp (by kernel_rfl) h.out)
  · exact h.elim
theorem T60_z (args : List (A PU)) (objs : List (AObj PU)) (K : A PU → List (AObj PU) → Prop) : ¬ T60 0 args objs K := by
  intro h; unfold T60 at h; split at h <;> (first | exact h | exact h.out)
theorem T60_ok (k : Nat) (args : List (A PU)) (objs : List (AObj PU)) (K : A PU → List (AObj PU) → Prop) (h : T60 (k + 1) args objs K) : RowOk PE (PT k) (PC k) 60 args objs K := by
  unfold T60 at h; split at h
  · exact .fn fnok60 rfl (Hold.mp (by kernel_rfl) h.out)
  · exact h.elim
theorem T42_z (args : List (A PU)) (objs : List (AObj PU)) (K : A PU → List (AObj PU) → Prop) : ¬ T42 0 args objs K := by
  intro h; unfold T42 at h; split at h <;> (first | exact h | exact h.out)
theorem T42_ok (k : Nat) (args : List (A PU)) (objs : List (AObj PU)) (K : A PU → List (AObj PU) → Prop) (h : T42 (k + 1) args objs K) : RowOk PE (PT k) (PC k) 42 args objs K := by
  unfold T42 at h; split at h
  · exact .fn fnok42 rfl (Hold.mp (by kernel_rfl) h.out)
  · exact .fn fnok42 rfl (Hold.mp (by kernel_rfl) h.out)
  · exact h.elim
theorem T19_z (args : List (A PU)) (objs : List (AObj PU)) (K : A PU → List (AObj PU) → Prop) : ¬ T19 0 args objs K := by
  intro h; unfold T19 at h; split at h <;> (first | exact h | exact h.out)
theorem T19_ok (k : Nat) (args : List (A PU)) (objs : List (AObj PU)) (K : A PU → List (AObj PU) → Prop) (h : T19 (k + 1) args objs K) : RowOk PE (PT k) (PC k) 19 args objs K := by
  unfold T19 at h; split at h
  · exact .fn fnok19 rfl (Hold.mp (by kernel_rfl) h.out)
  · exact .fn fnok19 rfl (Hold.mp (by kernel_rfl) h.out)
  · exact h.elim
theorem T21_z (args : List (A PU)) (objs : List (AObj PU)) (K : A PU → List (AObj PU) → Prop) : ¬ T21 0 args objs K := by
  intro h; unfold T21 at h; split at h <;> (first | exact h | exact h.out)
theorem T21_ok (k : Nat) (args : List (A PU)) (objs : List (AObj PU)) (K : A PU → List (AObj PU) → Prop) (h : T21 (k + 1) args objs K) : RowOk PE (PT k) (PC k) 21 args objs K := by
  unfold T21 at h; split at h
  · exact .fn fnok21 rfl (Hold.mp (by kernel_rfl) h.out)
  · exact h.elim
theorem T44_z (args : List (A PU)) (objs : List (AObj PU)) (K : A PU → List (AObj PU) → Prop) : ¬ T44 0 args objs K := by
  intro h; unfold T44 at h; split at h <;> (first | exact h | exact h.out)
theorem T44_ok (k : Nat) (args : List (A PU)) (objs : List (AObj PU)) (K : A PU → List (AObj PU) → Prop) (h : T44 (k + 1) args objs K) : RowOk PE (PT k) (PC k) 44 args objs K := by
  unfold T44 at h; split at h
  · exact .fn fnok44 rfl (Hold.mp (by kernel_rfl) h.out)
  · exact h.elim
theorem T23_z (args : List (A PU)) (objs : List (AObj PU)) (K : A PU → List (AObj PU) → Prop) : ¬ T23 0 args objs K := by
  intro h; unfold T23 at h; split at h <;> (first | exact h | exact h.out)
theorem T23_ok (k : Nat) (args : List (A PU)) (objs : List (AObj PU)) (K : A PU → List (AObj PU) → Prop) (h : T23 (k + 1) args objs K) : RowOk PE (PT k) (PC k) 23 args objs K := by
  unfold T23 at h; split at h
  · exact .fn fnok23 rfl (Hold.mp (by kernel_rfl) h.out)
  · exact h.elim
theorem T77_z (args : List (A PU)) (objs : List (AObj PU)) (K : A PU → List (AObj PU) → Prop) : ¬ T77 0 args objs K := by
  intro h; unfold T77 at h; split at h <;> (first | exact h | exact h.out)
theorem T77_ok (k : Nat) (args : List (A PU)) (objs : List (AObj PU)) (K : A PU → List (AObj PU) → Prop) (h : T77 (k + 1) args objs K) : RowOk PE (PT k) (PC k) 77 args objs K := by
  unfold T77 at h; split at h
  · exact .fn fnok77 rfl (Hold.mp (by kernel_rfl) h.out)
  · exact h.elim
theorem T68_z (args : List (A PU)) (objs : List (AObj PU)) (K : A PU → List (AObj PU) → Prop) : ¬ T68 0 args objs K := by
  intro h; unfold T68 at h; split at h <;> (first | exact h | exact h.out)
theorem T68_ok (k : Nat) (args : List (A PU)) (objs : List (AObj PU)) (K : A PU → List (AObj PU) → Prop) (h : T68 (k + 1) args objs K) : RowOk PE (PT k) (PC k) 68 args objs K := by
  unfold T68 at h; split at h
  · exact .fn fnok68 rfl (Hold.mp (by kernel_rfl) h.out)
  · exact h.elim
theorem T54_z (args : List (A PU)) (objs : List (AObj PU)) (K : A PU → List (AObj PU) → Prop) : ¬ T54 0 args objs K := by
  intro h; unfold T54 at h; split at h <;> (first | exact h | exact h.out)
theorem T54_ok (k : Nat) (args : List (A PU)) (objs : List (AObj PU)) (K : A PU → List (AObj PU) → Prop) (h : T54 (k + 1) args objs K) : RowOk PE (PT k) (PC k) 54 args objs K := by
  unfold T54 at h; split at h
  · exact .fn fnok54 rfl (Hold.mp (by kernel_rfl) h.out)
  · exact h.elim
theorem T45_z (args : List (A PU)) (objs : List (AObj PU)) (K : A PU → List (AObj PU) → Prop) : ¬ T45 0 args objs K := by
  intro h; unfold T45 at h; split at h <;> (first | exact h | exact h.out)
theorem T45_ok (k : Nat) (args : List (A PU)) (objs : List (AObj PU)) (K : A PU → List (AObj PU) → Prop) (h : T45 (k + 1) args objs K) : RowOk PE (PT k) (PC k) 45 args objs K := by
  unfold T45 at h; split at h
  · exact .fn fnok45 rfl (Hold.mp (by kernel_rfl) h.out)
  · exact h.elim
theorem T25_z (args : List (A PU)) (objs : List (AObj PU)) (K : A PU → List (AObj PU) → Prop) : ¬ T25 0 args objs K := by
  intro h; unfold T25 at h; split at h <;> (first | exact h | exact h.out)
theorem T25_ok (k : Nat) (args : List (A PU)) (objs : List (AObj PU)) (K : A PU → List (AObj PU) → Prop) (h : T25 (k + 1) args objs K) : RowOk PE (PT k) (PC k) 25 args objs K := by
  unfold T25 at h; split at h
  · exact .fn fnok25 rfl (Hold.mp (by kernel_rfl) h.out)
  · exact h.elim
theorem T37_z (args : List (A PU)) (objs : List (AObj PU)) (K : A PU → List (AObj PU) → Prop) : ¬ T37 0 args objs K := by
  intro h; unfold T37 at h; split at h <;> (first | exact h | exact h.out)
theorem T37_ok (k : Nat) (args : List (A PU)) (objs : List (AObj PU)) (K : A PU → List (AObj PU) → Prop) (h : T37 (k + 1) args objs K) : RowOk PE (PT k) (PC k) 37 args objs K := by
  unfold T37 at h; split at h
  · exact .fn fnok37 rfl (Hold.mp (by kernel_rfl) h.out)
  · exact h.elim
theorem T16_z (args : List (A PU)) (objs : List (AObj PU)) (K : A PU → List (AObj PU) → Prop) : ¬ T16 0 args objs K := by
  intro h; unfold T16 at h; split at h <;> (first | exact h | exact h.out)
theorem T16_ok (k : Nat) (args : List (A PU)) (objs : List (AObj PU)) (K : A PU → List (AObj PU) → Prop) (h : T16 (k + 1) args objs K) : RowOk PE (PT k) (PC k) 16 args objs K := by
  unfold T16 at h; split at h
  · exact .fn fnok16 rfl (Hold.mp (by kernel_rfl) h.out)
  · exact h.elim
theorem T38_z (args : List (A PU)) (objs : List (AObj PU)) (K : A PU → List (AObj PU) → Prop) : ¬ T38 0 args objs K := by
  intro h; unfold T38 at h; split at h <;> (first | exact h | exact h.out)
theorem T38_ok (k : Nat) (args : List (A PU)) (objs : List (AObj PU)) (K : A PU → List (AObj PU) → Prop) (h : T38 (k + 1) args objs K) : RowOk PE (PT k) (PC k) 38 args objs K := by
  unfold T38 at h; split at h
  · exact .fn fnok38 rfl (Hold.mp (by kernel_rfl) h.out)
  · exact h.elim
theorem T17_z (args : List (A PU)) (objs : List (AObj PU)) (K : A PU → List (AObj PU) → Prop) : ¬ T17 0 args objs K := by
  intro h; unfold T17 at h; split at h <;> (first | exact h | exact h.out)
theorem T17_ok (k : Nat) (args : List (A PU)) (objs : List (AObj PU)) (K : A PU → List (AObj PU) → Prop) (h : T17 (k + 1) args objs K) : RowOk PE (PT k) (PC k) 17 args objs K := by
  unfold T17 at h; split at h
  · exact .fn fnok17 rfl (Hold.mp (by kernel_rfl) h.out)
  · exact h.elim
theorem T3_z (args : List (A PU)) (objs : List (AObj PU)) (K : A PU → List (AObj PU) → Prop) : ¬ T3 0 args objs K := by
  intro h; unfold T3 at h; split at h <;> (first | exact h | exact h.out)
theorem T3_ok (k : Nat) (args : List (A PU)) (objs : List (AObj PU)) (K : A PU → List (AObj PU) → Prop) (h : T3 (k + 1) args objs K) : RowOk PE (PT k) (PC k) 3 args objs K := by
  unfold T3 at h; split at h
  · exact .fn fnok3 rfl (Hold.mp (by kernel_rfl) h.out)
  · exact h.elim
theorem T41_z (args : List (A PU)) (objs : List (AObj PU)) (K : A PU → List (AObj PU) → Prop) : ¬ T41 0 args objs K := by
  intro h; unfold T41 at h; split at h <;> (first | exact h | exact h.out)
theorem T41_ok (k : Nat) (args : List (A PU)) (objs : List (AObj PU)) (K : A PU → List (AObj PU) → Prop) (h : T41 (k + 1) args objs K) : RowOk PE (PT k) (PC k) 41 args objs K := by
  unfold T41 at h; split at h
  · exact .fn fnok41 rfl (Hold.mp (by kernel_rfl) h.out)
  · exact h.elim
theorem T18_z (args : List (A PU)) (objs : List (AObj PU)) (K : A PU → List (AObj PU) → Prop) : ¬ T18 0 args objs K := by
  intro h; unfold T18 at h; split at h <;> (first | exact h | exact h.out)
theorem T18_ok (k : Nat) (args : List (A PU)) (objs : List (AObj PU)) (K : A PU → List (AObj PU) → Prop) (h : T18 (k + 1) args objs K) : RowOk PE (PT k) (PC k) 18 args objs K := by
  unfold T18 at h; split at h
  · exact .fn fnok18 rfl (Hold.mp (by kernel_rfl) h.out)
  · exact h.elim
theorem T5_z (args : List (A PU)) (objs : List (AObj PU)) (K : A PU → List (AObj PU) → Prop) : ¬ T5 0 args objs K := by
  intro h; unfold T5 at h; split at h <;> (first | exact h | exact h.out)
theorem T5_ok (k : Nat) (args : List (A PU)) (objs : List (AObj PU)) (K : A PU → List (AObj PU) → Prop) (h : T5 (k + 1) args objs K) : RowOk PE (PT k) (PC k) 5 args objs K := by
  unfold T5 at h; split at h
  · exact .fn fnok5 rfl (Hold.mp (by kernel_rfl) h.out)
  · exact h.elim
theorem D64_2_z (nb : Nat) (vals : List (A PU)) (objs : List (AObj PU)) (K : A PU → List (AObj PU) → Prop) : ¬ D64_2 0 nb vals objs K := by
  intro h; unfold D64_2 at h; split at h <;> (first | exact h | exact h.out)
theorem D64_2_ok (k : Nat) (live : List Nat) (hl : cutOf 64 2 PE.cuts = some live) (nb : Nat) (vals : List (A PU)) (objs : List (AObj PU)) (K : A PU → List (AObj PU) → Prop) (h : D64_2 (k + 1) nb vals objs K) : fnOk PE.P 64 = true ∧ Hold (vcut PE (PT k) (PC k) 64 2 live nb vals objs K) := by
  obtain rfl : live = [0, 1, 9, 10, 11] := Option.some.inj (hl.symm.trans (by kernel_rfl : cutOf 64 2 PE.cuts = some [0, 1, 9, 10, 11]))
  refine ⟨fnok64, ?_⟩; unfold D64_2 at h; split at h
  · exact Hold.mp (by kernel_rfl) h.out
  · exact h.elim
theorem D46_4_z (nb : Nat) (vals : List (A PU)) (objs : List (AObj PU)) (K : A PU → List (AObj PU) → Prop) : ¬ D46_4 0 nb vals objs K := by
  intro h; unfold D46_4 at h; split at h <;> (first | exact h | exact h.out)
theorem D46_4_ok (k : Nat) (live : List Nat) (hl : cutOf 46 4 PE.cuts = some live) (nb : Nat) (vals : List (A PU)) (objs : List (AObj PU)) (K : A PU → List (AObj PU) → Prop) (h : D46_4 (k + 1) nb vals objs K) : fnOk PE.P 46 = true ∧ Hold (vcut PE (PT k) (PC k) 46 4 live nb vals objs K) := by
  obtain rfl : live = [0, 9, 10] := Option.some.inj (hl.symm.trans (by kernel_rfl : cutOf 46 4 PE.cuts = some [0, 9, 10]))
  refine ⟨fnok46, ?_⟩; unfold D46_4 at h; split at h
  · exact Hold.mp (by kernel_rfl) h.out
  · exact h.elim
theorem D30_5_z (nb : Nat) (vals : List (A PU)) (objs : List (AObj PU)) (K : A PU → List (AObj PU) → Prop) : ¬ D30_5 0 nb vals objs K := by
  intro h; unfold D30_5 at h; split at h <;> (first | exact h | exact h.out)
theorem D30_5_ok (k : Nat) (live : List Nat) (hl : cutOf 30 5 PE.cuts = some live) (nb : Nat) (vals : List (A PU)) (objs : List (AObj PU)) (K : A PU → List (AObj PU) → Prop) (h : D30_5 (k + 1) nb vals objs K) : fnOk PE.P 30 = true ∧ Hold (vcut PE (PT k) (PC k) 30 5 live nb vals objs K) := by
  obtain rfl : live = [3, 4, 6, 7] := Option.some.inj (hl.symm.trans (by kernel_rfl : cutOf 30 5 PE.cuts = some [3, 4, 6, 7]))
  refine ⟨fnok30, ?_⟩; unfold D30_5 at h; split at h
  · exact Hold.mp (by kernel_rfl) h.out
  · exact h.elim
theorem D30_11_z (nb : Nat) (vals : List (A PU)) (objs : List (AObj PU)) (K : A PU → List (AObj PU) → Prop) : ¬ D30_11 0 nb vals objs K := by
  intro h; unfold D30_11 at h; split at h <;> (first | exact h | exact h.out)
theorem D30_11_ok (k : Nat) (live : List Nat) (hl : cutOf 30 11 PE.cuts = some live) (nb : Nat) (vals : List (A PU)) (objs : List (AObj PU)) (K : A PU → List (AObj PU) → Prop) (h : D30_11 (k + 1) nb vals objs K) : fnOk PE.P 30 = true ∧ Hold (vcut PE (PT k) (PC k) 30 11 live nb vals objs K) := by
  obtain rfl : live = [4] := Option.some.inj (hl.symm.trans (by kernel_rfl : cutOf 30 11 PE.cuts = some [4]))
  refine ⟨fnok30, ?_⟩; unfold D30_11 at h; split at h
  · exact Hold.mp (by kernel_rfl) h.out
  · exact h.elim
theorem D47_3_z (nb : Nat) (vals : List (A PU)) (objs : List (AObj PU)) (K : A PU → List (AObj PU) → Prop) : ¬ D47_3 0 nb vals objs K := by
  intro h; unfold D47_3 at h; split at h <;> (first | exact h | exact h.out)
theorem D47_3_ok (k : Nat) (live : List Nat) (hl : cutOf 47 3 PE.cuts = some live) (nb : Nat) (vals : List (A PU)) (objs : List (AObj PU)) (K : A PU → List (AObj PU) → Prop) (h : D47_3 (k + 1) nb vals objs K) : fnOk PE.P 47 = true ∧ Hold (vcut PE (PT k) (PC k) 47 3 live nb vals objs K) := by
  obtain rfl : live = [0, 2, 4] := Option.some.inj (hl.symm.trans (by kernel_rfl : cutOf 47 3 PE.cuts = some [0, 2, 4]))
  refine ⟨fnok47, ?_⟩; unfold D47_3 at h; split at h
  · exact Hold.mp (by kernel_rfl) h.out
  · exact h.elim
theorem D47_8_z (nb : Nat) (vals : List (A PU)) (objs : List (AObj PU)) (K : A PU → List (AObj PU) → Prop) : ¬ D47_8 0 nb vals objs K := by
  intro h; unfold D47_8 at h; split at h <;> (first | exact h | exact h.out)
theorem D47_8_ok (k : Nat) (live : List Nat) (hl : cutOf 47 8 PE.cuts = some live) (nb : Nat) (vals : List (A PU)) (objs : List (AObj PU)) (K : A PU → List (AObj PU) → Prop) (h : D47_8 (k + 1) nb vals objs K) : fnOk PE.P 47 = true ∧ Hold (vcut PE (PT k) (PC k) 47 8 live nb vals objs K) := by
  obtain rfl : live = [0, 2, 4] := Option.some.inj (hl.symm.trans (by kernel_rfl : cutOf 47 8 PE.cuts = some [0, 2, 4]))
  refine ⟨fnok47, ?_⟩; unfold D47_8 at h; split at h
  · exact Hold.mp (by kernel_rfl) h.out
  · exact Hold.mp (by kernel_rfl) h.out
  · exact h.elim
theorem D47_9_z (nb : Nat) (vals : List (A PU)) (objs : List (AObj PU)) (K : A PU → List (AObj PU) → Prop) : ¬ D47_9 0 nb vals objs K := by
  intro h; unfold D47_9 at h; split at h <;> (first | exact h | exact h.out)
theorem D47_9_ok (k : Nat) (live : List Nat) (hl : cutOf 47 9 PE.cuts = some live) (nb : Nat) (vals : List (A PU)) (objs : List (AObj PU)) (K : A PU → List (AObj PU) → Prop) (h : D47_9 (k + 1) nb vals objs K) : fnOk PE.P 47 = true ∧ Hold (vcut PE (PT k) (PC k) 47 9 live nb vals objs K) := by
  obtain rfl : live = [2, 4, 8] := Option.some.inj (hl.symm.trans (by kernel_rfl : cutOf 47 9 PE.cuts = some [2, 4, 8]))
  refine ⟨fnok47, ?_⟩; unfold D47_9 at h; split at h
  · exact Hold.mp (by kernel_rfl) h.out
  · exact h.elim
theorem D27_9_z (nb : Nat) (vals : List (A PU)) (objs : List (AObj PU)) (K : A PU → List (AObj PU) → Prop) : ¬ D27_9 0 nb vals objs K := by
  intro h; unfold D27_9 at h; split at h <;> (first | exact h | exact h.out)
theorem D27_9_ok (k : Nat) (live : List Nat) (hl : cutOf 27 9 PE.cuts = some live) (nb : Nat) (vals : List (A PU)) (objs : List (AObj PU)) (K : A PU → List (AObj PU) → Prop) (h : D27_9 (k + 1) nb vals objs K) : fnOk PE.P 27 = true ∧ Hold (vcut PE (PT k) (PC k) 27 9 live nb vals objs K) := by
  obtain rfl : live = [0, 5, 6, 29, 30, 31] := Option.some.inj (hl.symm.trans (by kernel_rfl : cutOf 27 9 PE.cuts = some [0, 5, 6, 29, 30, 31]))
  refine ⟨fnok27, ?_⟩; unfold D27_9 at h; split at h
  · exact Hold.mp (by kernel_rfl) h.out
  · exact Hold.mp (by kernel_rfl) h.out
  · exact h.elim
theorem D69_2_z (nb : Nat) (vals : List (A PU)) (objs : List (AObj PU)) (K : A PU → List (AObj PU) → Prop) : ¬ D69_2 0 nb vals objs K := by
  intro h; unfold D69_2 at h; split at h <;> (first | exact h | exact h.out)
theorem D69_2_ok (k : Nat) (live : List Nat) (hl : cutOf 69 2 PE.cuts = some live) (nb : Nat) (vals : List (A PU)) (objs : List (AObj PU)) (K : A PU → List (AObj PU) → Prop) (h : D69_2 (k + 1) nb vals objs K) : fnOk PE.P 69 = true ∧ Hold (vcut PE (PT k) (PC k) 69 2 live nb vals objs K) := by
  obtain rfl : live = [0, 2, 25] := Option.some.inj (hl.symm.trans (by kernel_rfl : cutOf 69 2 PE.cuts = some [0, 2, 25]))
  refine ⟨fnok69, ?_⟩; unfold D69_2 at h; split at h
  · exact Hold.mp (by kernel_rfl) h.out
  · exact h.elim
theorem D69_11_z (nb : Nat) (vals : List (A PU)) (objs : List (AObj PU)) (K : A PU → List (AObj PU) → Prop) : ¬ D69_11 0 nb vals objs K := by
  intro h; unfold D69_11 at h; split at h <;> (first | exact h | exact h.out)
theorem D69_11_ok (k : Nat) (live : List Nat) (hl : cutOf 69 11 PE.cuts = some live) (nb : Nat) (vals : List (A PU)) (objs : List (AObj PU)) (K : A PU → List (AObj PU) → Prop) (h : D69_11 (k + 1) nb vals objs K) : fnOk PE.P 69 = true ∧ Hold (vcut PE (PT k) (PC k) 69 11 live nb vals objs K) := by
  obtain rfl : live = [0, 2, 25] := Option.some.inj (hl.symm.trans (by kernel_rfl : cutOf 69 11 PE.cuts = some [0, 2, 25]))
  refine ⟨fnok69, ?_⟩; unfold D69_11 at h; split at h
  · exact Hold.mp (by kernel_rfl) h.out
  · exact h.elim
theorem D69_14_z (nb : Nat) (vals : List (A PU)) (objs : List (AObj PU)) (K : A PU → List (AObj PU) → Prop) : ¬ D69_14 0 nb vals objs K := by
  intro h; unfold D69_14 at h; split at h <;> (first | exact h | exact h.out)
theorem D69_14_ok (k : Nat) (live : List Nat) (hl : cutOf 69 14 PE.cuts = some live) (nb : Nat) (vals : List (A PU)) (objs : List (AObj PU)) (K : A PU → List (AObj PU) → Prop) (h : D69_14 (k + 1) nb vals objs K) : fnOk PE.P 69 = true ∧ Hold (vcut PE (PT k) (PC k) 69 14 live nb vals objs K) := by
  obtain rfl : live = [0, 9, 10, 11, 12, 13, 14, 15, 16, 140, 141] := Option.some.inj (hl.symm.trans (by kernel_rfl : cutOf 69 14 PE.cuts = some [0, 9, 10, 11, 12, 13, 14, 15, 16, 140, 141]))
  refine ⟨fnok69, ?_⟩; unfold D69_14 at h; split at h
  · exact Hold.mp (by kernel_rfl) h.out
  · exact h.elim
theorem D69_23_z (nb : Nat) (vals : List (A PU)) (objs : List (AObj PU)) (K : A PU → List (AObj PU) → Prop) : ¬ D69_23 0 nb vals objs K := by
  intro h; unfold D69_23 at h; split at h <;> (first | exact h | exact h.out)
theorem D69_23_ok (k : Nat) (live : List Nat) (hl : cutOf 69 23 PE.cuts = some live) (nb : Nat) (vals : List (A PU)) (objs : List (AObj PU)) (K : A PU → List (AObj PU) → Prop) (h : D69_23 (k + 1) nb vals objs K) : fnOk PE.P 69 = true ∧ Hold (vcut PE (PT k) (PC k) 69 23 live nb vals objs K) := by
  obtain rfl : live = [0, 210, 211] := Option.some.inj (hl.symm.trans (by kernel_rfl : cutOf 69 23 PE.cuts = some [0, 210, 211]))
  refine ⟨fnok69, ?_⟩; unfold D69_23 at h; split at h
  · exact Hold.mp (by kernel_rfl) h.out
  · exact h.elim
theorem D56_3_z (nb : Nat) (vals : List (A PU)) (objs : List (AObj PU)) (K : A PU → List (AObj PU) → Prop) : ¬ D56_3 0 nb vals objs K := by
  intro h; unfold D56_3 at h; split at h <;> (first | exact h | exact h.out)
theorem D56_3_ok (k : Nat) (live : List Nat) (hl : cutOf 56 3 PE.cuts = some live) (nb : Nat) (vals : List (A PU)) (objs : List (AObj PU)) (K : A PU → List (AObj PU) → Prop) (h : D56_3 (k + 1) nb vals objs K) : fnOk PE.P 56 = true ∧ Hold (vcut PE (PT k) (PC k) 56 3 live nb vals objs K) := by
  obtain rfl : live = [0, 1] := Option.some.inj (hl.symm.trans (by kernel_rfl : cutOf 56 3 PE.cuts = some [0, 1]))
  refine ⟨fnok56, ?_⟩; unfold D56_3 at h; split at h
  · exact Hold.mp (by kernel_rfl) h.out
  · exact h.elim
theorem D57_9_z (nb : Nat) (vals : List (A PU)) (objs : List (AObj PU)) (K : A PU → List (AObj PU) → Prop) : ¬ D57_9 0 nb vals objs K := by
  intro h; unfold D57_9 at h; split at h <;> (first | exact h | exact h.out)
theorem D57_9_ok (k : Nat) (live : List Nat) (hl : cutOf 57 9 PE.cuts = some live) (nb : Nat) (vals : List (A PU)) (objs : List (AObj PU)) (K : A PU → List (AObj PU) → Prop) (h : D57_9 (k + 1) nb vals objs K) : fnOk PE.P 57 = true ∧ Hold (vcut PE (PT k) (PC k) 57 9 live nb vals objs K) := by
  obtain rfl : live = [0, 2, 3, 4, 5, 6, 22] := Option.some.inj (hl.symm.trans (by kernel_rfl : cutOf 57 9 PE.cuts = some [0, 2, 3, 4, 5, 6, 22]))
  refine ⟨fnok57, ?_⟩; unfold D57_9 at h; split at h
  · exact Hold.mp (by kernel_rfl) h.out
  · exact h.elim
theorem D57_15_z (nb : Nat) (vals : List (A PU)) (objs : List (AObj PU)) (K : A PU → List (AObj PU) → Prop) : ¬ D57_15 0 nb vals objs K := by
  intro h; unfold D57_15 at h; split at h <;> (first | exact h | exact h.out)
theorem D57_15_ok (k : Nat) (live : List Nat) (hl : cutOf 57 15 PE.cuts = some live) (nb : Nat) (vals : List (A PU)) (objs : List (AObj PU)) (K : A PU → List (AObj PU) → Prop) (h : D57_15 (k + 1) nb vals objs K) : fnOk PE.P 57 = true ∧ Hold (vcut PE (PT k) (PC k) 57 15 live nb vals objs K) := by
  obtain rfl : live = [2, 3, 4, 45] := Option.some.inj (hl.symm.trans (by kernel_rfl : cutOf 57 15 PE.cuts = some [2, 3, 4, 45]))
  refine ⟨fnok57, ?_⟩; unfold D57_15 at h; split at h
  · exact Hold.mp (by kernel_rfl) h.out
  · exact h.elim
theorem D40_4_z (nb : Nat) (vals : List (A PU)) (objs : List (AObj PU)) (K : A PU → List (AObj PU) → Prop) : ¬ D40_4 0 nb vals objs K := by
  intro h; unfold D40_4 at h; split at h <;> (first | exact h | exact h.out)
theorem D40_4_ok (k : Nat) (live : List Nat) (hl : cutOf 40 4 PE.cuts = some live) (nb : Nat) (vals : List (A PU)) (objs : List (AObj PU)) (K : A PU → List (AObj PU) → Prop) (h : D40_4 (k + 1) nb vals objs K) : fnOk PE.P 40 = true ∧ Hold (vcut PE (PT k) (PC k) 40 4 live nb vals objs K) := by
  obtain rfl : live = [4, 5] := Option.some.inj (hl.symm.trans (by kernel_rfl : cutOf 40 4 PE.cuts = some [4, 5]))
  refine ⟨fnok40, ?_⟩; unfold D40_4 at h; split at h
  · exact Hold.mp (by kernel_rfl) h.out
  · exact h.elim
theorem D43_4_z (nb : Nat) (vals : List (A PU)) (objs : List (AObj PU)) (K : A PU → List (AObj PU) → Prop) : ¬ D43_4 0 nb vals objs K := by
  intro h; unfold D43_4 at h; split at h <;> (first | exact h | exact h.out)
theorem D43_4_ok (k : Nat) (live : List Nat) (hl : cutOf 43 4 PE.cuts = some live) (nb : Nat) (vals : List (A PU)) (objs : List (AObj PU)) (K : A PU → List (AObj PU) → Prop) (h : D43_4 (k + 1) nb vals objs K) : fnOk PE.P 43 = true ∧ Hold (vcut PE (PT k) (PC k) 43 4 live nb vals objs K) := by
  obtain rfl : live = [0, 6, 7, 15, 16, 17] := Option.some.inj (hl.symm.trans (by kernel_rfl : cutOf 43 4 PE.cuts = some [0, 6, 7, 15, 16, 17]))
  refine ⟨fnok43, ?_⟩; unfold D43_4 at h; split at h
  · exact Hold.mp (by kernel_rfl) h.out
  · exact Hold.mp (by kernel_rfl) h.out
  · exact h.elim
theorem D11_2_z (nb : Nat) (vals : List (A PU)) (objs : List (AObj PU)) (K : A PU → List (AObj PU) → Prop) : ¬ D11_2 0 nb vals objs K := by
  intro h; unfold D11_2 at h; split at h <;> (first | exact h | exact h.out)
theorem D11_2_ok (k : Nat) (live : List Nat) (hl : cutOf 11 2 PE.cuts = some live) (nb : Nat) (vals : List (A PU)) (objs : List (AObj PU)) (K : A PU → List (AObj PU) → Prop) (h : D11_2 (k + 1) nb vals objs K) : fnOk PE.P 11 = true ∧ Hold (vcut PE (PT k) (PC k) 11 2 live nb vals objs K) := by
  obtain rfl : live = [1, 4, 6, 7] := Option.some.inj (hl.symm.trans (by kernel_rfl : cutOf 11 2 PE.cuts = some [1, 4, 6, 7]))
  refine ⟨fnok11, ?_⟩; unfold D11_2 at h; split at h
  · exact Hold.mp (by kernel_rfl) h.out
  · exact Hold.mp (by kernel_rfl) h.out
  · exact Hold.mp (by kernel_rfl) h.out
  · exact Hold.mp (by kernel_rfl) h.out
  · exact h.elim
theorem D11_3_z (nb : Nat) (vals : List (A PU)) (objs : List (AObj PU)) (K : A PU → List (AObj PU) → Prop) : ¬ D11_3 0 nb vals objs K := by
  intro h; unfold D11_3 at h; split at h <;> (first | exact h | exact h.out)
theorem D11_3_ok (k : Nat) (live : List Nat) (hl : cutOf 11 3 PE.cuts = some live) (nb : Nat) (vals : List (A PU)) (objs : List (AObj PU)) (K : A PU → List (AObj PU) → Prop) (h : D11_3 (k + 1) nb vals objs K) : fnOk PE.P 11 = true ∧ Hold (vcut PE (PT k) (PC k) 11 3 live nb vals objs K) := by
  obtain rfl : live = [4, 7] := Option.some.inj (hl.symm.trans (by kernel_rfl : cutOf 11 3 PE.cuts = some [4, 7]))
  refine ⟨fnok11, ?_⟩; unfold D11_3 at h; split at h
  · exact Hold.mp (by kernel_rfl) h.out
  · exact h.elim
theorem D11_4_z (nb : Nat) (vals : List (A PU)) (objs : List (AObj PU)) (K : A PU → List (AObj PU) → Prop) : ¬ D11_4 0 nb vals objs K := by
  intro h; unfold D11_4 at h; split at h <;> (first | exact h | exact h.out)
theorem D11_4_ok (k : Nat) (live : List Nat) (hl : cutOf 11 4 PE.cuts = some live) (nb : Nat) (vals : List (A PU)) (objs : List (AObj PU)) (K : A PU → List (AObj PU) → Prop) (h : D11_4 (k + 1) nb vals objs K) : fnOk PE.P 11 = true ∧ Hold (vcut PE (PT k) (PC k) 11 4 live nb vals objs K) := by
  obtain rfl : live = [1, 4, 6] := Option.some.inj (hl.symm.trans (by kernel_rfl : cutOf 11 4 PE.cuts = some [1, 4, 6]))
  refine ⟨fnok11, ?_⟩; unfold D11_4 at h; split at h
  · exact Hold.mp (by kernel_rfl) h.out
  · exact Hold.mp (by kernel_rfl) h.out
  · exact Hold.mp (by kernel_rfl) h.out
  · exact Hold.mp (by kernel_rfl) h.out
  · exact h.elim
theorem D11_5_z (nb : Nat) (vals : List (A PU)) (objs : List (AObj PU)) (K : A PU → List (AObj PU) → Prop) : ¬ D11_5 0 nb vals objs K := by
  intro h; unfold D11_5 at h; split at h <;> (first | exact h | exact h.out)
theorem D11_5_ok (k : Nat) (live : List Nat) (hl : cutOf 11 5 PE.cuts = some live) (nb : Nat) (vals : List (A PU)) (objs : List (AObj PU)) (K : A PU → List (AObj PU) → Prop) (h : D11_5 (k + 1) nb vals objs K) : fnOk PE.P 11 = true ∧ Hold (vcut PE (PT k) (PC k) 11 5 live nb vals objs K) := by
  obtain rfl : live = [4, 6, 8] := Option.some.inj (hl.symm.trans (by kernel_rfl : cutOf 11 5 PE.cuts = some [4, 6, 8]))
  refine ⟨fnok11, ?_⟩; unfold D11_5 at h; split at h
  · exact Hold.mp (by kernel_rfl) h.out
  · exact Hold.mp (by kernel_rfl) h.out
  · exact h.elim
theorem D11_6_z (nb : Nat) (vals : List (A PU)) (objs : List (AObj PU)) (K : A PU → List (AObj PU) → Prop) : ¬ D11_6 0 nb vals objs K := by
  intro h; unfold D11_6 at h; split at h <;> (first | exact h | exact h.out)
theorem D11_6_ok (k : Nat) (live : List Nat) (hl : cutOf 11 6 PE.cuts = some live) (nb : Nat) (vals : List (A PU)) (objs : List (AObj PU)) (K : A PU → List (AObj PU) → Prop) (h : D11_6 (k + 1) nb vals objs K) : fnOk PE.P 11 = true ∧ Hold (vcut PE (PT k) (PC k) 11 6 live nb vals objs K) := by
  obtain rfl : live = [4, 8] := Option.some.inj (hl.symm.trans (by kernel_rfl : cutOf 11 6 PE.cuts = some [4, 8]))
  refine ⟨fnok11, ?_⟩; unfold D11_6 at h; split at h
  · exact Hold.mp (by kernel_rfl) h.out
  · exact h.elim
theorem D13_2_z (nb : Nat) (vals : List (A PU)) (objs : List (AObj PU)) (K : A PU → List (AObj PU) → Prop) : ¬ D13_2 0 nb vals objs K := by
  intro h; unfold D13_2 at h; split at h <;> (first | exact h | exact h.out)
theorem D13_2_ok (k : Nat) (live : List Nat) (hl : cutOf 13 2 PE.cuts = some live) (nb : Nat) (vals : List (A PU)) (objs : List (AObj PU)) (K : A PU → List (AObj PU) → Prop) (h : D13_2 (k + 1) nb vals objs K) : fnOk PE.P 13 = true ∧ Hold (vcut PE (PT k) (PC k) 13 2 live nb vals objs K) := by
  obtain rfl : live = [0, 3] := Option.some.inj (hl.symm.trans (by kernel_rfl : cutOf 13 2 PE.cuts = some [0, 3]))
  refine ⟨fnok13, ?_⟩; unfold D13_2 at h; split at h
  · exact Hold.mp (by kernel_rfl) h.out
  · exact Hold.mp (by kernel_rfl) h.out
  · exact h.elim
theorem D13_5_z (nb : Nat) (vals : List (A PU)) (objs : List (AObj PU)) (K : A PU → List (AObj PU) → Prop) : ¬ D13_5 0 nb vals objs K := by
  intro h; unfold D13_5 at h; split at h <;> (first | exact h | exact h.out)
theorem D13_5_ok (k : Nat) (live : List Nat) (hl : cutOf 13 5 PE.cuts = some live) (nb : Nat) (vals : List (A PU)) (objs : List (AObj PU)) (K : A PU → List (AObj PU) → Prop) (h : D13_5 (k + 1) nb vals objs K) : fnOk PE.P 13 = true ∧ Hold (vcut PE (PT k) (PC k) 13 5 live nb vals objs K) := by
  obtain rfl : live = [0, 3, 4] := Option.some.inj (hl.symm.trans (by kernel_rfl : cutOf 13 5 PE.cuts = some [0, 3, 4]))
  refine ⟨fnok13, ?_⟩; unfold D13_5 at h; split at h
  · exact Hold.mp (by kernel_rfl) h.out
  · exact Hold.mp (by kernel_rfl) h.out
  · exact h.elim
theorem D58_4_z (nb : Nat) (vals : List (A PU)) (objs : List (AObj PU)) (K : A PU → List (AObj PU) → Prop) : ¬ D58_4 0 nb vals objs K := by
  intro h; unfold D58_4 at h; split at h <;> (first | exact h | exact h.out)
theorem D58_4_ok (k : Nat) (live : List Nat) (hl : cutOf 58 4 PE.cuts = some live) (nb : Nat) (vals : List (A PU)) (objs : List (AObj PU)) (K : A PU → List (AObj PU) → Prop) (h : D58_4 (k + 1) nb vals objs K) : fnOk PE.P 58 = true ∧ Hold (vcut PE (PT k) (PC k) 58 4 live nb vals objs K) := by
  obtain rfl : live = [0, 3] := Option.some.inj (hl.symm.trans (by kernel_rfl : cutOf 58 4 PE.cuts = some [0, 3]))
  refine ⟨fnok58, ?_⟩; unfold D58_4 at h; split at h
  · exact Hold.mp (by kernel_rfl) h.out
  · exact Hold.mp (by kernel_rfl) h.out
  · exact h.elim
theorem D58_8_z (nb : Nat) (vals : List (A PU)) (objs : List (AObj PU)) (K : A PU → List (AObj PU) → Prop) : ¬ D58_8 0 nb vals objs K := by
  intro h; unfold D58_8 at h; split at h <;> (first | exact h | exact h.out)
theorem D58_8_ok (k : Nat) (live : List Nat) (hl : cutOf 58 8 PE.cuts = some live) (nb : Nat) (vals : List (A PU)) (objs : List (AObj PU)) (K : A PU → List (AObj PU) → Prop) (h : D58_8 (k + 1) nb vals objs K) : fnOk PE.P 58 = true ∧ Hold (vcut PE (PT k) (PC k) 58 8 live nb vals objs K) := by
  obtain rfl : live = [3, 4, 5] := Option.some.inj (hl.symm.trans (by kernel_rfl : cutOf 58 8 PE.cuts = some [3, 4, 5]))
  refine ⟨fnok58, ?_⟩; unfold D58_8 at h; split at h
  · exact Hold.mp (by kernel_rfl) h.out
  · exact h.elim
theorem D60_3_z (nb : Nat) (vals : List (A PU)) (objs : List (AObj PU)) (K : A PU → List (AObj PU) → Prop) : ¬ D60_3 0 nb vals objs K := by
  intro h; unfold D60_3 at h; split at h <;> (first | exact h | exact h.out)
theorem D60_3_ok (k : Nat) (live : List Nat) (hl : cutOf 60 3 PE.cuts = some live) (nb : Nat) (vals : List (A PU)) (objs : List (AObj PU)) (K : A PU → List (AObj PU) → Prop) (h : D60_3 (k + 1) nb vals objs K) : fnOk PE.P 60 = true ∧ Hold (vcut PE (PT k) (PC k) 60 3 live nb vals objs K) := by
  obtain rfl : live = [1, 2, 4, 5, 6] := Option.some.inj (hl.symm.trans (by kernel_rfl : cutOf 60 3 PE.cuts = some [1, 2, 4, 5, 6]))
  refine ⟨fnok60, ?_⟩; unfold D60_3 at h; split at h
  · exact Hold.mp (by kernel_rfl) h.out
  · exact h.elim
theorem D60_7_z (nb : Nat) (vals : List (A PU)) (objs : List (AObj PU)) (K : A PU → List (AObj PU) → Prop) : ¬ D60_7 0 nb vals objs K := by
  intro h; unfold D60_7 at h; split at h <;> (first | exact h | exact h.out)
theorem D60_7_ok (k : Nat) (live : List Nat) (hl : cutOf 60 7 PE.cuts = some live) (nb : Nat) (vals : List (A PU)) (objs : List (AObj PU)) (K : A PU → List (AObj PU) → Prop) (h : D60_7 (k + 1) nb vals objs K) : fnOk PE.P 60 = true ∧ Hold (vcut PE (PT k) (PC k) 60 7 live nb vals objs K) := by
  obtain rfl : live = [2, 4, 5, 7] := Option.some.inj (hl.symm.trans (by kernel_rfl : cutOf 60 7 PE.cuts = some [2, 4, 5, 7]))
  refine ⟨fnok60, ?_⟩; unfold D60_7 at h; split at h
  · exact Hold.mp (by kernel_rfl) h.out
  · exact h.elim
theorem D60_14_z (nb : Nat) (vals : List (A PU)) (objs : List (AObj PU)) (K : A PU → List (AObj PU) → Prop) : ¬ D60_14 0 nb vals objs K := by
  intro h; unfold D60_14 at h; split at h <;> (first | exact h | exact h.out)
theorem D60_14_ok (k : Nat) (live : List Nat) (hl : cutOf 60 14 PE.cuts = some live) (nb : Nat) (vals : List (A PU)) (objs : List (AObj PU)) (K : A PU → List (AObj PU) → Prop) (h : D60_14 (k + 1) nb vals objs K) : fnOk PE.P 60 = true ∧ Hold (vcut PE (PT k) (PC k) 60 14 live nb vals objs K) := by
  obtain rfl : live = [2, 4, 5, 10, 11] := Option.some.inj (hl.symm.trans (by kernel_rfl : cutOf 60 14 PE.cuts = some [2, 4, 5, 10, 11]))
  refine ⟨fnok60, ?_⟩; unfold D60_14 at h; split at h
  · exact Hold.mp (by kernel_rfl) h.out
  · exact h.elim
theorem D60_22_z (nb : Nat) (vals : List (A PU)) (objs : List (AObj PU)) (K : A PU → List (AObj PU) → Prop) : ¬ D60_22 0 nb vals objs K := by
  intro h; unfold D60_22 at h; split at h <;> (first | exact h | exact h.out)
theorem D60_22_ok (k : Nat) (live : List Nat) (hl : cutOf 60 22 PE.cuts = some live) (nb : Nat) (vals : List (A PU)) (objs : List (AObj PU)) (K : A PU → List (AObj PU) → Prop) (h : D60_22 (k + 1) nb vals objs K) : fnOk PE.P 60 = true ∧ Hold (vcut PE (PT k) (PC k) 60 22 live nb vals objs K) := by
  obtain rfl : live = [2, 4, 10, 16] := Option.some.inj (hl.symm.trans (by kernel_rfl : cutOf 60 22 PE.cuts = some [2, 4, 10, 16]))
  refine ⟨fnok60, ?_⟩; unfold D60_22 at h; split at h
  · exact Hold.mp (by kernel_rfl) h.out
  · exact h.elim
theorem D42_4_z (nb : Nat) (vals : List (A PU)) (objs : List (AObj PU)) (K : A PU → List (AObj PU) → Prop) : ¬ D42_4 0 nb vals objs K := by
  intro h; unfold D42_4 at h; split at h <;> (first | exact h | exact h.out)
theorem D42_4_ok (k : Nat) (live : List Nat) (hl : cutOf 42 4 PE.cuts = some live) (nb : Nat) (vals : List (A PU)) (objs : List (AObj PU)) (K : A PU → List (AObj PU) → Prop) (h : D42_4 (k + 1) nb vals objs K) : fnOk PE.P 42 = true ∧ Hold (vcut PE (PT k) (PC k) 42 4 live nb vals objs K) := by
  obtain rfl : live = [2, 3, 4, 5] := Option.some.inj (hl.symm.trans (by kernel_rfl : cutOf 42 4 PE.cuts = some [2, 3, 4, 5]))
  refine ⟨fnok42, ?_⟩; unfold D42_4 at h; split at h
  · exact Hold.mp (by kernel_rfl) h.out
  · exact h.elim
theorem D42_9_z (nb : Nat) (vals : List (A PU)) (objs : List (AObj PU)) (K : A PU → List (AObj PU) → Prop) : ¬ D42_9 0 nb vals objs K := by
  intro h; unfold D42_9 at h; split at h <;> (first | exact h | exact h.out)
theorem D42_9_ok (k : Nat) (live : List Nat) (hl : cutOf 42 9 PE.cuts = some live) (nb : Nat) (vals : List (A PU)) (objs : List (AObj PU)) (K : A PU → List (AObj PU) → Prop) (h : D42_9 (k + 1) nb vals objs K) : fnOk PE.P 42 = true ∧ Hold (vcut PE (PT k) (PC k) 42 9 live nb vals objs K) := by
  obtain rfl : live = [2, 4, 6, 7] := Option.some.inj (hl.symm.trans (by kernel_rfl : cutOf 42 9 PE.cuts = some [2, 4, 6, 7]))
  refine ⟨fnok42, ?_⟩; unfold D42_9 at h; split at h
  · exact Hold.mp (by kernel_rfl) h.out
  · exact h.elim
theorem D19_6_z (nb : Nat) (vals : List (A PU)) (objs : List (AObj PU)) (K : A PU → List (AObj PU) → Prop) : ¬ D19_6 0 nb vals objs K := by
  intro h; unfold D19_6 at h; split at h <;> (first | exact h | exact h.out)
theorem D19_6_ok (k : Nat) (live : List Nat) (hl : cutOf 19 6 PE.cuts = some live) (nb : Nat) (vals : List (A PU)) (objs : List (AObj PU)) (K : A PU → List (AObj PU) → Prop) (h : D19_6 (k + 1) nb vals objs K) : fnOk PE.P 19 = true ∧ Hold (vcut PE (PT k) (PC k) 19 6 live nb vals objs K) := by
  obtain rfl : live = [0, 4, 6, 7, 8] := Option.some.inj (hl.symm.trans (by kernel_rfl : cutOf 19 6 PE.cuts = some [0, 4, 6, 7, 8]))
  refine ⟨fnok19, ?_⟩; unfold D19_6 at h; split at h
  · exact Hold.mp (by kernel_rfl) h.out
  · exact h.elim
theorem D77_3_z (nb : Nat) (vals : List (A PU)) (objs : List (AObj PU)) (K : A PU → List (AObj PU) → Prop) : ¬ D77_3 0 nb vals objs K := by
  intro h; unfold D77_3 at h; split at h <;> (first | exact h | exact h.out)
theorem D77_3_ok (k : Nat) (live : List Nat) (hl : cutOf 77 3 PE.cuts = some live) (nb : Nat) (vals : List (A PU)) (objs : List (AObj PU)) (K : A PU → List (AObj PU) → Prop) (h : D77_3 (k + 1) nb vals objs K) : fnOk PE.P 77 = true ∧ Hold (vcut PE (PT k) (PC k) 77 3 live nb vals objs K) := by
  obtain rfl : live = [0, 3, 4] := Option.some.inj (hl.symm.trans (by kernel_rfl : cutOf 77 3 PE.cuts = some [0, 3, 4]))
  refine ⟨fnok77, ?_⟩; unfold D77_3 at h; split at h
  · exact Hold.mp (by kernel_rfl) h.out
  · exact h.elim
theorem D54_3_z (nb : Nat) (vals : List (A PU)) (objs : List (AObj PU)) (K : A PU → List (AObj PU) → Prop) : ¬ D54_3 0 nb vals objs K := by
  intro h; unfold D54_3 at h; split at h <;> (first | exact h | exact h.out)
theorem D54_3_ok (k : Nat) (live : List Nat) (hl : cutOf 54 3 PE.cuts = some live) (nb : Nat) (vals : List (A PU)) (objs : List (AObj PU)) (K : A PU → List (AObj PU) → Prop) (h : D54_3 (k + 1) nb vals objs K) : fnOk PE.P 54 = true ∧ Hold (vcut PE (PT k) (PC k) 54 3 live nb vals objs K) := by
  obtain rfl : live = [0, 1, 2, 7, 8] := Option.some.inj (hl.symm.trans (by kernel_rfl : cutOf 54 3 PE.cuts = some [0, 1, 2, 7, 8]))
  refine ⟨fnok54, ?_⟩; unfold D54_3 at h; split at h
  · exact Hold.mp (by kernel_rfl) h.out
  · exact h.elim
theorem D54_4_z (nb : Nat) (vals : List (A PU)) (objs : List (AObj PU)) (K : A PU → List (AObj PU) → Prop) : ¬ D54_4 0 nb vals objs K := by
  intro h; unfold D54_4 at h; split at h <;> (first | exact h | exact h.out)
theorem D54_4_ok (k : Nat) (live : List Nat) (hl : cutOf 54 4 PE.cuts = some live) (nb : Nat) (vals : List (A PU)) (objs : List (AObj PU)) (K : A PU → List (AObj PU) → Prop) (h : D54_4 (k + 1) nb vals objs K) : fnOk PE.P 54 = true ∧ Hold (vcut PE (PT k) (PC k) 54 4 live nb vals objs K) := by
  obtain rfl : live = [0, 1, 2, 7, 8] := Option.some.inj (hl.symm.trans (by kernel_rfl : cutOf 54 4 PE.cuts = some [0, 1, 2, 7, 8]))
  refine ⟨fnok54, ?_⟩; unfold D54_4 at h; split at h
  · exact Hold.mp (by kernel_rfl) h.out
  · exact h.elim
theorem D38_4_z (nb : Nat) (vals : List (A PU)) (objs : List (AObj PU)) (K : A PU → List (AObj PU) → Prop) : ¬ D38_4 0 nb vals objs K := by
  intro h; unfold D38_4 at h; split at h <;> (first | exact h | exact h.out)
theorem D38_4_ok (k : Nat) (live : List Nat) (hl : cutOf 38 4 PE.cuts = some live) (nb : Nat) (vals : List (A PU)) (objs : List (AObj PU)) (K : A PU → List (AObj PU) → Prop) (h : D38_4 (k + 1) nb vals objs K) : fnOk PE.P 38 = true ∧ Hold (vcut PE (PT k) (PC k) 38 4 live nb vals objs K) := by
  obtain rfl : live = [0, 1, 5] := Option.some.inj (hl.symm.trans (by kernel_rfl : cutOf 38 4 PE.cuts = some [0, 1, 5]))
  refine ⟨fnok38, ?_⟩; unfold D38_4 at h; split at h
  · exact Hold.mp (by kernel_rfl) h.out
  · exact h.elim
theorem D3_10_z (nb : Nat) (vals : List (A PU)) (objs : List (AObj PU)) (K : A PU → List (AObj PU) → Prop) : ¬ D3_10 0 nb vals objs K := by
  intro h; unfold D3_10 at h; split at h <;> (first | exact h | exact h.out)
theorem D3_10_ok (k : Nat) (live : List Nat) (hl : cutOf 3 10 PE.cuts = some live) (nb : Nat) (vals : List (A PU)) (objs : List (AObj PU)) (K : A PU → List (AObj PU) → Prop) (h : D3_10 (k + 1) nb vals objs K) : fnOk PE.P 3 = true ∧ Hold (vcut PE (PT k) (PC k) 3 10 live nb vals objs K) := by
  obtain rfl : live = [6, 7] := Option.some.inj (hl.symm.trans (by kernel_rfl : cutOf 3 10 PE.cuts = some [6, 7]))
  refine ⟨fnok3, ?_⟩; unfold D3_10 at h; split at h
  · exact Hold.mp (by kernel_rfl) h.out
  · exact h.elim
theorem PSound (k : Nat) : TSound PE (PT k) ∧ CSound PE (PC k) :=
  tablesL PEok (by kernel_rfl) PTr PCr
    (List.forall_mem_cons.2 ⟨T39_z, List.forall_mem_cons.2 ⟨T26_z, List.forall_mem_cons.2 ⟨T27_z, List.forall_mem_cons.2 ⟨T29_z, List.forall_mem_cons.2 ⟨T61_z, List.forall_mem_cons.2 ⟨T89_z, List.forall_mem_cons.2 ⟨T73_z, List.forall_mem_cons.2 ⟨T64_z, List.forall_mem_cons.2 ⟨T63_z, List.forall_mem_cons.2 ⟨T62_z, List.forall_mem_cons.2 ⟨T46_z, List.forall_mem_cons.2 ⟨T49_z, List.forall_mem_cons.2 ⟨T76_z, List.forall_mem_cons.2 ⟨T67_z, List.forall_mem_cons.2 ⟨T50_z, List.forall_mem_cons.2 ⟨T30_z, List.forall_mem_cons.2 ⟨T47_z, List.forall_mem_cons.2 ⟨T55_z, List.forall_mem_cons.2 ⟨T78_z, List.forall_mem_cons.2 ⟨T69_z, List.forall_mem_cons.2 ⟨T56_z, List.forall_mem_cons.2 ⟨T57_z, List.forall_mem_cons.2 ⟨T40_z, List.forall_mem_cons.2 ⟨T43_z, List.forall_mem_cons.2 ⟨T24_z, List.forall_mem_cons.2 ⟨T22_z, List.forall_mem_cons.2 ⟨T66_z, List.forall_mem_cons.2 ⟨T20_z, List.forall_mem_cons.2 ⟨T48_z, List.forall_mem_cons.2 ⟨T11_z, List.forall_mem_cons.2 ⟨T12_z, List.forall_mem_cons.2 ⟨T35_z, List.forall_mem_cons.2 ⟨T36_z, List.forall_mem_cons.2 ⟨T14_z, List.forall_mem_cons.2 ⟨T13_z, List.forall_mem_cons.2 ⟨T15_z, List.forall_mem_cons.2 ⟨T58_z, List.forall_mem_cons.2 ⟨T59_z, List.forall_mem_cons.2 ⟨T70_z, List.forall_mem_cons.2 ⟨T60_z, List.forall_mem_cons.2 ⟨T42_z, List.forall_mem_cons.2 ⟨T19_z, List.forall_mem_cons.2 ⟨T21_z, List.forall_mem_cons.2 ⟨T44_z, List.forall_mem_cons.2 ⟨T23_z, List.forall_mem_cons.2 ⟨T77_z, List.forall_mem_cons.2 ⟨T68_z, List.forall_mem_cons.2 ⟨T54_z, List.forall_mem_cons.2 ⟨T45_z, List.forall_mem_cons.2 ⟨T25_z, List.forall_mem_cons.2 ⟨T37_z, List.forall_mem_cons.2 ⟨T16_z, List.forall_mem_cons.2 ⟨T38_z, List.forall_mem_cons.2 ⟨T17_z, List.forall_mem_cons.2 ⟨T3_z, List.forall_mem_cons.2 ⟨T41_z, List.forall_mem_cons.2 ⟨T18_z, List.forall_mem_cons.2 ⟨T5_z, (fun _ h => nomatch h)⟩⟩⟩⟩⟩⟩⟩⟩⟩⟩⟩⟩⟩⟩⟩⟩⟩⟩⟩⟩⟩⟩⟩⟩⟩⟩⟩⟩⟩⟩⟩⟩⟩⟩⟩⟩⟩⟩⟩⟩⟩⟩⟩⟩⟩⟩⟩⟩⟩⟩⟩⟩⟩⟩⟩⟩⟩⟩)
    (List.forall_mem_cons.2 ⟨D64_2_z, List.forall_mem_cons.2 ⟨D46_4_z, List.forall_mem_cons.2 ⟨D30_5_z, List.forall_mem_cons.2 ⟨D30_11_z, List.forall_mem_cons.2 ⟨D47_3_z, List.forall_mem_cons.2 ⟨D47_8_z, List.forall_mem_cons.2 ⟨D47_9_z, List.forall_mem_cons.2 ⟨D27_9_z, List.forall_mem_cons.2 ⟨D69_2_z, List.forall_mem_cons.2 ⟨D69_11_z, List.forall_mem_cons.2 ⟨D69_14_z, List.forall_mem_cons.2 ⟨D69_23_z, List.forall_mem_cons.2 ⟨D56_3_z, List.forall_mem_cons.2 ⟨D57_9_z, List.forall_mem_cons.2 ⟨D57_15_z, List.forall_mem_cons.2 ⟨D40_4_z, List.forall_mem_cons.2 ⟨D43_4_z, List.forall_mem_cons.2 ⟨D11_2_z, List.forall_mem_cons.2 ⟨D11_3_z, List.forall_mem_cons.2 ⟨D11_4_z, List.forall_mem_cons.2 ⟨D11_5_z, List.forall_mem_cons.2 ⟨D11_6_z, List.forall_mem_cons.2 ⟨D13_2_z, List.forall_mem_cons.2 ⟨D13_5_z, List.forall_mem_cons.2 ⟨D58_4_z, List.forall_mem_cons.2 ⟨D58_8_z, List.forall_mem_cons.2 ⟨D60_3_z, List.forall_mem_cons.2 ⟨D60_7_z, List.forall_mem_cons.2 ⟨D60_14_z, List.forall_mem_cons.2 ⟨D60_22_z, List.forall_mem_cons.2 ⟨D42_4_z, List.forall_mem_cons.2 ⟨D42_9_z, List.forall_mem_cons.2 ⟨D19_6_z, List.forall_mem_cons.2 ⟨D77_3_z, List.forall_mem_cons.2 ⟨D54_3_z, List.forall_mem_cons.2 ⟨D54_4_z, List.forall_mem_cons.2 ⟨D38_4_z, List.forall_mem_cons.2 ⟨D3_10_z, (fun _ h => nomatch h)⟩⟩⟩⟩⟩⟩⟩⟩⟩⟩⟩⟩⟩⟩⟩⟩⟩⟩⟩⟩⟩⟩⟩⟩⟩⟩⟩⟩⟩⟩⟩⟩⟩⟩⟩⟩⟩⟩)
    (fun k => List.forall_mem_cons.2 ⟨T39_ok k, List.forall_mem_cons.2 ⟨T26_ok k, List.forall_mem_cons.2 ⟨T27_ok k, List.forall_mem_cons.2 ⟨T29_ok k, List.forall_mem_cons.2 ⟨T61_ok k, List.forall_mem_cons.2 ⟨T89_ok k, List.forall_mem_cons.2 ⟨T73_ok k, List.forall_mem_cons.2 ⟨T64_ok k, List.forall_mem_cons.2 ⟨T63_ok k, List.forall_mem_cons.2 ⟨T62_ok k, List.forall_mem_cons.2 ⟨T46_ok k, List.forall_mem_cons.2 ⟨T49_ok k, List.forall_mem_cons.2 ⟨T76_ok k, List.forall_mem_cons.2 ⟨T67_ok k, List.forall_mem_cons.2 ⟨T50_ok k, List.forall_mem_cons.2 ⟨T30_ok k, List.forall_mem_cons.2 ⟨T47_ok k, List.forall_mem_cons.2 ⟨T55_ok k, List.forall_mem_cons.2 ⟨T78_ok k, List.forall_mem_cons.2 ⟨T69_ok k, List.forall_mem_cons.2 ⟨T56_ok k, List.forall_mem_cons.2 ⟨T57_ok k, List.forall_mem_cons.2 ⟨T40_ok k, List.forall_mem_cons.2 ⟨T43_ok k, List.forall_mem_cons.2 ⟨T24_ok k, List.forall_mem_cons.2 ⟨T22_ok k, List.forall_mem_cons.2 ⟨T66_ok k, List.forall_mem_cons.2 ⟨T20_ok k, List.forall_mem_cons.2 ⟨T48_ok k, List.forall_mem_cons.2 ⟨T11_ok k, List.forall_mem_cons.2 ⟨T12_ok k, List.forall_mem_cons.2 ⟨T35_ok k, List.forall_mem_cons.2 ⟨T36_ok k, List.forall_mem_cons.2 ⟨T14_ok k, List.forall_mem_cons.2 ⟨T13_ok k, List.forall_mem_cons.2 ⟨T15_ok k, List.forall_mem_cons.2 ⟨T58_ok k, List.forall_mem_cons.2 ⟨T59_ok k, List.forall_mem_cons.2 ⟨T70_ok k, List.forall_mem_cons.2 ⟨T60_ok k, List.forall_mem_cons.2 ⟨T42_ok k, List.forall_mem_cons.2 ⟨T19_ok k, List.forall_mem_cons.2 ⟨T21_ok k, List.forall_mem_cons.2 ⟨T44_ok k, List.forall_mem_cons.2 ⟨T23_ok k, List.forall_mem_cons.2 ⟨T77_ok k, List.forall_mem_cons.2 ⟨T68_ok k, List.forall_mem_cons.2 ⟨T54_ok k, List.forall_mem_cons.2 ⟨T45_ok k, List.forall_mem_cons.2 ⟨T25_ok k, List.forall_mem_cons.2 ⟨T37_ok k, List.forall_mem_cons.2 ⟨T16_ok k, List.forall_mem_cons.2 ⟨T38_ok k, List.forall_mem_cons.2 ⟨T17_ok k, List.forall_mem_cons.2 ⟨T3_ok k, List.forall_mem_cons.2 ⟨T41_ok k, List.forall_mem_cons.2 ⟨T18_ok k, List.forall_mem_cons.2 ⟨T5_ok k, (fun _ h => nomatch h)⟩⟩⟩⟩⟩⟩⟩⟩⟩⟩⟩⟩⟩⟩⟩⟩⟩⟩⟩⟩⟩⟩⟩⟩⟩⟩⟩⟩⟩⟩⟩⟩⟩⟩⟩⟩⟩⟩⟩⟩⟩⟩⟩⟩⟩⟩⟩⟩⟩⟩⟩⟩⟩⟩⟩⟩⟩⟩)
    (fun k => List.forall_mem_cons.2 ⟨D64_2_ok k, List.forall_mem_cons.2 ⟨D46_4_ok k, List.forall_mem_cons.2 ⟨D30_5_ok k, List.forall_mem_cons.2 ⟨D30_11_ok k, List.forall_mem_cons.2 ⟨D47_3_ok k, List.forall_mem_cons.2 ⟨D47_8_ok k, List.forall_mem_cons.2 ⟨D47_9_ok k, List.forall_mem_cons.2 ⟨D27_9_ok k, List.forall_mem_cons.2 ⟨D69_2_ok k, List.forall_mem_cons.2 ⟨D69_11_ok k, List.forall_mem_cons.2 ⟨D69_14_ok k, List.forall_mem_cons.2 ⟨D69_23_ok k, List.forall_mem_cons.2 ⟨D56_3_ok k, List.forall_mem_cons.2 ⟨D57_9_ok k, List.forall_mem_cons.2 ⟨D57_15_ok k, List.forall_mem_cons.2 ⟨D40_4_ok k, List.forall_mem_cons.2 ⟨D43_4_ok k, List.forall_mem_cons.2 ⟨D11_2_ok k, List.forall_mem_cons.2 ⟨D11_3_ok k, List.forall_mem_cons.2 ⟨D11_4_ok k, List.forall_mem_cons.2 ⟨D11_5_ok k, List.forall_mem_cons.2 ⟨D11_6_ok k, List.forall_mem_cons.2 ⟨D13_2_ok k, List.forall_mem_cons.2 ⟨D13_5_ok k, List.forall_mem_cons.2 ⟨D58_4_ok k, List.forall_mem_cons.2 ⟨D58_8_ok k, List.forall_mem_cons.2 ⟨D60_3_ok k, List.forall_mem_cons.2 ⟨D60_7_ok k, List.forall_mem_cons.2 ⟨D60_14_ok k, List.forall_mem_cons.2 ⟨D60_22_ok k, List.forall_mem_cons.2 ⟨D42_4_ok k, List.forall_mem_cons.2 ⟨D42_9_ok k, List.forall_mem_cons.2 ⟨D19_6_ok k, List.forall_mem_cons.2 ⟨D77_3_ok k, List.forall_mem_cons.2 ⟨D54_3_ok k, List.forall_mem_cons.2 ⟨D54_4_ok k, List.forall_mem_cons.2 ⟨D38_4_ok k, List.forall_mem_cons.2 ⟨D3_10_ok k, (fun _ h => nomatch h)⟩⟩⟩⟩⟩⟩⟩⟩⟩⟩⟩⟩⟩⟩⟩⟩⟩⟩⟩⟩⟩⟩⟩⟩⟩⟩⟩⟩⟩⟩⟩⟩⟩⟩⟩⟩⟩⟩) k
end Go.V
