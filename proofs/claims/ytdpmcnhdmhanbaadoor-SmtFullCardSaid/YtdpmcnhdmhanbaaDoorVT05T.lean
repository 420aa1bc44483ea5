import Derived.Test.YtdpmcnhdmhanbaaDoorVT05S
import Derived.Test.YtdpmcnhdmhanbaaDoorVT05J
set_option maxHeartbeats 4000000
set_option linter.unusedVariables false
namespace Go.V
open Go
def T15 (k : Nat) : Fn PU := fun args boxes K => match args, boxes with
  | [.ro false 36 r1], [] => Hold (F_l05_own k r1 (fun z0 => K (.usl 36 z0) []))
  | _, _ => False
def T39 (k : Nat) : Fn PU := fun args boxes K => match args, boxes with
  | [.int .i64 r1], [] => Hold (F_smt_width k r1 (fun z0 => K (.bool z0) []))
  | _, _ => False
def T26 (k : Nat) : Fn PU := fun args boxes K => match args, boxes with
  | [.int .i64 r1], [] => Hold (F_smt_New k r1 (fun z0 => K (.tup [.nilp, .int .i64 z0]) []) (fun z0 z1 z2 z3 => K (.tup [.ptr 0 [], .int .i64 z0]) [.box (.agg [.int .i64 z1, .int .i64 z2, .tr 36 z3 []])]))
  | _, _ => False
def T27 (k : Nat) : Fn PU := fun args boxes K => match args, boxes with
  | [.nilp, .ro false 36 r1], [] => Hold (F_smt_Tree_Set k r1 (fun z0 => K (.int .i64 z0) []))
  | [.ptr 0 [], .ro false 36 r1], [.box (.agg [.int .i64 r2, .int .i64 r3, .tr 36 r4 []])] => Hold (F_smt_Tree_Set_s1 k r1 r2 r3 r4 (fun z0 z1 z2 z3 => K (.int .i64 z0) [.box (.agg [.int .i64 z1, .int .i64 z2, .tr 36 z3 []])]))
  | [.nilp, .ro true 36 r1], [] => Hold (F_smt_Tree_Set k r1 (fun z0 => K (.int .i64 z0) []))
  | [.ptr 0 [], .ro true 36 r1], [.box (.agg [.int .i64 r2, .int .i64 r3, .tr 36 r4 []])] => Hold (F_smt_Tree_Set_s1 k r1 r2 r3 r4 (fun z0 z1 z2 z3 => K (.int .i64 z0) [.box (.agg [.int .i64 z1, .int .i64 z2, .tr 36 z3 []])]))
  | [.ptr 0 [], .own 1], [.box (.agg [.int .i64 r1, .int .i64 r2, .tr 36 r3 []]), .lst 36 r4] => Hold (F_smt_Tree_Set_s4 k r1 r2 r3 r4 (fun z0 z1 z2 z3 z4 => K (.int .i64 z0) [.box (.agg [.int .i64 z1, .int .i64 z2, .tr 36 z3 []]), .lst 36 z4]))
  | [.ptr 0 [], .sub 1 36 r1 r2], [.box (.agg [.int .i64 r3, .int .i64 r4, .tr 36 r5 []]), .lst 36 r6] => Hold (F_smt_Tree_Set_s5 k r1 r2 r3 r4 r5 r6 (fun z0 z1 z2 z3 z4 => K (.int .i64 z0) [.box (.agg [.int .i64 z1, .int .i64 z2, .tr 36 z3 []]), .lst 36 z4]))
  | _, _ => False
def T29 (k : Nat) : Fn PU := fun args boxes K => match args, boxes with
  | [.nilp], [] => Hold (F_smt_Tree_Root k (fun z0 => K (.arr 5 32 z0) []))
  | [.ptr 0 []], [.box (.agg [.int .i64 r1, .int .i64 r2, .tr 36 r3 []])] => Hold (F_smt_Tree_Root_s1 k r1 r2 r3 (fun z0 z1 z2 z3 => K (.arr 5 32 z0) [.box (.agg [.int .i64 z1, .int .i64 z2, .tr 36 z3 []])]))
  | _, _ => False
def T61 (k : Nat) : Fn PU := fun args boxes K => match args, boxes with
  | [.ro false 36 r1], [] => Hold (F_slices_Clone_api_Leaf_api_Leaf k r1 (fun z0 => K (.usl 36 z0) []))
  | [.ro true 36 r1], [] => Hold (F_slices_Clone_api_Leaf_api_Leaf k r1 (fun z0 => K (.usl 36 z0) []))
  | _, _ => False
def T89 (k : Nat) : Fn PU := fun args boxes K => match args, boxes with
  | [.int .u8 r1], [] => Hold (F_cmp_isNaN_byte k r1 (fun z0 => K (.bool z0) []))
  | _, _ => False
def T73 (k : Nat) : Fn PU := fun args boxes K => match args, boxes with
  | [.int .u8 r1, .int .u8 r2], [] => Hold (F_cmp_Compare_byte k r1 r2 (fun z0 => K (.int .i64 z0) []))
  | _, _ => False
def T64 (k : Nat) : Fn PU := fun args boxes K => match args, boxes with
  | [.ro true 5 r1, .ro true 5 r2], [] => Hold (F_slices_Compare_byte_byte k r1 r2 (fun z0 => K (.int .i64 z0) []))
  | _, _ => False
def T63 (k : Nat) : Fn PU := fun args boxes K => match args, boxes with
  | [.agg [.arr 5 32 r1, .arr 5 32 r2], .agg [.arr 5 32 r3, .arr 5 32 r4]], [] => Hold (F_smt_twice_1 k r1 r2 r3 r4 (fun z0 => K (.int .i64 z0) []))
  | _, _ => False
def T62 (k : Nat) : Fn PU := fun args boxes K => match args, boxes with
  | [.own 0, .clo 63 []], [.lst 36 r1] => Hold (F_slices_SortFunc_api_Leaf_api_Leaf k r1 (fun z0 => K (.tup []) [.lst 36 z0]))
  | _, _ => False
def T46 (k : Nat) : Fn PU := fun args boxes K => match args, boxes with
  | [.ro false 36 r1], [] => Hold (F_smt_twice k r1 (fun z0 => K (.bool z0) []))
  | [.ro true 36 r1], [] => Hold (F_smt_twice k r1 (fun z0 => K (.bool z0) []))
  | _, _ => False
def T49 (k : Nat) : Fn PU := fun args boxes K => match args, boxes with
  | [.tr 36 r1 []], [] => Hold (F_smt_knot_inner k r1 (fun z0 => K (.bool z0) []))
  | [.ptr 0 []], [.box (.agg [.agg [.agg [.int .u32 r1, .int .i32 r2, .int .u32 r3], .arr 5 32 r4], .agg [.arr 5 32 r5, .arr 5 32 r6], .tr 36 r7 [], .tr 36 r8 []])] => Hold (F_smt_knot_inner_s1 k r1 r2 r3 r4 r5 r6 r7 r8 (fun z0 z1 z2 z3 z4 z5 z6 z7 z8 => K (.bool z0) [.box (.agg [.agg [.agg [.int .u32 z1, .int .i32 z2, .int .u32 z3], .arr 5 32 z4], .agg [.arr 5 32 z5, .arr 5 32 z6], .tr 36 z7 [], .tr 36 z8 []])]))
  | _, _ => False
def T76 (k : Nat) : Fn PU := fun args boxes K => match args, boxes with
  | [.int .i64 r1], [] => Hold (F_path_mask k r1 (fun z0 => K (.int .u8 z0) []))
  | _, _ => False
def T67 (k : Nat) : Fn PU := fun args boxes K => match args, boxes with
  | [.arr 5 32 r1, .int .i64 r2], [] => Hold (F_path_Bit k r1 r2 (fun z0 z1 => K (.tup [.int .i64 z0, .int .i64 z1]) []))
  | _, _ => False
def T50 (k : Nat) : Fn PU := fun args boxes K => match args, boxes with
  | [.arr 5 32 r1, .int .i64 r2], [] => Hold (F_smt_right k r1 r2 (fun z0 => K (.bool z0) []))
  | _, _ => False
def T30 (k : Nat) : Fn PU := fun args boxes K => match args, boxes with
  | [.ptr 0 [], .arr 5 32 r1], [.box (.agg [.int .i64 r2, .int .i64 r3, .tr 36 r4 []])] => Hold (F_smt_Tree_Get k r1 r2 r3 r4 (fun z0 z1 z2 z3 z4 => K (.tup [.arr 5 32 z0, .bool z1]) [.box (.agg [.int .i64 z2, .int .i64 z3, .tr 36 z4 []])]))
  | [.nilp, .arr 5 32 r1], [] => Hold (F_smt_Tree_Get_s1 k r1 (fun z0 z1 => K (.tup [.arr 5 32 z0, .bool z1]) []))
  | _, _ => False
def T47 (k : Nat) : Fn PU := fun args boxes K => match args, boxes with
  | [.tr 36 r1 [], .agg [.arr 5 32 r2, .arr 5 32 r3], .int .i64 r4], [] => Hold (F_smt_knot_with k r1 r2 r3 r4 (fun z0 => K (.tr 36 z0 []) []))
  | _, _ => False
def T55 (k : Nat) : Fn PU := fun args boxes K => match args, boxes with
  | [], [] => Hold (F_sha_New k (fun z0 z1 z2 => K (.ptr 0 []) [.box (.agg [.arr 76 8 z0, .arr 5 64 z1, .int .i64 z2])]))
  | _, _ => False
def T78 (k : Nat) : Fn PU := fun args boxes K => match args, boxes with
  | [.int .u32 r1, .int .i64 r2], [] => Hold (F_math_bits_RotateLeft32 k r1 r2 (fun z0 => K (.int .u32 z0) []))
  | _, _ => False
def T69 (k : Nat) : Fn PU := fun args boxes K => match args, boxes with
  | [.ptr 0 []], [.box (.agg [.arr 76 8 r1, .arr 5 64 r2, .int .i64 r3])] => Hold (F_sha_Hash_mix k r1 r2 r3 (fun z0 z1 z2 => K (.tup []) [.box (.agg [.arr 76 8 z0, .arr 5 64 z1, .int .i64 z2])]))
  | _, _ => False
def T56 (k : Nat) : Fn PU := fun args boxes K => match args, boxes with
  | [.ptr 0 [], .ro false 5 r1], [.box (.agg [.arr 76 8 r2, .arr 5 64 r3, .int .i64 r4])] => Hold (F_sha_Hash_Write k r1 r2 r3 r4 (fun z0 z1 z2 z3 => K (.int .i64 z0) [.box (.agg [.arr 76 8 z1, .arr 5 64 z2, .int .i64 z3])]))
  | _, _ => False
def T57 (k : Nat) : Fn PU := fun args boxes K => match args, boxes with
  | [.ptr 0 []], [.box (.agg [.arr 76 8 r1, .arr 5 64 r2, .int .i64 r3])] => Hold (F_sha_Hash_Sum k r1 r2 r3 (fun z0 z1 z2 z3 => K (.arr 5 32 z0) [.box (.agg [.arr 76 8 z1, .arr 5 64 z2, .int .i64 z3])]))
  | _, _ => False
def T40 (k : Nat) : Fn PU := fun args boxes K => match args, boxes with
  | [.int .i64 r1, .arr 5 32 r2], [] => Hold (F_smt_short k r1 r2 (fun z0 => K (.arr 5 32 z0) []))
  | _, _ => False
def T43 (k : Nat) : Fn PU := fun args boxes K => match args, boxes with
  | [.int .i64 r1, .int .u8 r2, .ro true 24 r3], [] => Hold (F_smt_summed k r1 r2 r3 (fun z0 => K (.arr 5 32 z0) []))
  | [.int .i64 r1, .int .u8 r2, .ro false 24 r3], [] => Hold (F_smt_summed k r1 r2 r3 (fun z0 => K (.arr 5 32 z0) []))
  | _, _ => False
def T24 (k : Nat) : Fn PU := fun args boxes K => match args, boxes with
  | [.int .i64 r1, .arr 5 32 r2, .arr 5 32 r3], [] => Hold (F_smt_Node k r1 r2 r3 (fun z0 => K (.arr 5 32 z0) []))
  | _, _ => False
def T22 (k : Nat) : Fn PU := fun args boxes K => match args, boxes with
  | [.int .i64 r1, .agg [.arr 5 32 r2, .arr 5 32 r3]], [] => Hold (F_smt_Leaf k r1 r2 r3 (fun z0 => K (.arr 5 32 z0) []))
  | _, _ => False
def T66 (k : Nat) : Fn PU := fun args boxes K => match args, boxes with
  | [.ptr 0 [], .ptr 1 []], [.box (.ptr 2 []), .box (.int .i64 r1), .box (.agg [.agg [.agg [.int .u32 r2, .int .i32 r3, .int .u32 r4], .arr 5 32 r5], .agg [.arr 5 32 r6, .arr 5 32 r7], .tr 36 r8 [], .tr 36 r9 []])] => Hold (F_smt_knot_digest_1 k r1 r2 r3 r4 r5 r6 r7 r8 r9 (fun z0 z1 z2 z3 z4 z5 z6 z7 z8 => K (.tup []) [.box (.ptr 2 []), .box (.int .i64 z0), .box (.agg [.agg [.agg [.int .u32 z1, .int .i32 z2, .int .u32 z3], .arr 5 32 z4], .agg [.arr 5 32 z5, .arr 5 32 z6], .tr 36 z7 [], .tr 36 z8 []])]))
  | _, _ => False
def T20 (k : Nat) : Fn PU := fun args boxes K => match args, boxes with
  | [.int .i64 r1], [] => Hold (F_smt_Empty k r1 (fun z0 => K (.arr 5 32 z0) []))
  | _, _ => False
def T48 (k : Nat) : Fn PU := fun args boxes K => match args, boxes with
  | [.tr 36 r1 [], .int .i64 r2], [] => Hold (F_smt_knot_digest k r1 r2 (fun z0 => K (.arr 5 32 z0) []))
  | _, _ => False
def T11 (k : Nat) : Fn PU := fun args boxes K => match args, boxes with
  | [.int .i64 r1, .ro false 36 r2], [] => Hold (F_smt_Root k r1 r2 (fun z0 z1 => K (.tup [.arr 5 32 z0, .int .i64 z1]) []))
  | [.int .i64 r1, .ro true 36 r2], [] => Hold (F_smt_Root k r1 r2 (fun z0 z1 => K (.tup [.arr 5 32 z0, .int .i64 z1]) []))
  | _, _ => False
def T35 (k : Nat) : Fn PU := fun args boxes K => match args, boxes with
  | [], [] => Hold (F_l05_a k (fun z0 z1 => K (.agg [.arr 5 32 z0, .arr 5 32 z1]) []))
  | _, _ => False
def T36 (k : Nat) : Fn PU := fun args boxes K => match args, boxes with
  | [], [] => Hold (F_l05_b k (fun z0 z1 => K (.agg [.arr 5 32 z0, .arr 5 32 z1]) []))
  | _, _ => False
def T14 (k : Nat) : Fn PU := fun args boxes K => match args, boxes with
  | [], [] => Hold (F_l05_roots k (fun z0 => K (.bool z0) []))
  | _, _ => False
def T4 (k : Nat) : Fn PU := fun args boxes K => match args, boxes with
  | [.int .i64 r1, .ro false 36 r2, .ro false 3 r3], [] => Hold (F_l05_SmtOrder k r1 r2 r3 (fun z0 => K (.bool z0) []))
  | _, _ => False
def T51 (k : Nat) : Fn PU := fun args boxes K => match args, boxes with
  | [.tr 36 r1 [], .arr 5 32 r2, .int .i64 r3], [] => Hold (F_smt_knot_without k r1 r2 r3 (fun z0 => K (.tr 36 z0 []) []))
  | _, _ => False
def T32 (k : Nat) : Fn PU := fun args boxes K => match args, boxes with
  | [.ptr 0 [], .arr 5 32 r1], [.box (.agg [.int .i64 r2, .int .i64 r3, .tr 36 r4 []])] => Hold (F_smt_Tree_Drop k r1 r2 r3 r4 (fun z0 z1 z2 z3 => K (.bool z0) [.box (.agg [.int .i64 z1, .int .i64 z2, .tr 36 z3 []])]))
  | [.nilp, .arr 5 32 r1], [] => Hold (F_smt_Tree_Drop_s1 k r1 (fun z0 => K (.bool z0) []))
  | _, _ => False
def T31 (k : Nat) : Fn PU := fun args boxes K => match args, boxes with
  | [.ptr 0 []], [.box (.agg [.int .i64 r1, .int .i64 r2, .tr 36 r3 []])] => Hold (F_smt_Tree_Len k r1 r2 r3 (fun z0 z1 z2 z3 => K (.int .i64 z0) [.box (.agg [.int .i64 z1, .int .i64 z2, .tr 36 z3 []])]))
  | [.nilp], [] => Hold (F_smt_Tree_Len_s1 k (fun z0 => K (.int .i64 z0) []))
  | _, _ => False
def T28 (k : Nat) : Fn PU := fun args boxes K => match args, boxes with
  | [], [] => Hold (F_l05_grows k (fun z0 => K (.bool z0) []))
  | _, _ => False
def T6 (k : Nat) : Fn PU := fun args boxes K => match args, boxes with
  | [.int .i64 r1, .ro false 36 r2, .agg [.arr 5 32 r3, .arr 5 32 r4]], [] => Hold (F_l05_SmtBack k r1 r2 r3 r4 (fun z0 => K (.bool z0) []))
  | _, _ => False
def T12 (k : Nat) : Fn PU := fun args boxes K => match args, boxes with
  | [.int .i64 r1], [] => Hold (F_r05_Width k r1 (fun z0 => K (.bool z0) []))
  | _, _ => False
def T33 (k : Nat) : Fn PU := fun args boxes K => match args, boxes with
  | [.int .i64 r1], [] => Hold (F_l05_full k r1 (fun z0 => K (.usl 36 z0) []))
  | _, _ => False
def T7 (k : Nat) : Fn PU := fun args boxes K => match args, boxes with
  | [.int .i64 r1, .agg [.arr 5 32 r2, .arr 5 32 r3]], [] => Hold (F_l05_SmtFull k r1 r2 r3 (fun z0 => K (.bool z0) []))
  | _, _ => False
def T34 (k : Nat) : Fn PU := fun args boxes K => match args, boxes with
  | [.nilp], [] => Hold (F_smt_Tree_Leaves k (fun z0 => K (.own 0) [.lst 36 z0]))
  | [.ptr 0 []], [.box (.agg [.int .i64 r1, .int .i64 r2, .tr 36 r3 []])] => Hold (F_smt_Tree_Leaves_s1 k r1 r2 r3 (fun z0 z1 z2 z3 => K (.own 1) [.box (.agg [.int .i64 z0, .int .i64 z1, .tr 36 z2 []]), .lst 36 z3]))
  | _, _ => False
def T8 (k : Nat) : Fn PU := fun args boxes K => match args, boxes with
  | [.ro false 36 r1, .arr 5 32 r2], [] => Hold (F_l05_SmtNil k r1 r2 (fun z0 => K (.bool z0) []))
  | _, _ => False
def T53 (k : Nat) : Fn PU := fun args boxes K => match args, boxes with
  | [.agg [.arr 5 32 r1, .arr 5 32 r2], .ptr 0 []], [.box (.own 1), .lst 36 r3] => Hold (F_smt_Tree_Leaves_1 k r1 r2 r3 (fun z0 => K (.tup []) [.box (.own 2), .dead, .lst 36 z0]))
  | _, _ => False
def T52 (k : Nat) : Fn PU := fun args boxes K => match args, boxes with
  | [.tr 36 r1 [], .clo 53 [.ptr 0 []]], [.box (.own 1), .lst 36 r2] => Hold (F_smt_knot_each k r1 r2 (fun z0 => K (.tup []) [.box (.own 2), .dead, .lst 36 z0]) (fun z0 => K (.tup []) [.box (.own 1), .lst 36 z0]))
  | _, _ => False
def T9 (k : Nat) : Fn PU := fun args boxes K => match args, boxes with
  | [.int .i64 r1, .ro false 36 r2, .ro false 24 r3], [] => Hold (F_l05_SmtGrows k r1 r2 r3 (fun z0 => K (.bool z0) []))
  | _, _ => False
def T13 (k : Nat) : Fn PU := fun args boxes K => match args, boxes with
  | [.ro false 36 r1], [] => Hold (F_r05_Twice k r1 (fun z0 => K (.bool z0) []))
  | _, _ => False
def T38 (k : Nat) : Fn PU := fun args boxes K => match args, boxes with
  | [.ro true 36 r1, .ro true 36 r2], [] => Hold (F_r05_Same k r1 r2 (fun z0 => K (.bool z0) []))
  | _, _ => False
def T17 (k : Nat) : Fn PU := fun args boxes K => match args, boxes with
  | [.ro true 36 r1, .ro true 36 r2], [] => Hold (F_l05_same k r1 r2 (fun z0 => K (.bool z0) []))
  | _, _ => False
def T10 (k : Nat) : Fn PU := fun args boxes K => match args, boxes with
  | [.int .i64 r1, .ro false 36 r2, .ro false 36 r3], [] => Hold (F_l05_SmtBatches k r1 r2 r3 (fun z0 => K (.bool z0) []))
  | _, _ => False
def D64_2 (k : Nat) : Nat → List (A PU) → List (AObj PU) → (A PU → List (AObj PU) → Prop) → Prop := fun nb vals objs K => match nb, vals, objs with
  | 0, [.ro true 5 r3, .ro true 5 r4, .ro true 5 r5, .int .i64 r6, .int .i64 r7], [] => Hold (C_slices_Compare_byte_byte_2 k r3 r4 r5 r6 r7 (fun z0 => K (.int .i64 z0) []))
  | _, _, _ => False
def D46_4 (k : Nat) : Nat → List (A PU) → List (AObj PU) → (A PU → List (AObj PU) → Prop) → Prop := fun nb vals objs K => match nb, vals, objs with
  | 0, [.own 0, .int .i64 r4, .int .i64 r5], [.lst 36 r6] => Hold (C_smt_twice_4 k r4 r5 r6 (fun z0 => K (.bool z0) []))
  | _, _, _ => False
def D30_5 (k : Nat) : Nat → List (A PU) → List (AObj PU) → (A PU → List (AObj PU) → Prop) → Prop := fun nb vals objs K => match nb, vals, objs with
  | 1, [.ptr 1 [], .ptr 2 [], .tr 36 r5 [], .int .i64 r6], [.box (.agg [.int .i64 r7, .int .i64 r8, .tr 36 r9 []]), .box (.arr 5 32 r10), .box (.arr 5 32 r11)] => Hold (C_smt_Tree_Get_5 k r5 r6 r7 r8 r9 r10 r11 (fun z0 z1 z2 z3 z4 => K (.tup [.arr 5 32 z0, .bool z1]) [.box (.agg [.int .i64 z2, .int .i64 z3, .tr 36 z4 []])]))
  | _, _, _ => False
def D30_11 (k : Nat) : Nat → List (A PU) → List (AObj PU) → (A PU → List (AObj PU) → Prop) → Prop := fun nb vals objs K => match nb, vals, objs with
  | 1, [.ptr 1 []], [.box (.agg [.int .i64 r14, .int .i64 r15, .tr 36 r16 []]), .box (.arr 5 32 r17)] => Hold (C_smt_Tree_Get_11 k r14 r15 r16 r17 (fun z0 z1 z2 z3 z4 => K (.tup [.arr 5 32 z0, .bool z1]) [.box (.agg [.int .i64 z2, .int .i64 z3, .tr 36 z4 []])]))
  | _, _, _ => False
def D47_3 (k : Nat) : Nat → List (A PU) → List (AObj PU) → (A PU → List (AObj PU) → Prop) → Prop := fun nb vals objs K => match nb, vals, objs with
  | 0, [.tr 36 r8 [], .int .i64 r9, .ptr 0 []], [.box (.agg [.arr 5 32 r10, .arr 5 32 r11])] => Hold (C_smt_knot_with_3 k r8 r9 r10 r11 (fun z0 => K (.tr 36 z0 []) []))
  | _, _, _ => False
def D47_8 (k : Nat) : Nat → List (A PU) → List (AObj PU) → (A PU → List (AObj PU) → Prop) → Prop := fun nb vals objs K => match nb, vals, objs with
  | 0, [.ptr 0 [], .int .i64 r16, .ptr 1 []], [.box (.agg [.agg [.gh r17, .arr 5 32 r18], .agg [.arr 5 32 r19, .arr 5 32 r20], .tr 36 r21 [], .tr 36 r22 []]), .box (.agg [.arr 5 32 r23, .arr 5 32 r24])] => Hold (C_smt_knot_with_8 k r16 r17 r18 r19 r20 r21 r22 r23 r24 (fun z0 => K (.tr 36 z0 []) []))
  | 0, [.tr 36 r38 [], .int .i64 r39, .ptr 0 []], [.box (.agg [.arr 5 32 r40, .arr 5 32 r41])] => Hold (C_smt_knot_with_8_1 k r38 r39 r40 r41 (fun z0 => K (.tr 36 z0 []) []))
  | _, _, _ => False
def D47_9 (k : Nat) : Nat → List (A PU) → List (AObj PU) → (A PU → List (AObj PU) → Prop) → Prop := fun nb vals objs K => match nb, vals, objs with
  | 0, [.int .i64 r26, .ptr 0 [], .ptr 1 []], [.box (.agg [.arr 5 32 r27, .arr 5 32 r28]), .box (.agg [.agg [.gh r29, .arr 5 32 r30], .agg [.arr 5 32 r31, .arr 5 32 r32], .tr 36 r33 [], .tr 36 r34 []])] => Hold (C_smt_knot_with_9 k r26 r27 r28 r29 r30 r31 r32 r33 r34 (fun z0 => K (.tr 36 z0 []) []))
  | _, _, _ => False
def D27_9 (k : Nat) : Nat → List (A PU) → List (AObj PU) → (A PU → List (AObj PU) → Prop) → Prop := fun nb vals objs K => match nb, vals, objs with
  | 1, [.ptr 0 [], .tr 36 r6 [], .int .i64 r7, .ro false 36 r8, .int .i64 r9, .int .i64 r10], [.box (.agg [.int .i64 r11, .int .i64 r12, .tr 36 r13 []])] => Hold (C_smt_Tree_Set_9 k r6 r7 r8 r9 r10 r11 r12 r13 (fun z0 z1 z2 z3 => K (.int .i64 z0) [.box (.agg [.int .i64 z1, .int .i64 z2, .tr 36 z3 []])]))
  | 1, [.ptr 0 [], .tr 36 r6 [], .int .i64 r7, .ro true 36 r8, .int .i64 r9, .int .i64 r10], [.box (.agg [.int .i64 r11, .int .i64 r12, .tr 36 r13 []])] => Hold (C_smt_Tree_Set_9 k r6 r7 r8 r9 r10 r11 r12 r13 (fun z0 z1 z2 z3 => K (.int .i64 z0) [.box (.agg [.int .i64 z1, .int .i64 z2, .tr 36 z3 []])]))
  | 2, [.ptr 0 [], .tr 36 r6 [], .int .i64 r7, .own 1, .int .i64 r8, .int .i64 r9], [.box (.agg [.int .i64 r10, .int .i64 r11, .tr 36 r12 []]), .lst 36 r13] => Hold (C_smt_Tree_Set_9_2 k r6 r7 r8 r9 r10 r11 r12 r13 (fun z0 z1 z2 z3 z4 => K (.int .i64 z0) [.box (.agg [.int .i64 z1, .int .i64 z2, .tr 36 z3 []]), .lst 36 z4]))
  | 2, [.ptr 0 [], .tr 36 r8 [], .int .i64 r9, .sub 1 36 r10 r11, .int .i64 r12, .int .i64 r13], [.box (.agg [.int .i64 r14, .int .i64 r15, .tr 36 r16 []]), .lst 36 r17] => Hold (C_smt_Tree_Set_9_3 k r8 r9 r10 r11 r12 r13 r14 r15 r16 r17 (fun z0 z1 z2 z3 z4 => K (.int .i64 z0) [.box (.agg [.int .i64 z1, .int .i64 z2, .tr 36 z3 []]), .lst 36 z4]))
  | _, _, _ => False
def D69_2 (k : Nat) : Nat → List (A PU) → List (AObj PU) → (A PU → List (AObj PU) → Prop) → Prop := fun nb vals objs K => match nb, vals, objs with
  | 1, [.ptr 0 [], .ptr 1 [], .int .i64 r4], [.box (.agg [.arr 76 8 r5, .arr 5 64 r6, .int .i64 r7]), .box (.arr 76 64 r8)] => Hold (C_sha_Hash_mix_2 k r4 r5 r6 r7 r8 (fun z0 z1 z2 => K (.tup []) [.box (.agg [.arr 76 8 z0, .arr 5 64 z1, .int .i64 z2])]))
  | _, _, _ => False
def D69_11 (k : Nat) : Nat → List (A PU) → List (AObj PU) → (A PU → List (AObj PU) → Prop) → Prop := fun nb vals objs K => match nb, vals, objs with
  | 1, [.ptr 0 [], .ptr 1 [], .int .i64 r9], [.box (.agg [.arr 76 8 r10, .arr 5 64 r11, .int .i64 r12]), .box (.arr 76 64 r13)] => Hold (C_sha_Hash_mix_11 k r9 r10 r11 r12 r13 (fun z0 z1 z2 => K (.tup []) [.box (.agg [.arr 76 8 z0, .arr 5 64 z1, .int .i64 z2])]))
  | _, _, _ => False
def D69_14 (k : Nat) : Nat → List (A PU) → List (AObj PU) → (A PU → List (AObj PU) → Prop) → Prop := fun nb vals objs K => match nb, vals, objs with
  | 1, [.ptr 0 [], .int .u32 r18, .int .u32 r19, .int .u32 r20, .int .u32 r21, .int .u32 r22, .int .u32 r23, .int .u32 r24, .int .u32 r25, .arr 76 64 r26, .int .i64 r27], [.box (.agg [.arr 76 8 r28, .arr 5 64 r29, .int .i64 r30])] => Hold (C_sha_Hash_mix_14 k r18 r19 r20 r21 r22 r23 r24 r25 r26 r27 r28 r29 r30 (fun z0 z1 z2 => K (.tup []) [.box (.agg [.arr 76 8 z0, .arr 5 64 z1, .int .i64 z2])]))
  | _, _, _ => False
def D69_23 (k : Nat) : Nat → List (A PU) → List (AObj PU) → (A PU → List (AObj PU) → Prop) → Prop := fun nb vals objs K => match nb, vals, objs with
  | 1, [.ptr 0 [], .arr 76 8 r37, .int .i64 r38], [.box (.agg [.arr 76 8 r39, .arr 5 64 r40, .int .i64 r41])] => Hold (C_sha_Hash_mix_23 k r37 r38 r39 r40 r41 (fun z0 z1 z2 => K (.tup []) [.box (.agg [.arr 76 8 z0, .arr 5 64 z1, .int .i64 z2])]))
  | _, _, _ => False
def D56_3 (k : Nat) : Nat → List (A PU) → List (AObj PU) → (A PU → List (AObj PU) → Prop) → Prop := fun nb vals objs K => match nb, vals, objs with
  | 1, [.ptr 0 [], .ro false 5 r5], [.box (.agg [.arr 76 8 r6, .arr 5 64 r7, .int .i64 r8])] => Hold (C_sha_Hash_Write_3 k r5 r6 r7 r8 (fun z0 z1 z2 z3 => K (.int .i64 z0) [.box (.agg [.arr 76 8 z1, .arr 5 64 z2, .int .i64 z3])]))
  | _, _, _ => False
def D57_9 (k : Nat) : Nat → List (A PU) → List (AObj PU) → (A PU → List (AObj PU) → Prop) → Prop := fun nb vals objs K => match nb, vals, objs with
  | 1, [.ptr 0 [], .ptr 1 [], .ptr 2 [], .ptr 3 [], .ptr 4 [], .int .i64 r8, .int .i64 r9], [.box (.agg [.arr 76 8 r10, .arr 5 64 r11, .int .i64 r12]), .box (.arr 5 32 r13), .box (.arr 5 32 r14), .box (.agg [.arr 76 8 r15, .arr 5 64 r16, .int .i64 r17]), .box (.arr 5 72 r18)] => Hold (C_sha_Hash_Sum_9 k r8 r9 r10 r11 r12 r13 r14 r15 r16 r17 r18 (fun z0 z1 z2 z3 => K (.arr 5 32 z0) [.box (.agg [.arr 76 8 z1, .arr 5 64 z2, .int .i64 z3])]))
  | _, _, _ => False
def D57_15 (k : Nat) : Nat → List (A PU) → List (AObj PU) → (A PU → List (AObj PU) → Prop) → Prop := fun nb vals objs K => match nb, vals, objs with
  | 1, [.ptr 1 [], .ptr 2 [], .ptr 3 [], .int .i64 r23], [.box (.agg [.arr 76 8 r24, .arr 5 64 r25, .int .i64 r26]), .box (.arr 5 32 r27), .box (.arr 5 32 r28), .box (.agg [.arr 76 8 r29, .arr 5 64 r30, .int .i64 r31])] => Hold (C_sha_Hash_Sum_15 k r23 r24 r25 r26 r27 r28 r29 r30 r31 (fun z0 z1 z2 z3 => K (.arr 5 32 z0) [.box (.agg [.arr 76 8 z1, .arr 5 64 z2, .int .i64 z3])]))
  | _, _, _ => False
def D40_4 (k : Nat) : Nat → List (A PU) → List (AObj PU) → (A PU → List (AObj PU) → Prop) → Prop := fun nb vals objs K => match nb, vals, objs with
  | 0, [.ptr 0 [], .ptr 1 []], [.box (.arr 5 32 r4), .box (.arr 5 32 r5)] => Hold (C_smt_short_4 k r4 r5 (fun z0 => K (.arr 5 32 z0) []))
  | _, _, _ => False
def D43_4 (k : Nat) : Nat → List (A PU) → List (AObj PU) → (A PU → List (AObj PU) → Prop) → Prop := fun nb vals objs K => match nb, vals, objs with
  | 0, [.int .i64 r11, .ptr 0 [], .ptr 1 [], .ro true 24 r12, .int .i64 r13, .int .i64 r14], [.box (.arr 5 32 r15), .box (.agg [.arr 76 8 r16, .arr 5 64 r17, .int .i64 r18])] => Hold (C_smt_summed_4 k r11 r12 r13 r14 r15 r16 r17 r18 (fun z0 => K (.arr 5 32 z0) []))
  | 0, [.int .i64 r11, .ptr 0 [], .ptr 1 [], .ro false 24 r12, .int .i64 r13, .int .i64 r14], [.box (.arr 5 32 r15), .box (.agg [.arr 76 8 r16, .arr 5 64 r17, .int .i64 r18])] => Hold (C_smt_summed_4 k r11 r12 r13 r14 r15 r16 r17 r18 (fun z0 => K (.arr 5 32 z0) []))
  | _, _, _ => False
def D11_2 (k : Nat) : Nat → List (A PU) → List (AObj PU) → (A PU → List (AObj PU) → Prop) → Prop := fun nb vals objs K => match nb, vals, objs with
  | 0, [.ro false 36 r4, .ptr 0 [], .nilp, .int .i64 r5], [.box (.arr 5 32 r6)] => Hold (C_smt_Root_2 k r4 r5 r6 (fun z0 z1 => K (.tup [.arr 5 32 z0, .int .i64 z1]) []))
  | 0, [.ro false 36 r21, .ptr 0 [], .ptr 1 [], .int .i64 r22], [.box (.arr 5 32 r23), .box (.agg [.int .i64 r24, .int .i64 r25, .tr 36 r26 []])] => Hold (C_smt_Root_2_1 k r21 r22 r23 r24 r25 r26 (fun z0 z1 => K (.tup [.arr 5 32 z0, .int .i64 z1]) []))
  | 0, [.ro true 36 r4, .ptr 0 [], .nilp, .int .i64 r5], [.box (.arr 5 32 r6)] => Hold (C_smt_Root_2 k r4 r5 r6 (fun z0 z1 => K (.tup [.arr 5 32 z0, .int .i64 z1]) []))
  | 0, [.ro true 36 r14, .ptr 0 [], .ptr 1 [], .int .i64 r15], [.box (.arr 5 32 r16), .box (.agg [.int .i64 r17, .int .i64 r18, .tr 36 r19 []])] => Hold (C_smt_Root_2_1 k r14 r15 r16 r17 r18 r19 (fun z0 z1 => K (.tup [.arr 5 32 z0, .int .i64 z1]) []))
  | _, _, _ => False
def D11_3 (k : Nat) : Nat → List (A PU) → List (AObj PU) → (A PU → List (AObj PU) → Prop) → Prop := fun nb vals objs K => match nb, vals, objs with
  | 0, [.ptr 0 [], .int .i64 r7], [.box (.arr 5 32 r8)] => Hold (C_smt_Root_3 k r7 r8 (fun z0 z1 => K (.tup [.arr 5 32 z0, .int .i64 z1]) []))
  | _, _, _ => False
def D11_4 (k : Nat) : Nat → List (A PU) → List (AObj PU) → (A PU → List (AObj PU) → Prop) → Prop := fun nb vals objs K => match nb, vals, objs with
  | 0, [.ro false 36 r9, .ptr 0 [], .nilp], [.box (.arr 5 32 r10)] => Hold (C_smt_Root_4 k r9 r10 (fun z0 z1 => K (.tup [.arr 5 32 z0, .int .i64 z1]) []))
  | 0, [.ro false 36 r27, .ptr 0 [], .ptr 1 []], [.box (.arr 5 32 r28), .box (.agg [.int .i64 r29, .int .i64 r30, .tr 36 r31 []])] => Hold (C_smt_Root_4_1 k r27 r28 r29 r30 r31 (fun z0 z1 => K (.tup [.arr 5 32 z0, .int .i64 z1]) []))
  | 0, [.ro true 36 r7, .ptr 0 [], .nilp], [.box (.arr 5 32 r8)] => Hold (C_smt_Root_4 k r7 r8 (fun z0 z1 => K (.tup [.arr 5 32 z0, .int .i64 z1]) []))
  | 0, [.ro true 36 r20, .ptr 0 [], .ptr 1 []], [.box (.arr 5 32 r21), .box (.agg [.int .i64 r22, .int .i64 r23, .tr 36 r24 []])] => Hold (C_smt_Root_4_1 k r20 r21 r22 r23 r24 (fun z0 z1 => K (.tup [.arr 5 32 z0, .int .i64 z1]) []))
  | _, _, _ => False
def D11_5 (k : Nat) : Nat → List (A PU) → List (AObj PU) → (A PU → List (AObj PU) → Prop) → Prop := fun nb vals objs K => match nb, vals, objs with
  | 0, [.ptr 0 [], .nilp, .int .i64 r12], [.box (.arr 5 32 r13)] => Hold (C_smt_Root_5 k r12 r13 (fun z0 z1 => K (.tup [.arr 5 32 z0, .int .i64 z1]) []))
  | 0, [.ptr 0 [], .ptr 1 [], .int .i64 r36], [.box (.arr 5 32 r37), .box (.agg [.int .i64 r38, .int .i64 r39, .tr 36 r40 []])] => Hold (C_smt_Root_5_1 k r36 r37 r38 r39 r40 (fun z0 z1 => K (.tup [.arr 5 32 z0, .int .i64 z1]) []))
  | _, _, _ => False
def D11_6 (k : Nat) : Nat → List (A PU) → List (AObj PU) → (A PU → List (AObj PU) → Prop) → Prop := fun nb vals objs K => match nb, vals, objs with
  | 0, [.ptr 0 [], .int .i64 r14], [.box (.arr 5 32 r15)] => Hold (C_smt_Root_6 k r14 r15 (fun z0 z1 => K (.tup [.arr 5 32 z0, .int .i64 z1]) []))
  | _, _, _ => False
def D4_5 (k : Nat) : Nat → List (A PU) → List (AObj PU) → (A PU → List (AObj PU) → Prop) → Prop := fun nb vals objs K => match nb, vals, objs with
  | 0, [.int .i64 r5, .ro false 36 r6, .ro false 3 r7, .own 0, .int .i64 r8], [.lst 36 r9] => Hold (C_l05_SmtOrder_5 k r5 r6 r7 r8 r9 (fun z0 => K (.bool z0) []))
  | _, _, _ => False
def D4_6 (k : Nat) : Nat → List (A PU) → List (AObj PU) → (A PU → List (AObj PU) → Prop) → Prop := fun nb vals objs K => match nb, vals, objs with
  | 0, [.int .i64 r10, .ro false 36 r11, .ro false 3 r12, .own 0, .int .i64 r13], [.lst 36 r14] => Hold (C_l05_SmtOrder_6 k r10 r11 r12 r13 r14 (fun z0 => K (.bool z0) []))
  | _, _, _ => False
def D51_3 (k : Nat) : Nat → List (A PU) → List (AObj PU) → (A PU → List (AObj PU) → Prop) → Prop := fun nb vals objs K => match nb, vals, objs with
  | 0, [.tr 36 r5 [], .int .i64 r6, .ptr 0 []], [.box (.arr 5 32 r7)] => Hold (C_smt_knot_without_3 k r5 r6 r7 (fun z0 => K (.tr 36 z0 []) []))
  | _, _, _ => False
def D51_9 (k : Nat) : Nat → List (A PU) → List (AObj PU) → (A PU → List (AObj PU) → Prop) → Prop := fun nb vals objs K => match nb, vals, objs with
  | 0, [.ptr 0 []], [.box (.agg [.agg [.gh r12, .arr 5 32 r13], .agg [.arr 5 32 r14, .arr 5 32 r15], .tr 36 r16 [], .tr 36 r17 []])] => Hold (C_smt_knot_without_9 k r12 r13 r14 r15 r16 r17 (fun z0 => K (.tr 36 z0 []) []))
  | _, _, _ => False
def D51_11 (k : Nat) : Nat → List (A PU) → List (AObj PU) → (A PU → List (AObj PU) → Prop) → Prop := fun nb vals objs K => match nb, vals, objs with
  | 0, [.ptr 0 []], [.box (.agg [.agg [.gh r19, .arr 5 32 r20], .agg [.arr 5 32 r21, .arr 5 32 r22], .tr 36 r23 [], .tr 36 r24 []])] => Hold (C_smt_knot_without_11 k r19 r20 r21 r22 r23 r24 (fun z0 => K (.tr 36 z0 []) []))
  | _, _, _ => False
def D28_2 (k : Nat) : Nat → List (A PU) → List (AObj PU) → (A PU → List (AObj PU) → Prop) → Prop := fun nb vals objs K => match nb, vals, objs with
  | 0, [.nilp, .int .i64 r2], [] => Hold (C_l05_grows_2 k r2 (fun z0 => K (.bool z0) []))
  | 0, [.ptr 0 [], .int .i64 r7], [.box (.agg [.int .i64 r8, .int .i64 r9, .tr 36 r10 []])] => Hold (C_l05_grows_2_1 k r7 r8 r9 r10 (fun z0 => K (.bool z0) []))
  | _, _, _ => False
def D6_4 (k : Nat) : Nat → List (A PU) → List (AObj PU) → (A PU → List (AObj PU) → Prop) → Prop := fun nb vals objs K => match nb, vals, objs with
  | 0, [.ro false 36 r6, .ptr 0 [], .nilp, .int .i64 r7], [.box (.agg [.arr 5 32 r8, .arr 5 32 r9])] => Hold (C_l05_SmtBack_4 k r6 r7 r8 r9 (fun z0 => K (.bool z0) []))
  | 0, [.ro false 36 r16, .ptr 0 [], .ptr 1 [], .int .i64 r17], [.box (.agg [.arr 5 32 r18, .arr 5 32 r19]), .box (.agg [.int .i64 r20, .int .i64 r21, .tr 36 r22 []])] => Hold (C_l05_SmtBack_4_1 k r16 r17 r18 r19 r20 r21 r22 (fun z0 => K (.bool z0) []))
  | _, _, _ => False
def D33_3 (k : Nat) : Nat → List (A PU) → List (AObj PU) → (A PU → List (AObj PU) → Prop) → Prop := fun nb vals objs K => match nb, vals, objs with
  | 0, [.int .i64 r2, .own 0, .int .i64 r3], [.lst 36 r4] => Hold (C_l05_full_3 k r2 r3 r4 (fun z0 => K (.usl 36 z0) []))
  | _, _, _ => False
def D7_2 (k : Nat) : Nat → List (A PU) → List (AObj PU) → (A PU → List (AObj PU) → Prop) → Prop := fun nb vals objs K => match nb, vals, objs with
  | 0, [.int .i64 r5, .ptr 0 [], .nilp, .int .i64 r6], [.box (.agg [.arr 5 32 r7, .arr 5 32 r8])] => Hold (C_l05_SmtFull_2 k r5 r6 r7 r8 (fun z0 => K (.bool z0) []))
  | 0, [.int .i64 r15, .ptr 0 [], .ptr 1 [], .int .i64 r16], [.box (.agg [.arr 5 32 r17, .arr 5 32 r18]), .box (.agg [.int .i64 r19, .int .i64 r20, .tr 36 r21 []])] => Hold (C_l05_SmtFull_2_1 k r15 r16 r17 r18 r19 r20 r21 (fun z0 => K (.bool z0) []))
  | _, _, _ => False
def D9_7 (k : Nat) : Nat → List (A PU) → List (AObj PU) → (A PU → List (AObj PU) → Prop) → Prop := fun nb vals objs K => match nb, vals, objs with
  | 0, [.int .i64 r13, .ro false 36 r14, .ro false 24 r15, .ptr 0 [], .int .i64 r16], [.box (.agg [.int .i64 r17, .int .i64 r18, .tr 36 r19 []])] => Hold (C_l05_SmtGrows_7 k r13 r14 r15 r16 r17 r18 r19 (fun z0 => K (.bool z0) []))
  | _, _, _ => False
def D9_12 (k : Nat) : Nat → List (A PU) → List (AObj PU) → (A PU → List (AObj PU) → Prop) → Prop := fun nb vals objs K => match nb, vals, objs with
  | 0, [.int .i64 r24, .ro false 24 r25, .ptr 0 [], .int .i64 r26], [.box (.agg [.int .i64 r27, .int .i64 r28, .tr 36 r29 []])] => Hold (C_l05_SmtGrows_12 k r24 r25 r26 r27 r28 r29 (fun z0 => K (.bool z0) []))
  | _, _, _ => False
def D13_2 (k : Nat) : Nat → List (A PU) → List (AObj PU) → (A PU → List (AObj PU) → Prop) → Prop := fun nb vals objs K => match nb, vals, objs with
  | 0, [.ro false 36 r2, .int .i64 r3], [] => Hold (C_r05_Twice_2 k r2 r3 (fun z0 => K (.bool z0) []))
  | _, _, _ => False
def D13_5 (k : Nat) : Nat → List (A PU) → List (AObj PU) → (A PU → List (AObj PU) → Prop) → Prop := fun nb vals objs K => match nb, vals, objs with
  | 0, [.ro false 36 r4, .int .i64 r5, .int .i64 r6], [] => Hold (C_r05_Twice_5 k r4 r5 r6 (fun z0 => K (.bool z0) []))
  | _, _, _ => False
def D38_4 (k : Nat) : Nat → List (A PU) → List (AObj PU) → (A PU → List (AObj PU) → Prop) → Prop := fun nb vals objs K => match nb, vals, objs with
  | 0, [.ro true 36 r3, .ro true 36 r4, .int .i64 r5], [] => Hold (C_r05_Same_4 k r3 r4 r5 (fun z0 => K (.bool z0) []))
  | _, _, _ => False
def D10_5 (k : Nat) : Nat → List (A PU) → List (AObj PU) → (A PU → List (AObj PU) → Prop) → Prop := fun nb vals objs K => match nb, vals, objs with
  | 0, [.ro false 36 r6, .ro false 36 r7, .nilp, .int .i64 r8, .nilp, .int .i64 r9], [] => Hold (C_l05_SmtBatches_5 k r6 r7 r8 r9 (fun z0 => K (.bool z0) []))
  | 0, [.ro false 36 r16, .ro false 36 r17, .nilp, .int .i64 r18, .ptr 0 [], .int .i64 r19], [.box (.agg [.int .i64 r20, .int .i64 r21, .tr 36 r22 []])] => Hold (C_l05_SmtBatches_5_1 k r16 r17 r18 r19 r20 r21 r22 (fun z0 => K (.bool z0) []))
  | 0, [.ro false 36 r28, .ro false 36 r29, .ptr 0 [], .int .i64 r30, .nilp, .int .i64 r31], [.box (.agg [.int .i64 r32, .int .i64 r33, .tr 36 r34 []])] => Hold (C_l05_SmtBatches_5_1 k r28 r29 r30 r31 r32 r33 r34 (fun z0 => K (.bool z0) []))
  | 0, [.ro false 36 r39, .ro false 36 r40, .ptr 0 [], .int .i64 r41, .ptr 1 [], .int .i64 r42], [.box (.agg [.int .i64 r43, .int .i64 r44, .tr 36 r45 []]), .box (.agg [.int .i64 r46, .int .i64 r47, .tr 36 r48 []])] => Hold (C_l05_SmtBatches_5_3 k r39 r40 r41 r42 r43 r44 r45 r46 r47 r48 (fun z0 => K (.bool z0) []))
  | _, _, _ => False
def D10_6 (k : Nat) : Nat → List (A PU) → List (AObj PU) → (A PU → List (AObj PU) → Prop) → Prop := fun nb vals objs K => match nb, vals, objs with
  | 0, [], [] => Hold (C_l05_SmtBatches_6 k (fun z0 => K (.bool z0) []))
  | _, _, _ => False
def D10_8 (k : Nat) : Nat → List (A PU) → List (AObj PU) → (A PU → List (AObj PU) → Prop) → Prop := fun nb vals objs K => match nb, vals, objs with
  | 0, [.ro false 36 r53, .ro false 36 r54, .ptr 0 [], .ptr 1 [], .int .i64 r55], [.box (.agg [.int .i64 r56, .int .i64 r57, .tr 36 r58 []]), .box (.agg [.int .i64 r59, .int .i64 r60, .tr 36 r61 []])] => Hold (C_l05_SmtBatches_8 k r53 r54 r55 r56 r57 r58 r59 r60 r61 (fun z0 => K (.bool z0) []))
  | _, _, _ => False
def D10_18 (k : Nat) : Nat → List (A PU) → List (AObj PU) → (A PU → List (AObj PU) → Prop) → Prop := fun nb vals objs K => match nb, vals, objs with
  | 0, [.ro false 36 r85, .ptr 0 [], .ptr 1 [], .int .i64 r86], [.box (.agg [.int .i64 r87, .int .i64 r88, .tr 36 r89 []]), .box (.agg [.int .i64 r90, .int .i64 r91, .tr 36 r92 []])] => Hold (C_l05_SmtBatches_18 k r85 r86 r87 r88 r89 r90 r91 r92 (fun z0 => K (.bool z0) []))
  | _, _, _ => False
def PTr (k : Nat) : List (Nat × Fn PU) := [(15, T15 k), (39, T39 k), (26, T26 k), (27, T27 k), (29, T29 k), (61, T61 k), (89, T89 k), (73, T73 k), (64, T64 k), (63, T63 k), (62, T62 k), (46, T46 k), (49, T49 k), (76, T76 k), (67, T67 k), (50, T50 k), (30, T30 k), (47, T47 k), (55, T55 k), (78, T78 k), (69, T69 k), (56, T56 k), (57, T57 k), (40, T40 k), (43, T43 k), (24, T24 k), (22, T22 k), (66, T66 k), (20, T20 k), (48, T48 k), (11, T11 k), (35, T35 k), (36, T36 k), (14, T14 k), (4, T4 k), (51, T51 k), (32, T32 k), (31, T31 k), (28, T28 k), (6, T6 k), (12, T12 k), (33, T33 k), (7, T7 k), (34, T34 k), (8, T8 k), (53, T53 k), (52, T52 k), (9, T9 k), (13, T13 k), (38, T38 k), (17, T17 k), (10, T10 k)]
def PCr (k : Nat) : List (Nat × Nat × (Nat → List (A PU) → List (AObj PU) → (A PU → List (AObj PU) → Prop) → Prop)) := [(64, 2, D64_2 k), (46, 4, D46_4 k), (30, 5, D30_5 k), (30, 11, D30_11 k), (47, 3, D47_3 k), (47, 8, D47_8 k), (47, 9, D47_9 k), (27, 9, D27_9 k), (69, 2, D69_2 k), (69, 11, D69_11 k), (69, 14, D69_14 k), (69, 23, D69_23 k), (56, 3, D56_3 k), (57, 9, D57_9 k), (57, 15, D57_15 k), (40, 4, D40_4 k), (43, 4, D43_4 k), (11, 2, D11_2 k), (11, 3, D11_3 k), (11, 4, D11_4 k), (11, 5, D11_5 k), (11, 6, D11_6 k), (4, 5, D4_5 k), (4, 6, D4_6 k), (51, 3, D51_3 k), (51, 9, D51_9 k), (51, 11, D51_11 k), (28, 2, D28_2 k), (6, 4, D6_4 k), (33, 3, D33_3 k), (7, 2, D7_2 k), (9, 7, D9_7 k), (9, 12, D9_12 k), (13, 2, D13_2 k), (13, 5, D13_5 k), (38, 4, D38_4 k), (10, 5, D10_5 k), (10, 6, D10_6 k), (10, 8, D10_8 k), (10, 18, D10_18 k)]
def PT (k : Nat) : Tab PU := fun f => lookT f (PTr k)
def PC (k : Nat) : Cut PU := fun f id => lookC f id (PCr k)
theorem hrow62 (k : Nat) (l : List S_api_Leaf) (K : A PU → List (AObj PU) → Prop) (h : (100 ≤ k ∧ List.length l < 4611686018427387904) ∧ ∀ l9 : (List S_api_Leaf), List.Perm l9 l ∧ SortedL l9 → K (.tup []) [.lst 36 l9]) (TS : TSound PE (PT k)) : RowSound PE 62 [.own 0, .clo 63 []] [.lst 36 l] K :=
  hand62 l K TS h.1.2 h.2 fun a b K' hab hK => (Hold.mp (p := Hold (F_smt_twice_1 k a.f0 a.f1 b.f0 b.f1 (fun z0 => K' (.int .i64 z0) []))) (by kernel_rfl) ⟨cmp_s k hab.1 hab.2 (by have := h.1.1; omega) hK⟩).out
theorem hrow48 (k : Nat) (x : KT S_api_Leaf) (w : Int) (K : A PU → List (AObj PU) → Prop) (h : (digBound x ≤ k ∧ (0 ≤ w ∧ w ≤ 32) ∧ allG w x) ∧ K (.arr 5 32 (digT w x)) []) (TS : TSound PE (PT k)) : RowSound PE 48 [.tr 36 x [], .int .i64 w] [] K :=
  hand48 x w K TS h.1.2.1 h.1.2.2 h.2
    (fun K' hK => (Hold.mp (p := Hold (F_smt_Empty k w (fun z0 => K' (.arr 5 32 z0) []))) (by kernel_rfl) ⟨Empty_i k h.1.2.1 (by have := h.1.1; unfold digBound at this; omega) hK⟩).out)
    (fun g v l r dl K' e hK => (Hold.mp (p := Hold (F_smt_knot_digest_1 k w 0 1 0 dl v.f0 v.f1 l r (fun z0 z1 z2 z3 z4 z5 z6 z7 z8 => K' (.tup []) [.box (.ptr 2 []), .box (.int .i64 z0), .box (.agg [.agg [.agg [.int .u32 z1, .int .i32 z2, .int .u32 z3], .arr 5 32 z4], .agg [.arr 5 32 z5, .arr 5 32 z6], .tr 36 z7 [], .tr 36 z8 []])]))) (by kernel_rfl) ⟨digest_1_s k h.1.2.1 (e ▸ h.1.2.2) (e ▸ h.1.1) (by subst e; exact hK)⟩).out)
theorem fnok15 : fnOk PE.P 15 = true := by kernel_rfl
theorem fnok39 : fnOk PE.P 39 = true := by kernel_rfl
theorem fnok26 : fnOk PE.P 26 = true := by kernel_rfl
theorem fnok27 : fnOk PE.P 27 = true := by kernel_rfl
theorem fnok29 : fnOk PE.P 29 = true := by kernel_rfl
theorem fnok61 : fnOk PE.P 61 = true := by kernel_rfl
theorem fnok89 : fnOk PE.P 89 = true := by kernel_rfl
theorem fnok73 : fnOk PE.P 73 = true := by kernel_rfl
theorem fnok64 : fnOk PE.P 64 = true := by kernel_rfl
theorem fnok63 : fnOk PE.P 63 = true := by kernel_rfl
theorem fnok46 : fnOk PE.P 46 = true := by kernel_rfl
theorem fnok49 : fnOk PE.P 49 = true := by kernel_rfl
theorem fnok76 : fnOk PE.P 76 = true := by kernel_rfl
theorem fnok67 : fnOk PE.P 67 = true := by kernel_rfl
theorem fnok50 : fnOk PE.P 50 = true := by kernel_rfl
theorem fnok30 : fnOk PE.P 30 = true := by kernel_rfl
theorem fnok47 : fnOk PE.P 47 = true := by kernel_rfl
theorem fnok55 : fnOk PE.P 55 = true := by kernel_rfl
theorem fnok78 : fnOk PE.P 78 = true := by kernel_rfl
theorem fnok69 : fnOk PE.P 69 = true := by kernel_rfl
theorem fnok56 : fnOk PE.P 56 = true := by kernel_rfl
theorem fnok57 : fnOk PE.P 57 = true := by kernel_rfl
theorem fnok40 : fnOk PE.P 40 = true := by kernel_rfl
theorem fnok43 : fnOk PE.P 43 = true := by kernel_rfl
theorem fnok24 : fnOk PE.P 24 = true := by kernel_rfl
theorem fnok22 : fnOk PE.P 22 = true := by kernel_rfl
theorem fnok66 : fnOk PE.P 66 = true := by kernel_rfl
theorem fnok20 : fnOk PE.P 20 = true := by kernel_rfl
theorem fnok11 : fnOk PE.P 11 = true := by kernel_rfl
theorem fnok35 : fnOk PE.P 35 = true := by kernel_rfl
theorem fnok36 : fnOk PE.P 36 = true := by kernel_rfl
theorem fnok14 : fnOk PE.P 14 = true := by kernel_rfl
theorem fnok4 : fnOk PE.P 4 = true := by kernel_rfl
theorem fnok51 : fnOk PE.P 51 = true := by kernel_rfl
theorem fnok32 : fnOk PE.P 32 = true := by kernel_rfl
theorem fnok31 : fnOk PE.P 31 = true := by kernel_rfl
theorem fnok28 : fnOk PE.P 28 = true := by kernel_rfl
theorem fnok6 : fnOk PE.P 6 = true := by kernel_rfl
theorem fnok12 : fnOk PE.P 12 = true := by kernel_rfl
theorem fnok33 : fnOk PE.P 33 = true := by kernel_rfl
theorem fnok7 : fnOk PE.P 7 = true := by kernel_rfl
theorem fnok34 : fnOk PE.P 34 = true := by kernel_rfl
theorem fnok8 : fnOk PE.P 8 = true := by kernel_rfl
theorem fnok53 : fnOk PE.P 53 = true := by kernel_rfl
theorem fnok52 : fnOk PE.P 52 = true := by kernel_rfl
theorem fnok9 : fnOk PE.P 9 = true := by kernel_rfl
theorem fnok13 : fnOk PE.P 13 = true := by kernel_rfl
theorem fnok38 : fnOk PE.P 38 = true := by kernel_rfl
theorem fnok17 : fnOk PE.P 17 = true := by kernel_rfl
theorem fnok10 : fnOk PE.P 10 = true := by kernel_rfl
theorem T15_z (args : List (A PU)) (objs : List (AObj PU)) (K : A PU → List (AObj PU) → Prop) : ¬ T15 0 args objs K := by
  intro h; unfold T15 at h; split at h <;> (first | exact h | exact h.out)
theorem T15_ok (k : Nat) (args : List (A PU)) (objs : List (AObj PU)) (K : A PU → List (AObj PU) → Prop) (h : T15 (k + 1) args objs K) : RowOk PE (PT k) (PC k) 15 args objs K := by
  unfold T15 at h; split at h
  · exact .fn fnok15 rfl (Hold.mp (by kernel_rfl) h.out)
  · exact h.elim
theorem T39_z (args : List (A PU)) (objs : List (AObj PU)) (K : A PU → List (AObj PU) → Prop) : ¬ T39 0 args objs K := by
  intro h; unfold T39 at h; split at h <;> (first | exact h | exact h.out)
theorem T39_ok (k : Nat) (args : List (A PU)) (objs : List (AObj PU)) (K : A PU → List (AObj PU) → Prop) (h : T39 (k + 1) args objs K) : RowOk PE (PT k) (PC k) 39 args objs K := by
  unfold T39 at h; split at h
  · exact .fn fnok39 rfl (Hold.mp (by kernel_rfl) h.out)
  · exact h.elim
theorem T26_z (args : List (A PU)) (objs : List (AObj PU)) (K : A PU → List (AObj PU) → Prop) : ¬ T26 0 args objs K := by
  intro h; unfold T26 at h; split at h <;> (first | exact h | exact h.out)
theorem T26_ok (k : Nat) (args : List (A PU)) (objs : List (AObj PU)) (K : A PU → List (AObj PU) → Prop) (h : T26 (k + 1) args objs K) : RowOk PE (PT k) (PC k) 26 args objs K := by
  unfold T26 at h; split at h
  · exact .fn fnok26 rfl (Hold.mp (by kernel_rfl) h.out)
  · exact h.elim
theorem T27_z (args : List (A PU)) (objs : List (AObj PU)) (K : A PU → List (AObj PU) → Prop) : ¬ T27 0 args objs K := by
  intro h; unfold T27 at h; split at h <;> (first | exact h | exact h.out)
theorem T27_ok (k : Nat) (args : List (A PU)) (objs : List (AObj PU)) (K : A PU → List (AObj PU) → Prop) (h : T27 (k + 1) args objs K) : RowOk PE (PT k) (PC k) 27 args objs K := by
  unfold T27 at h; split at h
  · exact .fn fnok27 rfl (Hold.mp (by kernel_rfl) h.out)
  · exact .fn fnok27 rfl (Hold.mp (by kernel_rfl) h.out)
  · exact .fn fnok27 rfl (Hold.mp (by kernel_rfl) h.out)
  · exact .fn fnok27 rfl (Hold.mp (by kernel_rfl) h.out)
  · exact .fn fnok27 rfl (Hold.mp (by kernel_rfl) h.out)
  · exact .fn fnok27 rfl (Hold.mp (by kernel_rfl) h.out)
  · exact h.elim
theorem T29_z (args : List (A PU)) (objs : List (AObj PU)) (K : A PU → List (AObj PU) → Prop) : ¬ T29 0 args objs K := by
  intro h; unfold T29 at h; split at h <;> (first | exact h | exact h.out)
theorem T29_ok (k : Nat) (args : List (A PU)) (objs : List (AObj PU)) (K : A PU → List (AObj PU) → Prop) (h : T29 (k + 1) args objs K) : RowOk PE (PT k) (PC k) 29 args objs K := by
  unfold T29 at h; split at h
  · exact .fn fnok29 rfl (Hold.mp (by kernel_rfl) h.out)
  · exact .fn fnok29 rfl (Hold.mp (by kernel_rfl) h.out)
  · exact h.elim
theorem T61_z (args : List (A PU)) (objs : List (AObj PU)) (K : A PU → List (AObj PU) → Prop) : ¬ T61 0 args objs K := by
  intro h; unfold T61 at h; split at h <;> (first | exact h | exact h.out)
theorem T61_ok (k : Nat) (args : List (A PU)) (objs : List (AObj PU)) (K : A PU → List (AObj PU) → Prop) (h : T61 (k + 1) args objs K) : RowOk PE (PT k) (PC k) 61 args objs K := by
  unfold T61 at h; split at h
  · exact .fn fnok61 rfl (Hold.mp (by kernel_rfl) h.out)
  · exact .fn fnok61 rfl (Hold.mp (by kernel_rfl) h.out)
  · exact h.elim
theorem T89_z (args : List (A PU)) (objs : List (AObj PU)) (K : A PU → List (AObj PU) → Prop) : ¬ T89 0 args objs K := by
  intro h; unfold T89 at h; split at h <;> (first | exact h | exact h.out)
theorem T89_ok (k : Nat) (args : List (A PU)) (objs : List (AObj PU)) (K : A PU → List (AObj PU) → Prop) (h : T89 (k + 1) args objs K) : RowOk PE (PT k) (PC k) 89 args objs K := by
  unfold T89 at h; split at h
  · exact .fn fnok89 rfl (Hold.mp (by kernel_rfl) h.out)
  · exact h.elim
theorem T73_z (args : List (A PU)) (objs : List (AObj PU)) (K : A PU → List (AObj PU) → Prop) : ¬ T73 0 args objs K := by
  intro h; unfold T73 at h; split at h <;> (first | exact h | exact h.out)
theorem T73_ok (k : Nat) (args : List (A PU)) (objs : List (AObj PU)) (K : A PU → List (AObj PU) → Prop) (h : T73 (k + 1) args objs K) : RowOk PE (PT k) (PC k) 73 args objs K := by
  unfold T73 at h; split at h
  · exact .fn fnok73 rfl (Hold.mp (by kernel_rfl) h.out)
  · exact h.elim
theorem T64_z (args : List (A PU)) (objs : List (AObj PU)) (K : A PU → List (AObj PU) → Prop) : ¬ T64 0 args objs K := by
  intro h; unfold T64 at h; split at h <;> (first | exact h | exact h.out)
theorem T64_ok (k : Nat) (args : List (A PU)) (objs : List (AObj PU)) (K : A PU → List (AObj PU) → Prop) (h : T64 (k + 1) args objs K) : RowOk PE (PT k) (PC k) 64 args objs K := by
  unfold T64 at h; split at h
  · exact .fn fnok64 rfl (Hold.mp (by kernel_rfl) h.out)
  · exact h.elim
theorem T63_z (args : List (A PU)) (objs : List (AObj PU)) (K : A PU → List (AObj PU) → Prop) : ¬ T63 0 args objs K := by
  intro h; unfold T63 at h; split at h <;> (first | exact h | exact h.out)
theorem T63_ok (k : Nat) (args : List (A PU)) (objs : List (AObj PU)) (K : A PU → List (AObj PU) → Prop) (h : T63 (k + 1) args objs K) : RowOk PE (PT k) (PC k) 63 args objs K := by
  unfold T63 at h; split at h
  · exact .fn fnok63 rfl (Hold.mp (by kernel_rfl) h.out)
  · exact h.elim
theorem T62_z (args : List (A PU)) (objs : List (AObj PU)) (K : A PU → List (AObj PU) → Prop) : ¬ T62 0 args objs K := by
  intro h; unfold T62 at h; split at h <;> (first | exact h | exact h.out)
theorem T62_ok (k : Nat) (args : List (A PU)) (objs : List (AObj PU)) (K : A PU → List (AObj PU) → Prop) (h : T62 (k + 1) args objs K) : RowOk PE (PT k) (PC k) 62 args objs K := by
  unfold T62 at h; split at h
  · exact .row fun TS => hrow62 k _ _ (Hold.mp (by kernel_rfl) h.out).out TS
  · exact h.elim
theorem T46_z (args : List (A PU)) (objs : List (AObj PU)) (K : A PU → List (AObj PU) → Prop) : ¬ T46 0 args objs K := by
  intro h; unfold T46 at h; split at h <;> (first | exact h | exact h.out)
theorem T46_ok (k : Nat) (args : List (A PU)) (objs : List (AObj PU)) (K : A PU → List (AObj PU) → Prop) (h : T46 (k + 1) args objs K) : RowOk PE (PT k) (PC k) 46 args objs K := by
  unfold T46 at h; split at h
  · exact .fn fnok46 rfl (Hold.mp (by kernel_rfl) h.out)
  · exact .fn fnok46 rfl (Hold.mp (by kernel_rfl) h.out)
  · exact h.elim
theorem T49_z (args : List (A PU)) (objs : List (AObj PU)) (K : A PU → List (AObj PU) → Prop) : ¬ T49 0 args objs K := by
  intro h; unfold T49 at h; split at h <;> (first | exact h | exact h.out)
theorem T49_ok (k : Nat) (args : List (A PU)) (objs : List (AObj PU)) (K : A PU → List (AObj PU) → Prop) (h : T49 (k + 1) args objs K) : RowOk PE (PT k) (PC k) 49 args objs K := by
  unfold T49 at h; split at h
  · exact .fn fnok49 rfl (Hold.mp (by kernel_rfl) h.out)
  · exact .fn fnok49 rfl (Hold.mp (by kernel_rfl) h.out)
  · exact h.elim
theorem T76_z (args : List (A PU)) (objs : List (AObj PU)) (K : A PU → List (AObj PU) → Prop) : ¬ T76 0 args objs K := by
  intro h; unfold T76 at h; split at h <;> (first | exact h | exact h.out)
theorem T76_ok (k : Nat) (args : List (A PU)) (objs : List (AObj PU)) (K : A PU → List (AObj PU) → Prop) (h : T76 (k + 1) args objs K) : RowOk PE (PT k) (PC k) 76 args objs K := by
  unfold T76 at h; split at h
  · exact .fn fnok76 rfl (Hold.mp (by kernel_rfl) h.out)
  · exact h.elim
theorem T67_z (args : List (A PU)) (objs : List (AObj PU)) (K : A PU → List (AObj PU) → Prop) : ¬ T67 0 args objs K := by
  intro h; unfold T67 at h; split at h <;> (first | exact h | exact h.out)
theorem T67_ok (k : Nat) (args : List (A PU)) (objs : List (AObj PU)) (K : A PU → List (AObj PU) → Prop) (h : T67 (k + 1) args objs K) : RowOk PE (PT k) (PC k) 67 args objs K := by
  unfold T67 at h; split at h
  · exact .fn fnok67 rfl (Hold.mp (by kernel_rfl) h.out)
  · exact h.elim
theorem T50_z (args : List (A PU)) (objs : List (AObj PU)) (K : A PU → List (AObj PU) → Prop) : ¬ T50 0 args objs K := by
  intro h; unfold T50 at h; split at h <;> (first | exact h | exact h.out)
theorem T50_ok (k : Nat) (args : List (A PU)) (objs : List (AObj PU)) (K : A PU → List (AObj PU) → Prop) (h : T50 (k + 1) args objs K) : RowOk PE (PT k) (PC k) 50 args objs K := by
  unfold T50 at h; split at h
  · exact .fn fnok50 rfl (Hold.mp (by kernel_rfl) h.out)
  · exact h.elim
theorem T30_z (args : List (A PU)) (objs : List (AObj PU)) (K : A PU → List (AObj PU) → Prop) : ¬ T30 0 args objs K := by
  intro h; unfold T30 at h; split at h <;> (first | exact h | exact h.out)
theorem T30_ok (k : Nat) (args : List (A PU)) (objs : List (AObj PU)) (K : A PU → List (AObj PU) → Prop) (h : T30 (k + 1) args objs K) : RowOk PE (PT k) (PC k) 30 args objs K := by
  unfold T30 at h; split at h
  · exact .fn fnok30 rfl (Hold.mp (by kernel_rfl) h.out)
  · exact .fn fnok30 rfl (Hold.mp (by kernel_rfl) h.out)
  · exact h.elim
theorem T47_z (args : List (A PU)) (objs : List (AObj PU)) (K : A PU → List (AObj PU) → Prop) : ¬ T47 0 args objs K := by
  intro h; unfold T47 at h; split at h <;> (first | exact h | exact h.out)
theorem T47_ok (k : Nat) (args : List (A PU)) (objs : List (AObj PU)) (K : A PU → List (AObj PU) → Prop) (h : T47 (k + 1) args objs K) : RowOk PE (PT k) (PC k) 47 args objs K := by
  unfold T47 at h; split at h
  · exact .fn fnok47 rfl (Hold.mp (by kernel_rfl) h.out)
  · exact h.elim
theorem T55_z (args : List (A PU)) (objs : List (AObj PU)) (K : A PU → List (AObj PU) → Prop) : ¬ T55 0 args objs K := by
  intro h; unfold T55 at h; split at h <;> (first | exact h | exact h.out)
theorem T55_ok (k : Nat) (args : List (A PU)) (objs : List (AObj PU)) (K : A PU → List (AObj PU) → Prop) (h : T55 (k + 1) args objs K) : RowOk PE (PT k) (PC k) 55 args objs K := by
  unfold T55 at h; split at h
  · exact .fn fnok55 rfl (Hold.mp (by kernel_rfl) h.out)
  · exact h.elim
theorem T78_z (args : List (A PU)) (objs : List (AObj PU)) (K : A PU → List (AObj PU) → Prop) : ¬ T78 0 args objs K := by
  intro h; unfold T78 at h; split at h <;> (first | exact h | exact h.out)
theorem T78_ok (k : Nat) (args : List (A PU)) (objs : List (AObj PU)) (K : A PU → List (AObj PU) → Prop) (h : T78 (k + 1) args objs K) : RowOk PE (PT k) (PC k) 78 args objs K := by
  unfold T78 at h; split at h
  · exact .fn fnok78 rfl (Hold.mp (by kernel_rfl) h.out)
  · exact h.elim
theorem T69_z (args : List (A PU)) (objs : List (AObj PU)) (K : A PU → List (AObj PU) → Prop) : ¬ T69 0 args objs K := by
  intro h; unfold T69 at h; split at h <;> (first | exact h | exact h.out)
theorem T69_ok (k : Nat) (args : List (A PU)) (objs : List (AObj PU)) (K : A PU → List (AObj PU) → Prop) (h : T69 (k + 1) args objs K) : RowOk PE (PT k) (PC k) 69 args objs K := by
  unfold T69 at h; split at h
  · exact .fn fnok69 rfl (Hold.mp (by kernel_rfl) h.out)
  · exact h.elim
theorem T56_z (args : List (A PU)) (objs : List (AObj PU)) (K : A PU → List (AObj PU) → Prop) : ¬ T56 0 args objs K := by
  intro h; unfold T56 at h; split at h <;> (first | exact h | exact h.out)
theorem T56_ok (k : Nat) (args : List (A PU)) (objs : List (AObj PU)) (K : A PU → List (AObj PU) → Prop) (h : T56 (k + 1) args objs K) : RowOk PE (PT k) (PC k) 56 args objs K := by
  unfold T56 at h; split at h
  · exact .fn fnok56 rfl (Hold.mp (by kernel_rfl) h.out)
  · exact h.elim
theorem T57_z (args : List (A PU)) (objs : List (AObj PU)) (K : A PU → List (AObj PU) → Prop) : ¬ T57 0 args objs K := by
  intro h; unfold T57 at h; split at h <;> (first | exact h | exact h.out)
theorem T57_ok (k : Nat) (args : List (A PU)) (objs : List (AObj PU)) (K : A PU → List (AObj PU) → Prop) (h : T57 (k + 1) args objs K) : RowOk PE (PT k) (PC k) 57 args objs K := by
  unfold T57 at h; split at h
  · exact .fn fnok57 rfl (Hold.mp (by kernel_rfl) h.out)
  · exact h.elim
theorem T40_z (args : List (A PU)) (objs : List (AObj PU)) (K : A PU → List (AObj PU) → Prop) : ¬ T40 0 args objs K := by
  intro h; unfold T40 at h; split at h <;> (first | exact h | exact h.out)
theorem T40_ok (k : Nat) (args : List (A PU)) (objs : List (AObj PU)) (K : A PU → List (AObj PU) → Prop) (h : T40 (k + 1) args objs K) : RowOk PE (PT k) (PC k) 40 args objs K := by
  unfold T40 at h; split at h
  · exact .fn fnok40 rfl (Hold.mp (by kernel_rfl) h.out)
  · exact h.elim
theorem T43_z (args : List (A PU)) (objs : List (AObj PU)) (K : A PU → List (AObj PU) → Prop) : ¬ T43 0 args objs K := by
  intro h; unfold T43 at h; split at h <;> (first | exact h | exact h.out)
theorem T43_ok (k : Nat) (args : List (A PU)) (objs : List (AObj PU)) (K : A PU → List (AObj PU) → Prop) (h : T43 (k + 1) args objs K) : RowOk PE (PT k) (PC k) 43 args objs K := by
  unfold T43 at h; split at h
  · exact .fn fnok43 rfl (Hold.mp (by kernel_rfl) h.out)
  · exact .fn fnok43 rfl (Hold.mp (by kernel_rfl) h.out)
  · exact h.elim
theorem T24_z (args : List (A PU)) (objs : List (AObj PU)) (K : A PU → List (AObj PU) → Prop) : ¬ T24 0 args objs K := by
  intro h; unfold T24 at h; split at h <;> (first | exact h | exact h.out)
theorem T24_ok (k : Nat) (args : List (A PU)) (objs : List (AObj PU)) (K : A PU → List (AObj PU) → Prop) (h : T24 (k + 1) args objs K) : RowOk PE (PT k) (PC k) 24 args objs K := by
  unfold T24 at h; split at h
  · exact .fn fnok24 rfl (Hold.mp (by kernel_rfl) h.out)
  · exact h.elim
theorem T22_z (args : List (A PU)) (objs : List (AObj PU)) (K : A PU → List (AObj PU) → Prop) : ¬ T22 0 args objs K := by
  intro h; unfold T22 at h; split at h <;> (first | exact h | exact h.out)
theorem T22_ok (k : Nat) (args : List (A PU)) (objs : List (AObj PU)) (K : A PU → List (AObj PU) → Prop) (h : T22 (k + 1) args objs K) : RowOk PE (PT k) (PC k) 22 args objs K := by
  unfold T22 at h; split at h
  · exact .fn fnok22 rfl (Hold.mp (by kernel_rfl) h.out)
  · exact h.elim
theorem T66_z (args : List (A PU)) (objs : List (AObj PU)) (K : A PU → List (AObj PU) → Prop) : ¬ T66 0 args objs K := by
  intro h; unfold T66 at h; split at h <;> (first | exact h | exact h.out)
theorem T66_ok (k : Nat) (args : List (A PU)) (objs : List (AObj PU)) (K : A PU → List (AObj PU) → Prop) (h : T66 (k + 1) args objs K) : RowOk PE (PT k) (PC k) 66 args objs K := by
  unfold T66 at h; split at h
  · exact .fn fnok66 rfl (Hold.mp (by kernel_rfl) h.out)
  · exact h.elim
theorem T20_z (args : List (A PU)) (objs : List (AObj PU)) (K : A PU → List (AObj PU) → Prop) : ¬ T20 0 args objs K := by
  intro h; unfold T20 at h; split at h <;> (first | exact h | exact h.out)
theorem T20_ok (k : Nat) (args : List (A PU)) (objs : List (AObj PU)) (K : A PU → List (AObj PU) → Prop) (h : T20 (k + 1) args objs K) : RowOk PE (PT k) (PC k) 20 args objs K := by
  unfold T20 at h; split at h
  · exact .fn fnok20 rfl (Hold.mp (by kernel_rfl) h.out)
  · exact h.elim
theorem T48_z (args : List (A PU)) (objs : List (AObj PU)) (K : A PU → List (AObj PU) → Prop) : ¬ T48 0 args objs K := by
  intro h; unfold T48 at h; split at h <;> (first | exact h | exact h.out)
theorem T48_ok (k : Nat) (args : List (A PU)) (objs : List (AObj PU)) (K : A PU → List (AObj PU) → Prop) (h : T48 (k + 1) args objs K) : RowOk PE (PT k) (PC k) 48 args objs K := by
  unfold T48 at h; split at h
  · exact .row fun TS => hrow48 k _ _ _ (Hold.mp (by kernel_rfl) h.out).out TS
  · exact h.elim
theorem T11_z (args : List (A PU)) (objs : List (AObj PU)) (K : A PU → List (AObj PU) → Prop) : ¬ T11 0 args objs K := by
  intro h; unfold T11 at h; split at h <;> (first | exact h | exact h.out)
theorem T11_ok (k : Nat) (args : List (A PU)) (objs : List (AObj PU)) (K : A PU → List (AObj PU) → Prop) (h : T11 (k + 1) args objs K) : RowOk PE (PT k) (PC k) 11 args objs K := by
  unfold T11 at h; split at h
  · exact .fn fnok11 rfl (Hold.mp (by kernel_rfl) h.out)
  · exact .fn fnok11 rfl (Hold.mp (by kernel_rfl) h.out)
  · exact h.elim
theorem T35_z (args : List (A PU)) (objs : List (AObj PU)) (K : A PU → List (AObj PU) → Prop) : ¬ T35 0 args objs K := by
  intro h; unfold T35 at h; split at h <;> (first | exact h | exact h.out)
theorem T35_ok (k : Nat) (args : List (A PU)) (objs : List (AObj PU)) (K : A PU → List (AObj PU) → Prop) (h : T35 (k + 1) args objs K) : RowOk PE (PT k) (PC k) 35 args objs K := by
  unfold T35 at h; split at h
  · exact .fn fnok35 rfl (Hold.mp (by kernel_rfl) h.out)
  · exact h.elim
theorem T36_z (args : List (A PU)) (objs : List (AObj PU)) (K : A PU → List (AObj PU) → Prop) : ¬ T36 0 args objs K := by
  intro h; unfold T36 at h; split at h <;> (first | exact h | exact h.out)
theorem T36_ok (k : Nat) (args : List (A PU)) (objs : List (AObj PU)) (K : A PU → List (AObj PU) → Prop) (h : T36 (k + 1) args objs K) : RowOk PE (PT k) (PC k) 36 args objs K := by
  unfold T36 at h; split at h
  · exact .fn fnok36 rfl (Hold.mp (by kernel_rfl) h.out)
  · exact h.elim
theorem T14_z (args : List (A PU)) (objs : List (AObj PU)) (K : A PU → List (AObj PU) → Prop) : ¬ T14 0 args objs K := by
  intro h; unfold T14 at h; split at h <;> (first | exact h | exact h.out)
theorem T14_ok (k : Nat) (args : List (A PU)) (objs : List (AObj PU)) (K : A PU → List (AObj PU) → Prop) (h : T14 (k + 1) args objs K) : RowOk PE (PT k) (PC k) 14 args objs K := by
  unfold T14 at h; split at h
  · exact .fn fnok14 rfl (Hold.mp (by kernel_rfl) h.out)
  · exact h.elim
theorem T4_z (args : List (A PU)) (objs : List (AObj PU)) (K : A PU → List (AObj PU) → Prop) : ¬ T4 0 args objs K := by
  intro h; unfold T4 at h; split at h <;> (first | exact h | exact h.out)
theorem T4_ok (k : Nat) (args : List (A PU)) (objs : List (AObj PU)) (K : A PU → List (AObj PU) → Prop) (h : T4 (k + 1) args objs K) : RowOk PE (PT k) (PC k) 4 args objs K := by
  unfold T4 at h; split at h
  · exact .fn fnok4 rfl (Hold.mp (by kernel_rfl) h.out)
  · exact h.elim
theorem T51_z (args : List (A PU)) (objs : List (AObj PU)) (K : A PU → List (AObj PU) → Prop) : ¬ T51 0 args objs K := by
  intro h; unfold T51 at h; split at h <;> (first | exact h | exact h.out)
theorem T51_ok (k : Nat) (args : List (A PU)) (objs : List (AObj PU)) (K : A PU → List (AObj PU) → Prop) (h : T51 (k + 1) args objs K) : RowOk PE (PT k) (PC k) 51 args objs K := by
  unfold T51 at h; split at h
  · exact .fn fnok51 rfl (Hold.mp (by kernel_rfl) h.out)
  · exact h.elim
theorem T32_z (args : List (A PU)) (objs : List (AObj PU)) (K : A PU → List (AObj PU) → Prop) : ¬ T32 0 args objs K := by
  intro h; unfold T32 at h; split at h <;> (first | exact h | exact h.out)
theorem T32_ok (k : Nat) (args : List (A PU)) (objs : List (AObj PU)) (K : A PU → List (AObj PU) → Prop) (h : T32 (k + 1) args objs K) : RowOk PE (PT k) (PC k) 32 args objs K := by
  unfold T32 at h; split at h
  · exact .fn fnok32 rfl (Hold.mp (by kernel_rfl) h.out)
  · exact .fn fnok32 rfl (Hold.mp (by kernel_rfl) h.out)
  · exact h.elim
theorem T31_z (args : List (A PU)) (objs : List (AObj PU)) (K : A PU → List (AObj PU) → Prop) : ¬ T31 0 args objs K := by
  intro h; unfold T31 at h; split at h <;> (first | exact h | exact h.out)
theorem T31_ok (k : Nat) (args : List (A PU)) (objs : List (AObj PU)) (K : A PU → List (AObj PU) → Prop) (h : T31 (k + 1) args objs K) : RowOk PE (PT k) (PC k) 31 args objs K := by
  unfold T31 at h; split at h
  · exact .fn fnok31 rfl (Hold.mp (by kernel_rfl) h.out)
  · exact .fn fnok31 rfl (Hold.mp (by kernel_rfl) h.out)
  · exact h.elim
theorem T28_z (args : List (A PU)) (objs : List (AObj PU)) (K : A PU → List (AObj PU) → Prop) : ¬ T28 0 args objs K := by
  intro h; unfold T28 at h; split at h <;> (first | exact h | exact h.out)
theorem T28_ok (k : Nat) (args : List (A PU)) (objs : List (AObj PU)) (K : A PU → List (AObj PU) → Prop) (h : T28 (k + 1) args objs K) : RowOk PE (PT k) (PC k) 28 args objs K := by
  unfold T28 at h; split at h
  · exact .fn fnok28 rfl (Hold.mp (by kernel_rfl) h.out)
  · exact h.elim
theorem T6_z (args : List (A PU)) (objs : List (AObj PU)) (K : A PU → List (AObj PU) → Prop) : ¬ T6 0 args objs K := by
  intro h; unfold T6 at h; split at h <;> (first | exact h | exact h.out)
theorem T6_ok (k : Nat) (args : List (A PU)) (objs : List (AObj PU)) (K : A PU → List (AObj PU) → Prop) (h : T6 (k + 1) args objs K) : RowOk PE (PT k) (PC k) 6 args objs K := by
  unfold T6 at h; split at h
  · exact .fn fnok6 rfl (Hold.mp (by kernel_rfl) h.out)
  · exact h.elim
theorem T12_z (args : List (A PU)) (objs : List (AObj PU)) (K : A PU → List (AObj PU) → Prop) : ¬ T12 0 args objs K := by
  intro h; unfold T12 at h; split at h <;> (first | exact h | exact h.out)
theorem T12_ok (k : Nat) (args : List (A PU)) (objs : List (AObj PU)) (K : A PU → List (AObj PU) → Prop) (h : T12 (k + 1) args objs K) : RowOk PE (PT k) (PC k) 12 args objs K := by
  unfold T12 at h; split at h
  · exact .fn fnok12 rfl (Hold.mp (by kernel_rfl) h.out)
  · exact h.elim
theorem T33_z (args : List (A PU)) (objs : List (AObj PU)) (K : A PU → List (AObj PU) → Prop) : ¬ T33 0 args objs K := by
  intro h; unfold T33 at h; split at h <;> (first | exact h | exact h.out)
theorem T33_ok (k : Nat) (args : List (A PU)) (objs : List (AObj PU)) (K : A PU → List (AObj PU) → Prop) (h : T33 (k + 1) args objs K) : RowOk PE (PT k) (PC k) 33 args objs K := by
  unfold T33 at h; split at h
  · exact .fn fnok33 rfl (Hold.mp (by kernel_rfl) h.out)
  · exact h.elim
theorem T7_z (args : List (A PU)) (objs : List (AObj PU)) (K : A PU → List (AObj PU) → Prop) : ¬ T7 0 args objs K := by
  intro h; unfold T7 at h; split at h <;> (first | exact h | exact h.out)
theorem T7_ok (k : Nat) (args : List (A PU)) (objs : List (AObj PU)) (K : A PU → List (AObj PU) → Prop) (h : T7 (k + 1) args objs K) : RowOk PE (PT k) (PC k) 7 args objs K := by
  unfold T7 at h; split at h
  · exact .fn fnok7 rfl (Hold.mp (by kernel_rfl) h.out)
  · exact h.elim
theorem T34_z (args : List (A PU)) (objs : List (AObj PU)) (K : A PU → List (AObj PU) → Prop) : ¬ T34 0 args objs K := by
  intro h; unfold T34 at h; split at h <;> (first | exact h | exact h.out)
theorem T34_ok (k : Nat) (args : List (A PU)) (objs : List (AObj PU)) (K : A PU → List (AObj PU) → Prop) (h : T34 (k + 1) args objs K) : RowOk PE (PT k) (PC k) 34 args objs K := by
  unfold T34 at h; split at h
  · exact .fn fnok34 rfl (Hold.mp (by kernel_rfl) h.out)
  · exact .fn fnok34 rfl (Hold.mp (by kernel_rfl) h.out)
  · exact h.elim
theorem T8_z (args : List (A PU)) (objs : List (AObj PU)) (K : A PU → List (AObj PU) → Prop) : ¬ T8 0 args objs K := by
  intro h; unfold T8 at h; split at h <;> (first | exact h | exact h.out)
theorem T8_ok (k : Nat) (args : List (A PU)) (objs : List (AObj PU)) (K : A PU → List (AObj PU) → Prop) (h : T8 (k + 1) args objs K) : RowOk PE (PT k) (PC k) 8 args objs K := by
  unfold T8 at h; split at h
  · exact .fn fnok8 rfl (Hold.mp (by kernel_rfl) h.out)
  · exact h.elim
theorem T53_z (args : List (A PU)) (objs : List (AObj PU)) (K : A PU → List (AObj PU) → Prop) : ¬ T53 0 args objs K := by
  intro h; unfold T53 at h; split at h <;> (first | exact h | exact h.out)
theorem T53_ok (k : Nat) (args : List (A PU)) (objs : List (AObj PU)) (K : A PU → List (AObj PU) → Prop) (h : T53 (k + 1) args objs K) : RowOk PE (PT k) (PC k) 53 args objs K := by
  unfold T53 at h; split at h
  · exact .fn fnok53 rfl (Hold.mp (by kernel_rfl) h.out)
  · exact h.elim
theorem T52_z (args : List (A PU)) (objs : List (AObj PU)) (K : A PU → List (AObj PU) → Prop) : ¬ T52 0 args objs K := by
  intro h; unfold T52 at h; split at h <;> (first | exact h | exact h.out)
theorem T52_ok (k : Nat) (args : List (A PU)) (objs : List (AObj PU)) (K : A PU → List (AObj PU) → Prop) (h : T52 (k + 1) args objs K) : RowOk PE (PT k) (PC k) 52 args objs K := by
  unfold T52 at h; split at h
  · exact .fn fnok52 rfl (Hold.mp (by kernel_rfl) h.out)
  · exact h.elim
theorem T9_z (args : List (A PU)) (objs : List (AObj PU)) (K : A PU → List (AObj PU) → Prop) : ¬ T9 0 args objs K := by
  intro h; unfold T9 at h; split at h <;> (first | exact h | exact h.out)
theorem T9_ok (k : Nat) (args : List (A PU)) (objs : List (AObj PU)) (K : A PU → List (AObj PU) → Prop) (h : T9 (k + 1) args objs K) : RowOk PE (PT k) (PC k) 9 args objs K := by
  unfold T9 at h; split at h
  · exact .fn fnok9 rfl (Hold.mp (by kernel_rfl) h.out)
  · exact h.elim
theorem T13_z (args : List (A PU)) (objs : List (AObj PU)) (K : A PU → List (AObj PU) → Prop) : ¬ T13 0 args objs K := by
  intro h; unfold T13 at h; split at h <;> (first | exact h | exact h.out)
theorem T13_ok (k : Nat) (args : List (A PU)) (objs : List (AObj PU)) (K : A PU → List (AObj PU) → Prop) (h : T13 (k + 1) args objs K) : RowOk PE (PT k) (PC k) 13 args objs K := by
  unfold T13 at h; split at h
  · exact .fn fnok13 rfl (Hold.mp (by kernel_rfl) h.out)
  · exact h.elim
theorem T38_z (args : List (A PU)) (objs : List (AObj PU)) (K : A PU → List (AObj PU) → Prop) : ¬ T38 0 args objs K := by
  intro h; unfold T38 at h; split at h <;> (first | exact h | exact h.out)
theorem T38_ok (k : Nat) (args : List (A PU)) (objs : List (AObj PU)) (K : A PU → List (AObj PU) → Prop) (h : T38 (k + 1) args objs K) : RowOk PE (PT k) (PC k) 38 args objs K := by
  unfold T38 at h; split at h
  · exact .fn fnok38 rfl (Hold.mp (by kernel_rfl) h.out)
  · exact h.elim
theorem T17_z (args : List (A PU)) (objs : List (AObj PU)) (K : A PU → List (AObj PU) → Prop) : ¬ T17 0 args objs K := by
  intro h; unfold T17 at h; split at h <;> (first | exact h | exact h.out)
theorem T17_ok (k : Nat) (args : List (A PU)) (objs : List (AObj PU)) (K : A PU → List (AObj PU) → Prop) (h : T17 (k + 1) args objs K) : RowOk PE (PT k) (PC k) 17 args objs K := by
  unfold T17 at h; split at h
  · exact .fn fnok17 rfl (Hold.mp (by kernel_rfl) h.out)
  · exact h.elim
theorem T10_z (args : List (A PU)) (objs : List (AObj PU)) (K : A PU → List (AObj PU) → Prop) : ¬ T10 0 args objs K := by
  intro h; unfold T10 at h; split at h <;> (first | exact h | exact h.out)
theorem T10_ok (k : Nat) (args : List (A PU)) (objs : List (AObj PU)) (K : A PU → List (AObj PU) → Prop) (h : T10 (k + 1) args objs K) : RowOk PE (PT k) (PC k) 10 args objs K := by
  unfold T10 at h; split at h
  · exact .fn fnok10 rfl (Hold.mp (by kernel_rfl) h.out)
  · exact h.elim
theorem D64_2_z (nb : Nat) (vals : List (A PU)) (objs : List (AObj PU)) (K : A PU → List (AObj PU) → Prop) : ¬ D64_2 0 nb vals objs K := by
  intro h; unfold D64_2 at h; split at h <;> (first | exact h | exact h.out)
theorem D64_2_ok (k : Nat) (live : List Nat) (hl : cutOf 64 2 PE.cuts = some live) (nb : Nat) (vals : List (A PU)) (objs : List (AObj PU)) (K : A PU → List (AObj PU) → Prop) (h : D64_2 (k + 1) nb vals objs K) : fnOk PE.P 64 = true ∧ Hold (vcut PE (PT k) (PC k) 64 2 live nb vals objs K) := by
  obtain rfl : live = [0, 1, 9, 10, 11] := Option.some.inj (hl.symm.trans (by kernel_rfl : cutOf 64 2 PE.cuts = some [0, 1, 9, 10, 11]))
  refine ⟨fnok64, ?_⟩; unfold D64_2 at h; split at h
  · exact Hold.mp (by kernel_rfl) h.out
  · exact h.elim
theorem D46_4_z (nb : Nat) (vals : List (A PU)) (objs : List (AObj PU)) (K : A PU → List (AObj PU) → Prop) : ¬ D46_4 0 nb vals objs K := by
  intro h; unfold D46_4 at h; split at h <;> (first | exact h | exact h.out)
theorem D46_4_ok (k : Nat) (live : List Nat) (hl : cutOf 46 4 PE.cuts = some live) (nb : Nat) (vals : List (A PU)) (objs : List (AObj PU)) (K : A PU → List (AObj PU) → Prop) (h : D46_4 (k + 1) nb vals objs K) : fnOk PE.P 46 = true ∧ Hold (vcut PE (PT k) (PC k) 46 4 live nb vals objs K) := by
  obtain rfl : live = [0, 9, 10] := Option.some.inj (hl.symm.trans (by kernel_rfl : cutOf 46 4 PE.cuts = some [0, 9, 10]))
  refine ⟨fnok46, ?_⟩; unfold D46_4 at h; split at h
  · exact Hold.mp (by kernel_rfl) h.out
  · exact h.elim
theorem D30_5_z (nb : Nat) (vals : List (A PU)) (objs : List (AObj PU)) (K : A PU → List (AObj PU) → Prop) : ¬ D30_5 0 nb vals objs K := by
  intro h; unfold D30_5 at h; split at h <;> (first | exact h | exact h.out)
theorem D30_5_ok (k : Nat) (live : List Nat) (hl : cutOf 30 5 PE.cuts = some live) (nb : Nat) (vals : List (A PU)) (objs : List (AObj PU)) (K : A PU → List (AObj PU) → Prop) (h : D30_5 (k + 1) nb vals objs K) : fnOk PE.P 30 = true ∧ Hold (vcut PE (PT k) (PC k) 30 5 live nb vals objs K) := by
  obtain rfl : live = [3, 4, 6, 7] := Option.some.inj (hl.symm.trans (by kernel_rfl : cutOf 30 5 PE.cuts = some [3, 4, 6, 7]))
  refine ⟨fnok30, ?_⟩; unfold D30_5 at h; split at h
  · exact Hold.mp (by kernel_rfl) h.out
  · exact h.elim
theorem D30_11_z (nb : Nat) (vals : List (A PU)) (objs : List (AObj PU)) (K : A PU → List (AObj PU) → Prop) : ¬ D30_11 0 nb vals objs K := by
  intro h; unfold D30_11 at h; split at h <;> (first | exact h | exact h.out)
theorem D30_11_ok (k : Nat) (live : List Nat) (hl : cutOf 30 11 PE.cuts = some live) (nb : Nat) (vals : List (A PU)) (objs : List (AObj PU)) (K : A PU → List (AObj PU) → Prop) (h : D30_11 (k + 1) nb vals objs K) : fnOk PE.P 30 = true ∧ Hold (vcut PE (PT k) (PC k) 30 11 live nb vals objs K) := by
  obtain rfl : live = [4] := Option.some.inj (hl.symm.trans (by kernel_rfl : cutOf 30 11 PE.cuts = some [4]))
  refine ⟨fnok30, ?_⟩; unfold D30_11 at h; split at h
  · exact Hold.mp (by kernel_rfl) h.out
  · exact h.elim
theorem D47_3_z (nb : Nat) (vals : List (A PU)) (objs : List (AObj PU)) (K : A PU → List (AObj PU) → Prop) : ¬ D47_3 0 nb vals objs K := by
  intro h; unfold D47_3 at h; split at h <;> (first | exact h | exact h.out)
theorem D47_3_ok (k : Nat) (live : List Nat) (hl : cutOf 47 3 PE.cuts = some live) (nb : Nat) (vals : List (A PU)) (objs : List (AObj PU)) (K : A PU → List (AObj PU) → Prop) (h : D47_3 (k + 1) nb vals objs K) : fnOk PE.P 47 = true ∧ Hold (vcut PE (PT k) (PC k) 47 3 live nb vals objs K) := by
  obtain rfl : live = [0, 2, 4] := Option.some.inj (hl.symm.trans (by kernel_rfl : cutOf 47 3 PE.cuts = some [0, 2, 4]))
  refine ⟨fnok47, ?_⟩; unfold D47_3 at h; split at h
  · exact Hold.mp (by kernel_rfl) h.out
  · exact h.elim
theorem D47_8_z (nb : Nat) (vals : List (A PU)) (objs : List (AObj PU)) (K : A PU → List (AObj PU) → Prop) : ¬ D47_8 0 nb vals objs K := by
  intro h; unfold D47_8 at h; split at h <;> (first | exact h | exact h.out)
theorem D47_8_ok (k : Nat) (live : List Nat) (hl : cutOf 47 8 PE.cuts = some live) (nb : Nat) (vals : List (A PU)) (objs : List (AObj PU)) (K : A PU → List (AObj PU) → Prop) (h : D47_8 (k + 1) nb vals objs K) : fnOk PE.P 47 = true ∧ Hold (vcut PE (PT k) (PC k) 47 8 live nb vals objs K) := by
  obtain rfl : live = [0, 2, 4] := Option.some.inj (hl.symm.trans (by kernel_rfl : cutOf 47 8 PE.cuts = some [0, 2, 4]))
  refine ⟨fnok47, ?_⟩; unfold D47_8 at h; split at h
  · exact Hold.mp (by kernel_rfl) h.out
  · exact Hold.mp (by kernel_rfl) h.out
  · exact h.elim
theorem D47_9_z (nb : Nat) (vals : List (A PU)) (objs : List (AObj PU)) (K : A PU → List (AObj PU) → Prop) : ¬ D47_9 0 nb vals objs K := by
  intro h; unfold D47_9 at h; split at h <;> (first | exact h | exact h.out)
theorem D47_9_ok (k : Nat) (live : List Nat) (hl : cutOf 47 9 PE.cuts = some live) (nb : Nat) (vals : List (A PU)) (objs : List (AObj PU)) (K : A PU → List (AObj PU) → Prop) (h : D47_9 (k + 1) nb vals objs K) : fnOk PE.P 47 = true ∧ Hold (vcut PE (PT k) (PC k) 47 9 live nb vals objs K) := by
  obtain rfl : live = [2, 4, 8] := Option.some.inj (hl.symm.trans (by kernel_rfl : cutOf 47 9 PE.cuts = some [2, 4, 8]))
  refine ⟨fnok47, ?_⟩; unfold D47_9 at h; split at h
  · exact Hold.mp (by kernel_rfl) h.out
  · exact h.elim
theorem D27_9_z (nb : Nat) (vals : List (A PU)) (objs : List (AObj PU)) (K : A PU → List (AObj PU) → Prop) : ¬ D27_9 0 nb vals objs K := by
  intro h; unfold D27_9 at h; split at h <;> (first | exact h | exact h.out)
theorem D27_9_ok (k : Nat) (live : List Nat) (hl : cutOf 27 9 PE.cuts = some live) (nb : Nat) (vals : List (A PU)) (objs : List (AObj PU)) (K : A PU → List (AObj PU) → Prop) (h : D27_9 (k + 1) nb vals objs K) : fnOk PE.P 27 = true ∧ Hold (vcut PE (PT k) (PC k) 27 9 live nb vals objs K) := by
  obtain rfl : live = [0, 5, 6, 29, 30, 31] := Option.some.inj (hl.symm.trans (by kernel_rfl : cutOf 27 9 PE.cuts = some [0, 5, 6, 29, 30, 31]))
  refine ⟨fnok27, ?_⟩; unfold D27_9 at h; split at h
  · exact Hold.mp (by kernel_rfl) h.out
  · exact Hold.mp (by kernel_rfl) h.out
  · exact Hold.mp (by kernel_rfl) h.out
  · exact Hold.mp (by kernel_rfl) h.out
  · exact h.elim
theorem D69_2_z (nb : Nat) (vals : List (A PU)) (objs : List (AObj PU)) (K : A PU → List (AObj PU) → Prop) : ¬ D69_2 0 nb vals objs K := by
  intro h; unfold D69_2 at h; split at h <;> (first | exact h | exact h.out)
theorem D69_2_ok (k : Nat) (live : List Nat) (hl : cutOf 69 2 PE.cuts = some live) (nb : Nat) (vals : List (A PU)) (objs : List (AObj PU)) (K : A PU → List (AObj PU) → Prop) (h : D69_2 (k + 1) nb vals objs K) : fnOk PE.P 69 = true ∧ Hold (vcut PE (PT k) (PC k) 69 2 live nb vals objs K) := by
  obtain rfl : live = [0, 2, 25] := Option.some.inj (hl.symm.trans (by kernel_rfl : cutOf 69 2 PE.cuts = some [0, 2, 25]))
  refine ⟨fnok69, ?_⟩; unfold D69_2 at h; split at h
  · exact Hold.mp (by kernel_rfl) h.out
  · exact h.elim
theorem D69_11_z (nb : Nat) (vals : List (A PU)) (objs : List (AObj PU)) (K : A PU → List (AObj PU) → Prop) : ¬ D69_11 0 nb vals objs K := by
  intro h; unfold D69_11 at h; split at h <;> (first | exact h | exact h.out)
theorem D69_11_ok (k : Nat) (live : List Nat) (hl : cutOf 69 11 PE.cuts = some live) (nb : Nat) (vals : List (A PU)) (objs : List (AObj PU)) (K : A PU → List (AObj PU) → Prop) (h : D69_11 (k + 1) nb vals objs K) : fnOk PE.P 69 = true ∧ Hold (vcut PE (PT k) (PC k) 69 11 live nb vals objs K) := by
  obtain rfl : live = [0, 2, 25] := Option.some.inj (hl.symm.trans (by kernel_rfl : cutOf 69 11 PE.cuts = some [0, 2, 25]))
  refine ⟨fnok69, ?_⟩; unfold D69_11 at h; split at h
  · exact Hold.mp (by kernel_rfl) h.out
  · exact h.elim
theorem D69_14_z (nb : Nat) (vals : List (A PU)) (objs : List (AObj PU)) (K : A PU → List (AObj PU) → Prop) : ¬ D69_14 0 nb vals objs K := by
  intro h; unfold D69_14 at h; split at h <;> (first | exact h | exact h.out)
theorem D69_14_ok (k : Nat) (live : List Nat) (hl : cutOf 69 14 PE.cuts = some live) (nb : Nat) (vals : List (A PU)) (objs : List (AObj PU)) (K : A PU → List (AObj PU) → Prop) (h : D69_14 (k + 1) nb vals objs K) : fnOk PE.P 69 = true ∧ Hold (vcut PE (PT k) (PC k) 69 14 live nb vals objs K) := by
  obtain rfl : live = [0, 9, 10, 11, 12, 13, 14, 15, 16, 140, 141] := Option.some.inj (hl.symm.trans (by kernel_rfl : cutOf 69 14 PE.cuts = some [0, 9, 10, 11, 12, 13, 14, 15, 16, 140, 141]))
  refine ⟨fnok69, ?_⟩; unfold D69_14 at h; split at h
  · exact Hold.mp (by kernel_rfl) h.out
  · exact h.elim
theorem D69_23_z (nb : Nat) (vals : List (A PU)) (objs : List (AObj PU)) (K : A PU → List (AObj PU) → Prop) : ¬ D69_23 0 nb vals objs K := by
  intro h; unfold D69_23 at h; split at h <;> (first | exact h | exact h.out)
theorem D69_23_ok (k : Nat) (live : List Nat) (hl : cutOf 69 23 PE.cuts = some live) (nb : Nat) (vals : List (A PU)) (objs : List (AObj PU)) (K : A PU → List (AObj PU) → Prop) (h : D69_23 (k + 1) nb vals objs K) : fnOk PE.P 69 = true ∧ Hold (vcut PE (PT k) (PC k) 69 23 live nb vals objs K) := by
  obtain rfl : live = [0, 210, 211] := Option.some.inj (hl.symm.trans (by kernel_rfl : cutOf 69 23 PE.cuts = some [0, 210, 211]))
  refine ⟨fnok69, ?_⟩; unfold D69_23 at h; split at h
  · exact Hold.mp (by kernel_rfl) h.out
  · exact h.elim
theorem D56_3_z (nb : Nat) (vals : List (A PU)) (objs : List (AObj PU)) (K : A PU → List (AObj PU) → Prop) : ¬ D56_3 0 nb vals objs K := by
  intro h; unfold D56_3 at h; split at h <;> (first | exact h | exact h.out)
theorem D56_3_ok (k : Nat) (live : List Nat) (hl : cutOf 56 3 PE.cuts = some live) (nb : Nat) (vals : List (A PU)) (objs : List (AObj PU)) (K : A PU → List (AObj PU) → Prop) (h : D56_3 (k + 1) nb vals objs K) : fnOk PE.P 56 = true ∧ Hold (vcut PE (PT k) (PC k) 56 3 live nb vals objs K) := by
  obtain rfl : live = [0, 1] := Option.some.inj (hl.symm.trans (by kernel_rfl : cutOf 56 3 PE.cuts = some [0, 1]))
  refine ⟨fnok56, ?_⟩; unfold D56_3 at h; split at h
  · exact Hold.mp (by kernel_rfl) h.out
  · exact h.elim
theorem D57_9_z (nb : Nat) (vals : List (A PU)) (objs : List (AObj PU)) (K : A PU → List (AObj PU) → Prop) : ¬ D57_9 0 nb vals objs K := by
  intro h; unfold D57_9 at h; split at h <;> (first | exact h | exact h.out)
theorem D57_9_ok (k : Nat) (live : List Nat) (hl : cutOf 57 9 PE.cuts = some live) (nb : Nat) (vals : List (A PU)) (objs : List (AObj PU)) (K : A PU → List (AObj PU) → Prop) (h : D57_9 (k + 1) nb vals objs K) : fnOk PE.P 57 = true ∧ Hold (vcut PE (PT k) (PC k) 57 9 live nb vals objs K) := by
  obtain rfl : live = [0, 2, 3, 4, 5, 6, 22] := Option.some.inj (hl.symm.trans (by kernel_rfl : cutOf 57 9 PE.cuts = some [0, 2, 3, 4, 5, 6, 22]))
  refine ⟨fnok57, ?_⟩; unfold D57_9 at h; split at h
  · exact Hold.mp (by kernel_rfl) h.out
  · exact h.elim
theorem D57_15_z (nb : Nat) (vals : List (A PU)) (objs : List (AObj PU)) (K : A PU → List (AObj PU) → Prop) : ¬ D57_15 0 nb vals objs K := by
  intro h; unfold D57_15 at h; split at h <;> (first | exact h | exact h.out)
theorem D57_15_ok (k : Nat) (live : List Nat) (hl : cutOf 57 15 PE.cuts = some live) (nb : Nat) (vals : List (A PU)) (objs : List (AObj PU)) (K : A PU → List (AObj PU) → Prop) (h : D57_15 (k + 1) nb vals objs K) : fnOk PE.P 57 = true ∧ Hold (vcut PE (PT k) (PC k) 57 15 live nb vals objs K) := by
  obtain rfl : live = [2, 3, 4, 45] := Option.some.inj (hl.symm.trans (by kernel_rfl : cutOf 57 15 PE.cuts = some [2, 3, 4, 45]))
  refine ⟨fnok57, ?_⟩; unfold D57_15 at h; split at h
  · exact Hold.mp (by kernel_rfl) h.out
  · exact h.elim
theorem D40_4_z (nb : Nat) (vals : List (A PU)) (objs : List (AObj PU)) (K : A PU → List (AObj PU) → Prop) : ¬ D40_4 0 nb vals objs K := by
  intro h; unfold D40_4 at h; split at h <;> (first | exact h | exact h.out)
theorem D40_4_ok (k : Nat) (live : List Nat) (hl : cutOf 40 4 PE.cuts = some live) (nb : Nat) (vals : List (A PU)) (objs : List (AObj PU)) (K : A PU → List (AObj PU) → Prop) (h : D40_4 (k + 1) nb vals objs K) : fnOk PE.P 40 = true ∧ Hold (vcut PE (PT k) (PC k) 40 4 live nb vals objs K) := by
  obtain rfl : live = [4, 5] := Option.some.inj (hl.symm.trans (by kernel_rfl : cutOf 40 4 PE.cuts = some [4, 5]))
  refine ⟨fnok40, ?_⟩; unfold D40_4 at h; split at h
  · exact Hold.mp (by kernel_rfl) h.out
  · exact h.elim
theorem D43_4_z (nb : Nat) (vals : List (A PU)) (objs : List (AObj PU)) (K : A PU → List (AObj PU) → Prop) : ¬ D43_4 0 nb vals objs K := by
  intro h; unfold D43_4 at h; split at h <;> (first | exact h | exact h.out)
theorem D43_4_ok (k : Nat) (live : List Nat) (hl : cutOf 43 4 PE.cuts = some live) (nb : Nat) (vals : List (A PU)) (objs : List (AObj PU)) (K : A PU → List (AObj PU) → Prop) (h : D43_4 (k + 1) nb vals objs K) : fnOk PE.P 43 = true ∧ Hold (vcut PE (PT k) (PC k) 43 4 live nb vals objs K) := by
  obtain rfl : live = [0, 6, 7, 15, 16, 17] := Option.some.inj (hl.symm.trans (by kernel_rfl : cutOf 43 4 PE.cuts = some [0, 6, 7, 15, 16, 17]))
  refine ⟨fnok43, ?_⟩; unfold D43_4 at h; split at h
  · exact Hold.mp (by kernel_rfl) h.out
  · exact Hold.mp (by kernel_rfl) h.out
  · exact h.elim
theorem D11_2_z (nb : Nat) (vals : List (A PU)) (objs : List (AObj PU)) (K : A PU → List (AObj PU) → Prop) : ¬ D11_2 0 nb vals objs K := by
  intro h; unfold D11_2 at h; split at h <;> (first | exact h | exact h.out)
theorem D11_2_ok (k : Nat) (live : List Nat) (hl : cutOf 11 2 PE.cuts = some live) (nb : Nat) (vals : List (A PU)) (objs : List (AObj PU)) (K : A PU → List (AObj PU) → Prop) (h : D11_2 (k + 1) nb vals objs K) : fnOk PE.P 11 = true ∧ Hold (vcut PE (PT k) (PC k) 11 2 live nb vals objs K) := by
  obtain rfl : live = [1, 4, 6, 7] := Option.some.inj (hl.symm.trans (by kernel_rfl : cutOf 11 2 PE.cuts = some [1, 4, 6, 7]))
  refine ⟨fnok11, ?_⟩; unfold D11_2 at h; split at h
  · exact Hold.mp (by kernel_rfl) h.out
  · exact Hold.mp (by kernel_rfl) h.out
  · exact Hold.mp (by kernel_rfl) h.out
  · exact Hold.mp (by kernel_rfl) h.out
  · exact h.elim
theorem D11_3_z (nb : Nat) (vals : List (A PU)) (objs : List (AObj PU)) (K : A PU → List (AObj PU) → Prop) : ¬ D11_3 0 nb vals objs K := by
  intro h; unfold D11_3 at h; split at h <;> (first | exact h | exact h.out)
theorem D11_3_ok (k : Nat) (live : List Nat) (hl : cutOf 11 3 PE.cuts = some live) (nb : Nat) (vals : List (A PU)) (objs : List (AObj PU)) (K : A PU → List (AObj PU) → Prop) (h : D11_3 (k + 1) nb vals objs K) : fnOk PE.P 11 = true ∧ Hold (vcut PE (PT k) (PC k) 11 3 live nb vals objs K) := by
  obtain rfl : live = [4, 7] := Option.some.inj (hl.symm.trans (by kernel_rfl : cutOf 11 3 PE.cuts = some [4, 7]))
  refine ⟨fnok11, ?_⟩; unfold D11_3 at h; split at h
  · exact Hold.mp (by kernel_rfl) h.out
  · exact h.elim
theorem D11_4_z (nb : Nat) (vals : List (A PU)) (objs : List (AObj PU)) (K : A PU → List (AObj PU) → Prop) : ¬ D11_4 0 nb vals objs K := by
  intro h; unfold D11_4 at h; split at h <;> (first | exact h | exact h.out)
theorem D11_4_ok (k : Nat) (live : List Nat) (hl : cutOf 11 4 PE.cuts = some live) (nb : Nat) (vals : List (A PU)) (objs : List (AObj PU)) (K : A PU → List (AObj PU) → Prop) (h : D11_4 (k + 1) nb vals objs K) : fnOk PE.P 11 = true ∧ Hold (vcut PE (PT k) (PC k) 11 4 live nb vals objs K) := by
  obtain rfl : live = [1, 4, 6] := Option.some.inj (hl.symm.trans (by kernel_rfl : cutOf 11 4 PE.cuts = some [1, 4, 6]))
  refine ⟨fnok11, ?_⟩; unfold D11_4 at h; split at h
  · exact Hold.mp (by kernel_rfl) h.out
  · exact Hold.mp (by kernel_rfl) h.out
  · exact Hold.mp (by kernel_rfl) h.out
  · exact Hold.mp (by kernel_rfl) h.out
  · exact h.elim
theorem D11_5_z (nb : Nat) (vals : List (A PU)) (objs : List (AObj PU)) (K : A PU → List (AObj PU) → Prop) : ¬ D11_5 0 nb vals objs K := by
  intro h; unfold D11_5 at h; split at h <;> (first | exact h | exact h.out)
theorem D11_5_ok (k : Nat) (live : List Nat) (hl : cutOf 11 5 PE.cuts = some live) (nb : Nat) (vals : List (A PU)) (objs : List (AObj PU)) (K : A PU → List (AObj PU) → Prop) (h : D11_5 (k + 1) nb vals objs K) : fnOk PE.P 11 = true ∧ Hold (vcut PE (PT k) (PC k) 11 5 live nb vals objs K) := by
  obtain rfl : live = [4, 6, 8] := Option.some.inj (hl.symm.trans (by kernel_rfl : cutOf 11 5 PE.cuts = some [4, 6, 8]))
  refine ⟨fnok11, ?_⟩; unfold D11_5 at h; split at h
  · exact Hold.mp (by kernel_rfl) h.out
  · exact Hold.mp (by kernel_rfl) h.out
  · exact h.elim
theorem D11_6_z (nb : Nat) (vals : List (A PU)) (objs : List (AObj PU)) (K : A PU → List (AObj PU) → Prop) : ¬ D11_6 0 nb vals objs K := by
  intro h; unfold D11_6 at h; split at h <;> (first | exact h | exact h.out)
theorem D11_6_ok (k : Nat) (live : List Nat) (hl : cutOf 11 6 PE.cuts = some live) (nb : Nat) (vals : List (A PU)) (objs : List (AObj PU)) (K : A PU → List (AObj PU) → Prop) (h : D11_6 (k + 1) nb vals objs K) : fnOk PE.P 11 = true ∧ Hold (vcut PE (PT k) (PC k) 11 6 live nb vals objs K) := by
  obtain rfl : live = [4, 8] := Option.some.inj (hl.symm.trans (by kernel_rfl : cutOf 11 6 PE.cuts = some [4, 8]))
  refine ⟨fnok11, ?_⟩; unfold D11_6 at h; split at h
  · exact Hold.mp (by kernel_rfl) h.out
  · exact h.elim
theorem D4_5_z (nb : Nat) (vals : List (A PU)) (objs : List (AObj PU)) (K : A PU → List (AObj PU) → Prop) : ¬ D4_5 0 nb vals objs K := by
  intro h; unfold D4_5 at h; split at h <;> (first | exact h | exact h.out)
theorem D4_5_ok (k : Nat) (live : List Nat) (hl : cutOf 4 5 PE.cuts = some live) (nb : Nat) (vals : List (A PU)) (objs : List (AObj PU)) (K : A PU → List (AObj PU) → Prop) (h : D4_5 (k + 1) nb vals objs K) : fnOk PE.P 4 = true ∧ Hold (vcut PE (PT k) (PC k) 4 5 live nb vals objs K) := by
  obtain rfl : live = [0, 1, 2, 7, 8] := Option.some.inj (hl.symm.trans (by kernel_rfl : cutOf 4 5 PE.cuts = some [0, 1, 2, 7, 8]))
  refine ⟨fnok4, ?_⟩; unfold D4_5 at h; split at h
  · exact Hold.mp (by kernel_rfl) h.out
  · exact h.elim
theorem D4_6_z (nb : Nat) (vals : List (A PU)) (objs : List (AObj PU)) (K : A PU → List (AObj PU) → Prop) : ¬ D4_6 0 nb vals objs K := by
  intro h; unfold D4_6 at h; split at h <;> (first | exact h | exact h.out)
theorem D4_6_ok (k : Nat) (live : List Nat) (hl : cutOf 4 6 PE.cuts = some live) (nb : Nat) (vals : List (A PU)) (objs : List (AObj PU)) (K : A PU → List (AObj PU) → Prop) (h : D4_6 (k + 1) nb vals objs K) : fnOk PE.P 4 = true ∧ Hold (vcut PE (PT k) (PC k) 4 6 live nb vals objs K) := by
  obtain rfl : live = [0, 1, 2, 7, 8] := Option.some.inj (hl.symm.trans (by kernel_rfl : cutOf 4 6 PE.cuts = some [0, 1, 2, 7, 8]))
  refine ⟨fnok4, ?_⟩; unfold D4_6 at h; split at h
  · exact Hold.mp (by kernel_rfl) h.out
  · exact h.elim
theorem D51_3_z (nb : Nat) (vals : List (A PU)) (objs : List (AObj PU)) (K : A PU → List (AObj PU) → Prop) : ¬ D51_3 0 nb vals objs K := by
  intro h; unfold D51_3 at h; split at h <;> (first | exact h | exact h.out)
theorem D51_3_ok (k : Nat) (live : List Nat) (hl : cutOf 51 3 PE.cuts = some live) (nb : Nat) (vals : List (A PU)) (objs : List (AObj PU)) (K : A PU → List (AObj PU) → Prop) (h : D51_3 (k + 1) nb vals objs K) : fnOk PE.P 51 = true ∧ Hold (vcut PE (PT k) (PC k) 51 3 live nb vals objs K) := by
  obtain rfl : live = [0, 2, 4] := Option.some.inj (hl.symm.trans (by kernel_rfl : cutOf 51 3 PE.cuts = some [0, 2, 4]))
  refine ⟨fnok51, ?_⟩; unfold D51_3 at h; split at h
  · exact Hold.mp (by kernel_rfl) h.out
  · exact h.elim
theorem D51_9_z (nb : Nat) (vals : List (A PU)) (objs : List (AObj PU)) (K : A PU → List (AObj PU) → Prop) : ¬ D51_9 0 nb vals objs K := by
  intro h; unfold D51_9 at h; split at h <;> (first | exact h | exact h.out)
theorem D51_9_ok (k : Nat) (live : List Nat) (hl : cutOf 51 9 PE.cuts = some live) (nb : Nat) (vals : List (A PU)) (objs : List (AObj PU)) (K : A PU → List (AObj PU) → Prop) (h : D51_9 (k + 1) nb vals objs K) : fnOk PE.P 51 = true ∧ Hold (vcut PE (PT k) (PC k) 51 9 live nb vals objs K) := by
  obtain rfl : live = [7] := Option.some.inj (hl.symm.trans (by kernel_rfl : cutOf 51 9 PE.cuts = some [7]))
  refine ⟨fnok51, ?_⟩; unfold D51_9 at h; split at h
  · exact Hold.mp (by kernel_rfl) h.out
  · exact h.elim
theorem D51_11_z (nb : Nat) (vals : List (A PU)) (objs : List (AObj PU)) (K : A PU → List (AObj PU) → Prop) : ¬ D51_11 0 nb vals objs K := by
  intro h; unfold D51_11 at h; split at h <;> (first | exact h | exact h.out)
theorem D51_11_ok (k : Nat) (live : List Nat) (hl : cutOf 51 11 PE.cuts = some live) (nb : Nat) (vals : List (A PU)) (objs : List (AObj PU)) (K : A PU → List (AObj PU) → Prop) (h : D51_11 (k + 1) nb vals objs K) : fnOk PE.P 51 = true ∧ Hold (vcut PE (PT k) (PC k) 51 11 live nb vals objs K) := by
  obtain rfl : live = [7] := Option.some.inj (hl.symm.trans (by kernel_rfl : cutOf 51 11 PE.cuts = some [7]))
  refine ⟨fnok51, ?_⟩; unfold D51_11 at h; split at h
  · exact Hold.mp (by kernel_rfl) h.out
  · exact h.elim
theorem D28_2_z (nb : Nat) (vals : List (A PU)) (objs : List (AObj PU)) (K : A PU → List (AObj PU) → Prop) : ¬ D28_2 0 nb vals objs K := by
  intro h; unfold D28_2 at h; split at h <;> (first | exact h | exact h.out)
theorem D28_2_ok (k : Nat) (live : List Nat) (hl : cutOf 28 2 PE.cuts = some live) (nb : Nat) (vals : List (A PU)) (objs : List (AObj PU)) (K : A PU → List (AObj PU) → Prop) (h : D28_2 (k + 1) nb vals objs K) : fnOk PE.P 28 = true ∧ Hold (vcut PE (PT k) (PC k) 28 2 live nb vals objs K) := by
  obtain rfl : live = [1, 2] := Option.some.inj (hl.symm.trans (by kernel_rfl : cutOf 28 2 PE.cuts = some [1, 2]))
  refine ⟨fnok28, ?_⟩; unfold D28_2 at h; split at h
  · exact Hold.mp (by kernel_rfl) h.out
  · exact Hold.mp (by kernel_rfl) h.out
  · exact h.elim
theorem D6_4_z (nb : Nat) (vals : List (A PU)) (objs : List (AObj PU)) (K : A PU → List (AObj PU) → Prop) : ¬ D6_4 0 nb vals objs K := by
  intro h; unfold D6_4 at h; split at h <;> (first | exact h | exact h.out)
theorem D6_4_ok (k : Nat) (live : List Nat) (hl : cutOf 6 4 PE.cuts = some live) (nb : Nat) (vals : List (A PU)) (objs : List (AObj PU)) (K : A PU → List (AObj PU) → Prop) (h : D6_4 (k + 1) nb vals objs K) : fnOk PE.P 6 = true ∧ Hold (vcut PE (PT k) (PC k) 6 4 live nb vals objs K) := by
  obtain rfl : live = [1, 5, 7, 8] := Option.some.inj (hl.symm.trans (by kernel_rfl : cutOf 6 4 PE.cuts = some [1, 5, 7, 8]))
  refine ⟨fnok6, ?_⟩; unfold D6_4 at h; split at h
  · exact Hold.mp (by kernel_rfl) h.out
  · exact Hold.mp (by kernel_rfl) h.out
  · exact h.elim
theorem D33_3_z (nb : Nat) (vals : List (A PU)) (objs : List (AObj PU)) (K : A PU → List (AObj PU) → Prop) : ¬ D33_3 0 nb vals objs K := by
  intro h; unfold D33_3 at h; split at h <;> (first | exact h | exact h.out)
theorem D33_3_ok (k : Nat) (live : List Nat) (hl : cutOf 33 3 PE.cuts = some live) (nb : Nat) (vals : List (A PU)) (objs : List (AObj PU)) (K : A PU → List (AObj PU) → Prop) (h : D33_3 (k + 1) nb vals objs K) : fnOk PE.P 33 = true ∧ Hold (vcut PE (PT k) (PC k) 33 3 live nb vals objs K) := by
  obtain rfl : live = [0, 3, 4] := Option.some.inj (hl.symm.trans (by kernel_rfl : cutOf 33 3 PE.cuts = some [0, 3, 4]))
  refine ⟨fnok33, ?_⟩; unfold D33_3 at h; split at h
  · exact Hold.mp (by kernel_rfl) h.out
  · exact h.elim
theorem D7_2_z (nb : Nat) (vals : List (A PU)) (objs : List (AObj PU)) (K : A PU → List (AObj PU) → Prop) : ¬ D7_2 0 nb vals objs K := by
  intro h; unfold D7_2 at h; split at h <;> (first | exact h | exact h.out)
theorem D7_2_ok (k : Nat) (live : List Nat) (hl : cutOf 7 2 PE.cuts = some live) (nb : Nat) (vals : List (A PU)) (objs : List (AObj PU)) (K : A PU → List (AObj PU) → Prop) (h : D7_2 (k + 1) nb vals objs K) : fnOk PE.P 7 = true ∧ Hold (vcut PE (PT k) (PC k) 7 2 live nb vals objs K) := by
  obtain rfl : live = [0, 3, 5, 6] := Option.some.inj (hl.symm.trans (by kernel_rfl : cutOf 7 2 PE.cuts = some [0, 3, 5, 6]))
  refine ⟨fnok7, ?_⟩; unfold D7_2 at h; split at h
  · exact Hold.mp (by kernel_rfl) h.out
  · exact Hold.mp (by kernel_rfl) h.out
  · exact h.elim
theorem D9_7_z (nb : Nat) (vals : List (A PU)) (objs : List (AObj PU)) (K : A PU → List (AObj PU) → Prop) : ¬ D9_7 0 nb vals objs K := by
  intro h; unfold D9_7 at h; split at h <;> (first | exact h | exact h.out)
theorem D9_7_ok (k : Nat) (live : List Nat) (hl : cutOf 9 7 PE.cuts = some live) (nb : Nat) (vals : List (A PU)) (objs : List (AObj PU)) (K : A PU → List (AObj PU) → Prop) (h : D9_7 (k + 1) nb vals objs K) : fnOk PE.P 9 = true ∧ Hold (vcut PE (PT k) (PC k) 9 7 live nb vals objs K) := by
  obtain rfl : live = [0, 1, 2, 7, 9] := Option.some.inj (hl.symm.trans (by kernel_rfl : cutOf 9 7 PE.cuts = some [0, 1, 2, 7, 9]))
  refine ⟨fnok9, ?_⟩; unfold D9_7 at h; split at h
  · exact Hold.mp (by kernel_rfl) h.out
  · exact h.elim
theorem D9_12_z (nb : Nat) (vals : List (A PU)) (objs : List (AObj PU)) (K : A PU → List (AObj PU) → Prop) : ¬ D9_12 0 nb vals objs K := by
  intro h; unfold D9_12 at h; split at h <;> (first | exact h | exact h.out)
theorem D9_12_ok (k : Nat) (live : List Nat) (hl : cutOf 9 12 PE.cuts = some live) (nb : Nat) (vals : List (A PU)) (objs : List (AObj PU)) (K : A PU → List (AObj PU) → Prop) (h : D9_12 (k + 1) nb vals objs K) : fnOk PE.P 9 = true ∧ Hold (vcut PE (PT k) (PC k) 9 12 live nb vals objs K) := by
  obtain rfl : live = [0, 2, 7, 10] := Option.some.inj (hl.symm.trans (by kernel_rfl : cutOf 9 12 PE.cuts = some [0, 2, 7, 10]))
  refine ⟨fnok9, ?_⟩; unfold D9_12 at h; split at h
  · exact Hold.mp (by kernel_rfl) h.out
  · exact h.elim
theorem D13_2_z (nb : Nat) (vals : List (A PU)) (objs : List (AObj PU)) (K : A PU → List (AObj PU) → Prop) : ¬ D13_2 0 nb vals objs K := by
  intro h; unfold D13_2 at h; split at h <;> (first | exact h | exact h.out)
theorem D13_2_ok (k : Nat) (live : List Nat) (hl : cutOf 13 2 PE.cuts = some live) (nb : Nat) (vals : List (A PU)) (objs : List (AObj PU)) (K : A PU → List (AObj PU) → Prop) (h : D13_2 (k + 1) nb vals objs K) : fnOk PE.P 13 = true ∧ Hold (vcut PE (PT k) (PC k) 13 2 live nb vals objs K) := by
  obtain rfl : live = [0, 3] := Option.some.inj (hl.symm.trans (by kernel_rfl : cutOf 13 2 PE.cuts = some [0, 3]))
  refine ⟨fnok13, ?_⟩; unfold D13_2 at h; split at h
  · exact Hold.mp (by kernel_rfl) h.out
  · exact h.elim
theorem D13_5_z (nb : Nat) (vals : List (A PU)) (objs : List (AObj PU)) (K : A PU → List (AObj PU) → Prop) : ¬ D13_5 0 nb vals objs K := by
  intro h; unfold D13_5 at h; split at h <;> (first | exact h | exact h.out)
theorem D13_5_ok (k : Nat) (live : List Nat) (hl : cutOf 13 5 PE.cuts = some live) (nb : Nat) (vals : List (A PU)) (objs : List (AObj PU)) (K : A PU → List (AObj PU) → Prop) (h : D13_5 (k + 1) nb vals objs K) : fnOk PE.P 13 = true ∧ Hold (vcut PE (PT k) (PC k) 13 5 live nb vals objs K) := by
  obtain rfl : live = [0, 3, 4] := Option.some.inj (hl.symm.trans (by kernel_rfl : cutOf 13 5 PE.cuts = some [0, 3, 4]))
  refine ⟨fnok13, ?_⟩; unfold D13_5 at h; split at h
  · exact Hold.mp (by kernel_rfl) h.out
  · exact h.elim
theorem D38_4_z (nb : Nat) (vals : List (A PU)) (objs : List (AObj PU)) (K : A PU → List (AObj PU) → Prop) : ¬ D38_4 0 nb vals objs K := by
  intro h; unfold D38_4 at h; split at h <;> (first | exact h | exact h.out)
theorem D38_4_ok (k : Nat) (live : List Nat) (hl : cutOf 38 4 PE.cuts = some live) (nb : Nat) (vals : List (A PU)) (objs : List (AObj PU)) (K : A PU → List (AObj PU) → Prop) (h : D38_4 (k + 1) nb vals objs K) : fnOk PE.P 38 = true ∧ Hold (vcut PE (PT k) (PC k) 38 4 live nb vals objs K) := by
  obtain rfl : live = [0, 1, 5] := Option.some.inj (hl.symm.trans (by kernel_rfl : cutOf 38 4 PE.cuts = some [0, 1, 5]))
  refine ⟨fnok38, ?_⟩; unfold D38_4 at h; split at h
  · exact Hold.mp (by kernel_rfl) h.out
  · exact h.elim
theorem D10_5_z (nb : Nat) (vals : List (A PU)) (objs : List (AObj PU)) (K : A PU → List (AObj PU) → Prop) : ¬ D10_5 0 nb vals objs K := by
  intro h; unfold D10_5 at h; split at h <;> (first | exact h | exact h.out)
theorem D10_5_ok (k : Nat) (live : List Nat) (hl : cutOf 10 5 PE.cuts = some live) (nb : Nat) (vals : List (A PU)) (objs : List (AObj PU)) (K : A PU → List (AObj PU) → Prop) (h : D10_5 (k + 1) nb vals objs K) : fnOk PE.P 10 = true ∧ Hold (vcut PE (PT k) (PC k) 10 5 live nb vals objs K) := by
  obtain rfl : live = [1, 2, 7, 8, 9, 10] := Option.some.inj (hl.symm.trans (by kernel_rfl : cutOf 10 5 PE.cuts = some [1, 2, 7, 8, 9, 10]))
  refine ⟨fnok10, ?_⟩; unfold D10_5 at h; split at h
  · exact Hold.mp (by kernel_rfl) h.out
  · exact Hold.mp (by kernel_rfl) h.out
  · exact Hold.mp (by kernel_rfl) h.out
  · exact Hold.mp (by kernel_rfl) h.out
  · exact h.elim
theorem D10_6_z (nb : Nat) (vals : List (A PU)) (objs : List (AObj PU)) (K : A PU → List (AObj PU) → Prop) : ¬ D10_6 0 nb vals objs K := by
  intro h; unfold D10_6 at h; split at h <;> (first | exact h | exact h.out)
theorem D10_6_ok (k : Nat) (live : List Nat) (hl : cutOf 10 6 PE.cuts = some live) (nb : Nat) (vals : List (A PU)) (objs : List (AObj PU)) (K : A PU → List (AObj PU) → Prop) (h : D10_6 (k + 1) nb vals objs K) : fnOk PE.P 10 = true ∧ Hold (vcut PE (PT k) (PC k) 10 6 live nb vals objs K) := by
  obtain rfl : live = [] := Option.some.inj (hl.symm.trans (by kernel_rfl : cutOf 10 6 PE.cuts = some []))
  refine ⟨fnok10, ?_⟩; unfold D10_6 at h; split at h
  · exact Hold.mp (by kernel_rfl) h.out
  · exact h.elim
theorem D10_8_z (nb : Nat) (vals : List (A PU)) (objs : List (AObj PU)) (K : A PU → List (AObj PU) → Prop) : ¬ D10_8 0 nb vals objs K := by
  intro h; unfold D10_8 at h; split at h <;> (first | exact h | exact h.out)
theorem D10_8_ok (k : Nat) (live : List Nat) (hl : cutOf 10 8 PE.cuts = some live) (nb : Nat) (vals : List (A PU)) (objs : List (AObj PU)) (K : A PU → List (AObj PU) → Prop) (h : D10_8 (k + 1) nb vals objs K) : fnOk PE.P 10 = true ∧ Hold (vcut PE (PT k) (PC k) 10 8 live nb vals objs K) := by
  obtain rfl : live = [1, 2, 7, 9, 11] := Option.some.inj (hl.symm.trans (by kernel_rfl : cutOf 10 8 PE.cuts = some [1, 2, 7, 9, 11]))
  refine ⟨fnok10, ?_⟩; unfold D10_8 at h; split at h
  · exact Hold.mp (by kernel_rfl) h.out
  · exact h.elim
theorem D10_18_z (nb : Nat) (vals : List (A PU)) (objs : List (AObj PU)) (K : A PU → List (AObj PU) → Prop) : ¬ D10_18 0 nb vals objs K := by
  intro h; unfold D10_18 at h; split at h <;> (first | exact h | exact h.out)
theorem D10_18_ok (k : Nat) (live : List Nat) (hl : cutOf 10 18 PE.cuts = some live) (nb : Nat) (vals : List (A PU)) (objs : List (AObj PU)) (K : A PU → List (AObj PU) → Prop) (h : D10_18 (k + 1) nb vals objs K) : fnOk PE.P 10 = true ∧ Hold (vcut PE (PT k) (PC k) 10 18 live nb vals objs K) := by
  obtain rfl : live = [2, 7, 9, 14] := Option.some.inj (hl.symm.trans (by kernel_rfl : cutOf 10 18 PE.cuts = some [2, 7, 9, 14]))
  refine ⟨fnok10, ?_⟩; unfold D10_18 at h; split at h
  · exact Hold.mp (by kernel_rfl) h.out
  · exact h.elim
theorem PSound (k : Nat) : TSound PE (PT k) ∧ CSound PE (PC k) :=
  tablesL PEok (by kernel_rfl) PTr PCr
    (List.forall_mem_cons.2 ⟨T15_z, List.forall_mem_cons.2 ⟨T39_z, List.forall_mem_cons.2 ⟨T26_z, List.forall_mem_cons.2 ⟨T27_z, List.forall_mem_cons.2 ⟨T29_z, List.forall_mem_cons.2 ⟨T61_z, List.forall_mem_cons.2 ⟨T89_z, List.forall_mem_cons.2 ⟨T73_z, List.forall_mem_cons.2 ⟨T64_z, List.forall_mem_cons.2 ⟨T63_z, List.forall_mem_cons.2 ⟨T62_z, List.forall_mem_cons.2 ⟨T46_z, List.forall_mem_cons.2 ⟨T49_z, List.forall_mem_cons.2 ⟨T76_z, List.forall_mem_cons.2 ⟨T67_z, List.forall_mem_cons.2 ⟨T50_z, List.forall_mem_cons.2 ⟨T30_z, List.forall_mem_cons.2 ⟨T47_z, List.forall_mem_cons.2 ⟨T55_z, List.forall_mem_cons.2 ⟨T78_z, List.forall_mem_cons.2 ⟨T69_z, List.forall_mem_cons.2 ⟨T56_z, List.forall_mem_cons.2 ⟨T57_z, List.forall_mem_cons.2 ⟨T40_z, List.forall_mem_cons.2 ⟨T43_z, List.forall_mem_cons.2 ⟨T24_z, List.forall_mem_cons.2 ⟨T22_z, List.forall_mem_cons.2 ⟨T66_z, List.forall_mem_cons.2 ⟨T20_z, List.forall_mem_cons.2 ⟨T48_z, List.forall_mem_cons.2 ⟨T11_z, List.forall_mem_cons.2 ⟨T35_z, List.forall_mem_cons.2 ⟨T36_z, List.forall_mem_cons.2 ⟨T14_z, List.forall_mem_cons.2 ⟨T4_z, List.forall_mem_cons.2 ⟨T51_z, List.forall_mem_cons.2 ⟨T32_z, List.forall_mem_cons.2 ⟨T31_z, List.forall_mem_cons.2 ⟨T28_z, List.forall_mem_cons.2 ⟨T6_z, List.forall_mem_cons.2 ⟨T12_z, List.forall_mem_cons.2 ⟨T33_z, List.forall_mem_cons.2 ⟨T7_z, List.forall_mem_cons.2 ⟨T34_z, List.forall_mem_cons.2 ⟨T8_z, List.forall_mem_cons.2 ⟨T53_z, List.forall_mem_cons.2 ⟨T52_z, List.forall_mem_cons.2 ⟨T9_z, List.forall_mem_cons.2 ⟨T13_z, List.forall_mem_cons.2 ⟨T38_z, List.forall_mem_cons.2 ⟨T17_z, List.forall_mem_cons.2 ⟨T10_z, (fun _ h => nomatch h)⟩⟩⟩⟩⟩⟩⟩⟩⟩⟩⟩⟩⟩⟩⟩⟩⟩⟩⟩⟩⟩⟩⟩⟩⟩⟩⟩⟩⟩⟩⟩⟩⟩⟩⟩⟩⟩⟩⟩⟩⟩⟩⟩⟩⟩⟩⟩⟩⟩⟩⟩⟩)
    (List.forall_mem_cons.2 ⟨D64_2_z, List.forall_mem_cons.2 ⟨D46_4_z, List.forall_mem_cons.2 ⟨D30_5_z, List.forall_mem_cons.2 ⟨D30_11_z, List.forall_mem_cons.2 ⟨D47_3_z, List.forall_mem_cons.2 ⟨D47_8_z, List.forall_mem_cons.2 ⟨D47_9_z, List.forall_mem_cons.2 ⟨D27_9_z, List.forall_mem_cons.2 ⟨D69_2_z, List.forall_mem_cons.2 ⟨D69_11_z, List.forall_mem_cons.2 ⟨D69_14_z, List.forall_mem_cons.2 ⟨D69_23_z, List.forall_mem_cons.2 ⟨D56_3_z, List.forall_mem_cons.2 ⟨D57_9_z, List.forall_mem_cons.2 ⟨D57_15_z, List.forall_mem_cons.2 ⟨D40_4_z, List.forall_mem_cons.2 ⟨D43_4_z, List.forall_mem_cons.2 ⟨D11_2_z, List.forall_mem_cons.2 ⟨D11_3_z, List.forall_mem_cons.2 ⟨D11_4_z, List.forall_mem_cons.2 ⟨D11_5_z, List.forall_mem_cons.2 ⟨D11_6_z, List.forall_mem_cons.2 ⟨D4_5_z, List.forall_mem_cons.2 ⟨D4_6_z, List.forall_mem_cons.2 ⟨D51_3_z, List.forall_mem_cons.2 ⟨D51_9_z, List.forall_mem_cons.2 ⟨D51_11_z, List.forall_mem_cons.2 ⟨D28_2_z, List.forall_mem_cons.2 ⟨D6_4_z, List.forall_mem_cons.2 ⟨D33_3_z, List.forall_mem_cons.2 ⟨D7_2_z, List.forall_mem_cons.2 ⟨D9_7_z, List.forall_mem_cons.2 ⟨D9_12_z, List.forall_mem_cons.2 ⟨D13_2_z, List.forall_mem_cons.2 ⟨D13_5_z, List.forall_mem_cons.2 ⟨D38_4_z, List.forall_mem_cons.2 ⟨D10_5_z, List.forall_mem_cons.2 ⟨D10_6_z, List.forall_mem_cons.2 ⟨D10_8_z, List.forall_mem_cons.2 ⟨D10_18_z, (fun _ h => nomatch h)⟩⟩⟩⟩⟩⟩⟩⟩⟩⟩⟩⟩⟩⟩⟩⟩⟩⟩⟩⟩⟩⟩⟩⟩⟩⟩⟩⟩⟩⟩⟩⟩⟩⟩⟩⟩⟩⟩⟩⟩)
    (fun k => List.forall_mem_cons.2 ⟨T15_ok k, List.forall_mem_cons.2 ⟨T39_ok k, List.forall_mem_cons.2 ⟨T26_ok k, List.forall_mem_cons.2 ⟨T27_ok k, List.forall_mem_cons.2 ⟨T29_ok k, List.forall_mem_cons.2 ⟨T61_ok k, List.forall_mem_cons.2 ⟨T89_ok k, List.forall_mem_cons.2 ⟨T73_ok k, List.forall_mem_cons.2 ⟨T64_ok k, List.forall_mem_cons.2 ⟨T63_ok k, List.forall_mem_cons.2 ⟨T62_ok k, List.forall_mem_cons.2 ⟨T46_ok k, List.forall_mem_cons.2 ⟨T49_ok k, List.forall_mem_cons.2 ⟨T76_ok k, List.forall_mem_cons.2 ⟨T67_ok k, List.forall_mem_cons.2 ⟨T50_ok k, List.forall_mem_cons.2 ⟨T30_ok k, List.forall_mem_cons.2 ⟨T47_ok k, List.forall_mem_cons.2 ⟨T55_ok k, List.forall_mem_cons.2 ⟨T78_ok k, List.forall_mem_cons.2 ⟨T69_ok k, List.forall_mem_cons.2 ⟨T56_ok k, List.forall_mem_cons.2 ⟨T57_ok k, List.forall_mem_cons.2 ⟨T40_ok k, List.forall_mem_cons.2 ⟨T43_ok k, List.forall_mem_cons.2 ⟨T24_ok k, List.forall_mem_cons.2 ⟨T22_ok k, List.forall_mem_cons.2 ⟨T66_ok k, List.forall_mem_cons.2 ⟨T20_ok k, List.forall_mem_cons.2 ⟨T48_ok k, List.forall_mem_cons.2 ⟨T11_ok k, List.forall_mem_cons.2 ⟨T35_ok k, List.forall_mem_cons.2 ⟨T36_ok k, List.forall_mem_cons.2 ⟨T14_ok k, List.forall_mem_cons.2 ⟨T4_ok k, List.forall_mem_cons.2 ⟨T51_ok k, List.forall_mem_cons.2 ⟨T32_ok k, List.forall_mem_cons.2 ⟨T31_ok k, List.forall_mem_cons.2 ⟨T28_ok k, List.forall_mem_cons.2 ⟨T6_ok k, List.forall_mem_cons.2 ⟨T12_ok k, List.forall_mem_cons.2 ⟨T33_ok k, List.forall_mem_cons.2 ⟨T7_ok k, List.forall_mem_cons.2 ⟨T34_ok k, List.forall_mem_cons.2 ⟨T8_ok k, List.forall_mem_cons.2 ⟨T53_ok k, List.forall_mem_cons.2 ⟨T52_ok k, List.forall_mem_cons.2 ⟨T9_ok k, List.forall_mem_cons.2 ⟨T13_ok k, List.forall_mem_cons.2 ⟨T38_ok k, List.forall_mem_cons.2 ⟨T17_ok k, List.forall_mem_cons.2 ⟨T10_ok k, (fun _ h => nomatch h)⟩⟩⟩⟩⟩⟩⟩⟩⟩⟩⟩⟩⟩⟩⟩⟩⟩⟩⟩⟩⟩⟩⟩⟩⟩⟩⟩⟩⟩⟩⟩⟩⟩⟩⟩⟩⟩⟩⟩⟩⟩⟩⟩⟩⟩⟩⟩⟩⟩⟩⟩⟩)
    (fun k => List.forall_mem_cons.2 ⟨D64_2_ok k, List.forall_mem_cons.2 ⟨D46_4_ok k, List.forall_mem_cons.2 ⟨D30_5_ok k, List.forall_mem_cons.2 ⟨D30_11_ok k, List.forall_mem_cons.2 ⟨D47_3_ok k, List.forall_mem_cons.2 ⟨D47_8_ok k, List.forall_mem_cons.2 ⟨D47_9_ok k, List.forall_mem_cons.2 ⟨D27_9_ok k, List.forall_mem_cons.2 ⟨D69_2_ok k, List.forall_mem_cons.2 ⟨D69_11_ok k, List.forall_mem_cons.2 ⟨D69_14_ok k, List.forall_mem_cons.2 ⟨D69_23_ok k, List.forall_mem_cons.2 ⟨D56_3_ok k, List.forall_mem_cons.2 ⟨D57_9_ok k, List.forall_mem_cons.2 ⟨D57_15_ok k, List.forall_mem_cons.2 ⟨D40_4_ok k, List.forall_mem_cons.2 ⟨D43_4_ok k, List.forall_mem_cons.2 ⟨D11_2_ok k, List.forall_mem_cons.2 ⟨D11_3_ok k, List.forall_mem_cons.2 ⟨D11_4_ok k, List.forall_mem_cons.2 ⟨D11_5_ok k, List.forall_mem_cons.2 ⟨D11_6_ok k, List.forall_mem_cons.2 ⟨D4_5_ok k, List.forall_mem_cons.2 ⟨D4_6_ok k, List.forall_mem_cons.2 ⟨D51_3_ok k, List.forall_mem_cons.2 ⟨D51_9_ok k, List.forall_mem_cons.2 ⟨D51_11_ok k, List.forall_mem_cons.2 ⟨D28_2_ok k, List.forall_mem_cons.2 ⟨D6_4_ok k, List.forall_mem_cons.2 ⟨D33_3_ok k, List.forall_mem_cons.2 ⟨D7_2_ok k, List.forall_mem_cons.2 ⟨D9_7_ok k, List.forall_mem_cons.2 ⟨D9_12_ok k, List.forall_mem_cons.2 ⟨D13_2_ok k, List.forall_mem_cons.2 ⟨D13_5_ok k, List.forall_mem_cons.2 ⟨D38_4_ok k, List.forall_mem_cons.2 ⟨D10_5_ok k, List.forall_mem_cons.2 ⟨D10_6_ok k, List.forall_mem_cons.2 ⟨D10_8_ok k, List.forall_mem_cons.2 ⟨D10_18_ok k, (fun _ h => nomatch h)⟩⟩⟩⟩⟩⟩⟩⟩⟩⟩⟩⟩⟩⟩⟩⟩⟩⟩⟩⟩⟩⟩⟩⟩⟩⟩⟩⟩⟩⟩⟩⟩⟩⟩⟩⟩⟩⟩⟩⟩) k
end Go.V
