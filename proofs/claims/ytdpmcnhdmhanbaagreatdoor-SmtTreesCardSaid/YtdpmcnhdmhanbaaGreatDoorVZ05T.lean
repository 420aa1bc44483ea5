import Derived.Test.YtdpmcnhdmhanbaaGreatDoorVZ05S
import Derived.Test.YtdpmcnhdmhanbaaGreatDoorVZ05J
set_option maxHeartbeats 4000000
set_option linter.unusedVariables false
namespace Go.V
open Go
def T20 (k : Nat) : Fn PU := fun args boxes K => match args, boxes with
  | [.int .i64 r1], [] => Hold (F_smt_width k r1 (fun z0 => K (.bool z0) []))
  | _, _ => False
def T4 (k : Nat) : Fn PU := fun args boxes K => match args, boxes with
  | [.int .i64 r1], [] => Hold (F_smt_New k r1 (fun z0 => K (.tup [.nilp, .int .i64 z0]) []) (fun z0 z1 z2 z3 => K (.tup [.ptr 0 [], .int .i64 z0]) [.box (.agg [.int .i64 z1, .int .i64 z2, .tr 50 z3 []])]))
  | _, _ => False
def T21 (k : Nat) : Fn PU := fun args boxes K => match args, boxes with
  | [], [] => Hold (F_l05_a k (fun z0 z1 => K (.agg [.arr 5 32 z0, .arr 5 32 z1]) []))
  | _, _ => False
def T22 (k : Nat) : Fn PU := fun args boxes K => match args, boxes with
  | [], [] => Hold (F_l05_b k (fun z0 z1 => K (.agg [.arr 5 32 z0, .arr 5 32 z1]) []))
  | _, _ => False
def T40 (k : Nat) : Fn PU := fun args boxes K => match args, boxes with
  | [.ro true 50 r1], [] => Hold (F_slices_Clone_api_Leaf_api_Leaf k r1 (fun z0 => K (.usl 50 z0) []))
  | [.ro false 50 r1], [] => Hold (F_slices_Clone_api_Leaf_api_Leaf k r1 (fun z0 => K (.usl 50 z0) []))
  | _, _ => False
def T77 (k : Nat) : Fn PU := fun args boxes K => match args, boxes with
  | [.int .u8 r1], [] => Hold (F_cmp_isNaN_byte k r1 (fun z0 => K (.bool z0) []))
  | _, _ => False
def T60 (k : Nat) : Fn PU := fun args boxes K => match args, boxes with
  | [.int .u8 r1, .int .u8 r2], [] => Hold (F_cmp_Compare_byte k r1 r2 (fun z0 => K (.int .i64 z0) []))
  | _, _ => False
def T43 (k : Nat) : Fn PU := fun args boxes K => match args, boxes with
  | [.ro true 5 r1, .ro true 5 r2], [] => Hold (F_slices_Compare_byte_byte k r1 r2 (fun z0 => K (.int .i64 z0) []))
  | _, _ => False
def T42 (k : Nat) : Fn PU := fun args boxes K => match args, boxes with
  | [.agg [.arr 5 32 r1, .arr 5 32 r2], .agg [.arr 5 32 r3, .arr 5 32 r4]], [] => Hold (F_smt_twice_1 k r1 r2 r3 r4 (fun z0 => K (.int .i64 z0) []))
  | _, _ => False
def T41 (k : Nat) : Fn PU := fun args boxes K => match args, boxes with
  | [.own 0, .clo 42 []], [.lst 50 r1] => Hold (F_slices_SortFunc_api_Leaf_api_Leaf k r1 (fun z0 => K (.tup []) [.lst 50 z0]))
  | _, _ => False
def T25 (k : Nat) : Fn PU := fun args boxes K => match args, boxes with
  | [.ro true 50 r1], [] => Hold (F_smt_twice k r1 (fun z0 => K (.bool z0) []))
  | [.ro false 50 r1], [] => Hold (F_smt_twice k r1 (fun z0 => K (.bool z0) []))
  | _, _ => False
def T29 (k : Nat) : Fn PU := fun args boxes K => match args, boxes with
  | [.tr 50 r1 []], [] => Hold (F_smt_knot_inner k r1 (fun z0 => K (.bool z0) []))
  | [.ptr 0 []], [.box (.agg [.agg [.agg [.int .u32 r1, .int .i32 r2, .int .u32 r3], .arr 5 32 r4], .agg [.arr 5 32 r5, .arr 5 32 r6], .tr 50 r7 [], .tr 50 r8 []])] => Hold (F_smt_knot_inner_s1 k r1 r2 r3 r4 r5 r6 r7 r8 (fun z0 z1 z2 z3 z4 z5 z6 z7 z8 => K (.bool z0) [.box (.agg [.agg [.agg [.int .u32 z1, .int .i32 z2, .int .u32 z3], .arr 5 32 z4], .agg [.arr 5 32 z5, .arr 5 32 z6], .tr 50 z7 [], .tr 50 z8 []])]))
  | _, _ => False
def T61 (k : Nat) : Fn PU := fun args boxes K => match args, boxes with
  | [.int .i64 r1], [] => Hold (F_path_mask k r1 (fun z0 => K (.int .u8 z0) []))
  | _, _ => False
def T44 (k : Nat) : Fn PU := fun args boxes K => match args, boxes with
  | [.arr 5 32 r1, .int .i64 r2], [] => Hold (F_path_Bit k r1 r2 (fun z0 z1 => K (.tup [.int .i64 z0, .int .i64 z1]) []))
  | _, _ => False
def T30 (k : Nat) : Fn PU := fun args boxes K => match args, boxes with
  | [.arr 5 32 r1, .int .i64 r2], [] => Hold (F_smt_right k r1 r2 (fun z0 => K (.bool z0) []))
  | _, _ => False
def T13 (k : Nat) : Fn PU := fun args boxes K => match args, boxes with
  | [.ptr 0 [], .arr 5 32 r1], [.box (.agg [.int .i64 r2, .int .i64 r3, .tr 50 r4 []])] => Hold (F_smt_Tree_Get k r1 r2 r3 r4 (fun z0 z1 z2 z3 z4 => K (.tup [.arr 5 32 z0, .bool z1]) [.box (.agg [.int .i64 z2, .int .i64 z3, .tr 50 z4 []])]))
  | _, _ => False
def T26 (k : Nat) : Fn PU := fun args boxes K => match args, boxes with
  | [.tr 50 r1 [], .agg [.arr 5 32 r2, .arr 5 32 r3], .int .i64 r4], [] => Hold (F_smt_knot_with k r1 r2 r3 r4 (fun z0 => K (.tr 50 z0 []) []))
  | _, _ => False
def T9 (k : Nat) : Fn PU := fun args boxes K => match args, boxes with
  | [.ptr 0 [], .own 1], [.box (.agg [.int .i64 r1, .int .i64 r2, .tr 50 r3 []]), .lst 50 r4] => Hold (F_smt_Tree_Set k r1 r2 r3 r4 (fun z0 z1 z2 z3 z4 => K (.int .i64 z0) [.box (.agg [.int .i64 z1, .int .i64 z2, .tr 50 z3 []]), .lst 50 z4]))
  | [.ptr 0 [], .ro false 50 r1], [.box (.agg [.int .i64 r2, .int .i64 r3, .tr 50 r4 []])] => Hold (F_smt_Tree_Set_s1 k r1 r2 r3 r4 (fun z0 z1 z2 z3 => K (.int .i64 z0) [.box (.agg [.int .i64 z1, .int .i64 z2, .tr 50 z3 []])]))
  | _, _ => False
def T28 (k : Nat) : Fn PU := fun args boxes K => match args, boxes with
  | [.tr 50 r1 [], .arr 5 32 r2, .int .i64 r3], [] => Hold (F_smt_knot_without k r1 r2 r3 (fun z0 => K (.tr 50 z0 []) []))
  | _, _ => False
def T12 (k : Nat) : Fn PU := fun args boxes K => match args, boxes with
  | [.ptr 0 [], .arr 5 32 r1], [.box (.agg [.int .i64 r2, .int .i64 r3, .tr 50 r4 []])] => Hold (F_smt_Tree_Drop k r1 r2 r3 r4 (fun z0 z1 z2 z3 => K (.bool z0) [.box (.agg [.int .i64 z1, .int .i64 z2, .tr 50 z3 []])]))
  | _, _ => False
def T16 (k : Nat) : Fn PU := fun args boxes K => match args, boxes with
  | [.ptr 0 []], [.box (.agg [.int .i64 r1, .int .i64 r2, .tr 50 r3 []])] => Hold (F_smt_Tree_Len k r1 r2 r3 (fun z0 z1 z2 z3 => K (.int .i64 z0) [.box (.agg [.int .i64 z1, .int .i64 z2, .tr 50 z3 []])]))
  | _, _ => False
def T54 (k : Nat) : Fn PU := fun args boxes K => match args, boxes with
  | [], [] => Hold (F_sha_New k (fun z0 z1 z2 => K (.ptr 0 []) [.box (.agg [.arr 64 8 z0, .arr 5 64 z1, .int .i64 z2])]))
  | _, _ => False
def T85 (k : Nat) : Fn PU := fun args boxes K => match args, boxes with
  | [.int .u32 r1, .int .i64 r2], [] => Hold (F_math_bits_RotateLeft32 k r1 r2 (fun z0 => K (.int .u32 z0) []))
  | _, _ => False
def T66 (k : Nat) : Fn PU := fun args boxes K => match args, boxes with
  | [.ptr 0 []], [.box (.agg [.arr 64 8 r1, .arr 5 64 r2, .int .i64 r3])] => Hold (F_sha_Hash_mix k r1 r2 r3 (fun z0 z1 z2 => K (.tup []) [.box (.agg [.arr 64 8 z0, .arr 5 64 z1, .int .i64 z2])]))
  | _, _ => False
def T55 (k : Nat) : Fn PU := fun args boxes K => match args, boxes with
  | [.ptr 0 [], .ro false 5 r1], [.box (.agg [.arr 64 8 r2, .arr 5 64 r3, .int .i64 r4])] => Hold (F_sha_Hash_Write k r1 r2 r3 r4 (fun z0 z1 z2 z3 => K (.int .i64 z0) [.box (.agg [.arr 64 8 z1, .arr 5 64 z2, .int .i64 z3])]))
  | _, _ => False
def T57 (k : Nat) : Fn PU := fun args boxes K => match args, boxes with
  | [.ptr 0 []], [.box (.agg [.arr 64 8 r1, .arr 5 64 r2, .int .i64 r3])] => Hold (F_sha_Hash_Sum k r1 r2 r3 (fun z0 z1 z2 z3 => K (.arr 5 32 z0) [.box (.agg [.arr 64 8 z1, .arr 5 64 z2, .int .i64 z3])]))
  | _, _ => False
def T56 (k : Nat) : Fn PU := fun args boxes K => match args, boxes with
  | [.int .i64 r1, .arr 5 32 r2], [] => Hold (F_smt_short k r1 r2 (fun z0 => K (.arr 5 32 z0) []))
  | _, _ => False
def T39 (k : Nat) : Fn PU := fun args boxes K => match args, boxes with
  | [.int .i64 r1, .int .u8 r2, .ro true 25 r3], [] => Hold (F_smt_summed k r1 r2 r3 (fun z0 => K (.arr 5 32 z0) []))
  | [.int .i64 r1, .int .u8 r2, .ro false 25 r3], [] => Hold (F_smt_summed k r1 r2 r3 (fun z0 => K (.arr 5 32 z0) []))
  | _, _ => False
def T50 (k : Nat) : Fn PU := fun args boxes K => match args, boxes with
  | [.int .i64 r1, .arr 5 32 r2, .arr 5 32 r3], [] => Hold (F_smt_Node k r1 r2 r3 (fun z0 => K (.arr 5 32 z0) []))
  | _, _ => False
def T23 (k : Nat) : Fn PU := fun args boxes K => match args, boxes with
  | [.int .i64 r1, .agg [.arr 5 32 r2, .arr 5 32 r3]], [] => Hold (F_smt_Leaf k r1 r2 r3 (fun z0 => K (.arr 5 32 z0) []))
  | _, _ => False
def T49 (k : Nat) : Fn PU := fun args boxes K => match args, boxes with
  | [.ptr 0 [], .ptr 1 []], [.box (.ptr 2 []), .box (.int .i64 r1), .box (.agg [.agg [.agg [.int .u32 r2, .int .i32 r3, .int .u32 r4], .arr 5 32 r5], .agg [.arr 5 32 r6, .arr 5 32 r7], .tr 50 r8 [], .tr 50 r9 []])] => Hold (F_smt_knot_digest_1 k r1 r2 r3 r4 r5 r6 r7 r8 r9 (fun z0 z1 z2 z3 z4 z5 z6 z7 z8 => K (.tup []) [.box (.ptr 2 []), .box (.int .i64 z0), .box (.agg [.agg [.agg [.int .u32 z1, .int .i32 z2, .int .u32 z3], .arr 5 32 z4], .agg [.arr 5 32 z5, .arr 5 32 z6], .tr 50 z7 [], .tr 50 z8 []])]))
  | _, _ => False
def T47 (k : Nat) : Fn PU := fun args boxes K => match args, boxes with
  | [.int .i64 r1], [] => Hold (F_smt_Empty k r1 (fun z0 => K (.arr 5 32 z0) []))
  | _, _ => False
def T34 (k : Nat) : Fn PU := fun args boxes K => match args, boxes with
  | [.tr 50 r1 [], .int .i64 r2], [] => Hold (F_smt_knot_digest k r1 r2 (fun z0 => K (.arr 5 32 z0) []))
  | _, _ => False
def T18 (k : Nat) : Fn PU := fun args boxes K => match args, boxes with
  | [.ptr 0 []], [.box (.agg [.int .i64 r1, .int .i64 r2, .tr 50 r3 []])] => Hold (F_smt_Tree_Root k r1 r2 r3 (fun z0 z1 z2 z3 => K (.arr 5 32 z0) [.box (.agg [.int .i64 z1, .int .i64 z2, .tr 50 z3 []])]))
  | _, _ => False
def T5 (k : Nat) : Fn PU := fun args boxes K => match args, boxes with
  | [], [] => Hold (F_l05_grows k (fun z0 => K (.bool z0) []))
  | _, _ => False
def T6 (k : Nat) : Fn PU := fun args boxes K => match args, boxes with
  | [.int .i64 r1], [] => Hold (F_r05_Width k r1 (fun z0 => K (.bool z0) []))
  | _, _ => False
def T7 (k : Nat) : Fn PU := fun args boxes K => match args, boxes with
  | [.ro false 50 r1], [] => Hold (F_l05_own k r1 (fun z0 => K (.usl 50 z0) []))
  | _, _ => False
def T24 (k : Nat) : Fn PU := fun args boxes K => match args, boxes with
  | [.ro true 50 r1], [] => Hold (F_r05_Twice k r1 (fun z0 => K (.bool z0) []))
  | _, _ => False
def T11 (k : Nat) : Fn PU := fun args boxes K => match args, boxes with
  | [.ro true 50 r1, .arr 5 32 r2], [] => Hold (F_r05_Drop k r1 r2 (fun z0 z1 => K (.tup [.usl 50 z0, .bool z1]) []))
  | _, _ => False
def T8 (k : Nat) : Fn PU := fun args boxes K => match args, boxes with
  | [.ro true 50 r1, .ro true 50 r2], [] => Hold (F_r05_Set k r1 r2 (fun z0 z1 => K (.tup [.ro true 50 z0, .int .i64 z1]) []) (fun z0 z1 => K (.tup [.usl 50 z0, .int .i64 z1]) []))
  | _, _ => False
def T27 (k : Nat) : Fn PU := fun args boxes K => match args, boxes with
  | [.ro false 50 r1, .ro true 50 r2], [] => Hold (F_r05_Same k r1 r2 (fun z0 => K (.bool z0) []))
  | [.ro true 50 r1, .ro true 50 r2], [] => Hold (F_r05_Same k r1 r2 (fun z0 => K (.bool z0) []))
  | _, _ => False
def T10 (k : Nat) : Fn PU := fun args boxes K => match args, boxes with
  | [.ro false 50 r1, .ro true 50 r2], [] => Hold (F_l05_same k r1 r2 (fun z0 => K (.bool z0) []))
  | [.ro true 50 r1, .ro true 50 r2], [] => Hold (F_l05_same k r1 r2 (fun z0 => K (.bool z0) []))
  | _, _ => False
def T32 (k : Nat) : Fn PU := fun args boxes K => match args, boxes with
  | [.agg [.arr 5 32 r1, .arr 5 32 r2], .ptr 0 []], [.box (.own 1), .lst 50 r3] => Hold (F_smt_Tree_Leaves_1 k r1 r2 r3 (fun z0 => K (.tup []) [.box (.own 2), .dead, .lst 50 z0]))
  | _, _ => False
def T31 (k : Nat) : Fn PU := fun args boxes K => match args, boxes with
  | [.tr 50 r1 [], .clo 32 [.ptr 0 []]], [.box (.own 1), .lst 50 r2] => Hold (F_smt_knot_each k r1 r2 (fun z0 => K (.tup []) [.box (.own 2), .dead, .lst 50 z0]) (fun z0 => K (.tup []) [.box (.own 1), .lst 50 z0]))
  | _, _ => False
def T15 (k : Nat) : Fn PU := fun args boxes K => match args, boxes with
  | [.ptr 0 []], [.box (.agg [.int .i64 r1, .int .i64 r2, .tr 50 r3 []])] => Hold (F_smt_Tree_Leaves k r1 r2 r3 (fun z0 z1 z2 z3 => K (.own 1) [.box (.agg [.int .i64 z0, .int .i64 z1, .tr 50 z2 []]), .lst 50 z3]))
  | _, _ => False
def T62 (k : Nat) : Fn PU := fun args boxes K => match args, boxes with
  | [.int .i64 r1], [] => Hold (F_r04_weight k r1 (fun z0 => K (.int .i64 z0) []))
  | _, _ => False
def T46 (k : Nat) : Fn PU := fun args boxes K => match args, boxes with
  | [.arr 5 32 r1, .int .i64 r2], [] => Hold (F_r04_At k r1 r2 (fun z0 => K (.int .i64 z0) []))
  | _, _ => False
def T45 (k : Nat) : Fn PU := fun args boxes K => match args, boxes with
  | [.arr 5 32 r1, .arr 5 32 r2], [] => Hold (F_r04_Common k r1 r2 (fun z0 => K (.int .i64 z0) []))
  | _, _ => False
def T33 (k : Nat) : Fn PU := fun args boxes K => match args, boxes with
  | [.arr 5 32 r1, .arr 5 32 r2], [] => Hold (F_r04_Less k r1 r2 (fun z0 => K (.bool z0) []))
  | _, _ => False
def T17 (k : Nat) : Fn PU := fun args boxes K => match args, boxes with
  | [.ro true 50 r1], [] => Hold (F_r05_Sorted k r1 (fun z0 => K (.usl 50 z0) []))
  | _, _ => False
def T82 (k : Nat) : Fn PU := fun args boxes K => match args, boxes with
  | [.ro true 5 r1], [] => Hold (F_r02_Padded k r1 (fun z0 => K (.usl 5 z0) []))
  | _, _ => False
def T83 (k : Nat) : Fn PU := fun args boxes K => match args, boxes with
  | [], [] => Hold (F_r02_begin k (fun z0 => K (.arr 64 8 z0) []))
  | _, _ => False
def T95 (k : Nat) : Fn PU := fun args boxes K => match args, boxes with
  | [.int .u32 r1, .int .i64 r2], [] => Hold (F_r02_turned k r1 r2 (fun z0 => K (.int .u32 z0) []))
  | _, _ => False
def T84 (k : Nat) : Fn PU := fun args boxes K => match args, boxes with
  | [.arr 64 8 r1, .ro true 5 r2], [] => Hold (F_r02_block k r1 r2 (fun z0 => K (.arr 64 8 z0) []))
  | _, _ => False
def T65 (k : Nat) : Fn PU := fun args boxes K => match args, boxes with
  | [.ro true 5 r1], [] => Hold (F_r02_Sum k r1 (fun z0 => K (.arr 5 32 z0) []))
  | _, _ => False
def T51 (k : Nat) : Fn PU := fun args boxes K => match args, boxes with
  | [.int .i64 r1, .ro true 5 r2], [] => Hold (F_r05_Short k r1 r2 (fun z0 z1 => K (.tup [.arr 5 32 z0, .int .i64 z1]) []))
  | _, _ => False
def T35 (k : Nat) : Fn PU := fun args boxes K => match args, boxes with
  | [.int .i64 r1], [] => Hold (F_r05_Empty k r1 (fun z0 => K (.arr 5 32 z0) []))
  | _, _ => False
def T52 (k : Nat) : Fn PU := fun args boxes K => match args, boxes with
  | [.agg [.arr 5 32 r1, .arr 5 32 r2]], [] => Hold (F_r05_LeafBytes k r1 r2 (fun z0 => K (.usl 5 z0) []))
  | _, _ => False
def T36 (k : Nat) : Fn PU := fun args boxes K => match args, boxes with
  | [.int .i64 r1, .agg [.arr 5 32 r2, .arr 5 32 r3]], [] => Hold (F_r05_Leaf k r1 r2 r3 (fun z0 => K (.arr 5 32 z0) []))
  | _, _ => False
def T37 (k : Nat) : Fn PU := fun args boxes K => match args, boxes with
  | [.ro true 50 r1, .int .i64 r2, .int .i64 r3], [] => Hold (F_r05_Half k r1 r2 r3 (fun z0 => K (.usl 50 z0) []))
  | _, _ => False
def T53 (k : Nat) : Fn PU := fun args boxes K => match args, boxes with
  | [.arr 5 32 r1, .arr 5 32 r2], [] => Hold (F_r05_NodeBytes k r1 r2 (fun z0 => K (.usl 5 z0) []))
  | _, _ => False
def T38 (k : Nat) : Fn PU := fun args boxes K => match args, boxes with
  | [.int .i64 r1, .arr 5 32 r2, .arr 5 32 r3], [] => Hold (F_r05_Node k r1 r2 r3 (fun z0 => K (.arr 5 32 z0) []))
  | _, _ => False
def T19 (k : Nat) : Fn PU := fun args boxes K => match args, boxes with
  | [.int .i64 r1, .ro true 50 r2, .int .i64 r3], [] => Hold (F_r05_Digest k r1 r2 r3 (fun z0 => K (.arr 5 32 z0) []))
  | _, _ => False
def T14 (k : Nat) : Fn PU := fun args boxes K => match args, boxes with
  | [.ro true 50 r1, .arr 5 32 r2], [] => Hold (F_r05_Get k r1 r2 (fun z0 z1 => K (.tup [.arr 5 32 z0, .bool z1]) []))
  | _, _ => False
def T3 (k : Nat) : Fn PU := fun args boxes K => match args, boxes with
  | [.int .i64 r1, .ro false 27 r2], [] => Hold (F_l05_SmtTrees k r1 r2 (fun z0 => K (.bool z0) []))
  | _, _ => False
def D43_2 (k : Nat) : Nat → List (A PU) → List (AObj PU) → (A PU → List (AObj PU) → Prop) → Prop := fun nb vals objs K => match nb, vals, objs with
  | 0, [.ro true 5 r3, .ro true 5 r4, .ro true 5 r5, .int .i64 r6, .int .i64 r7], [] => Hold (C_slices_Compare_byte_byte_2 k r3 r4 r5 r6 r7 (fun z0 => K (.int .i64 z0) []))
  | _, _, _ => False
def D25_4 (k : Nat) : Nat → List (A PU) → List (AObj PU) → (A PU → List (AObj PU) → Prop) → Prop := fun nb vals objs K => match nb, vals, objs with
  | 0, [.own 0, .int .i64 r4, .int .i64 r5], [.lst 50 r6] => Hold (C_smt_twice_4 k r4 r5 r6 (fun z0 => K (.bool z0) []))
  | _, _, _ => False
def D13_5 (k : Nat) : Nat → List (A PU) → List (AObj PU) → (A PU → List (AObj PU) → Prop) → Prop := fun nb vals objs K => match nb, vals, objs with
  | 1, [.ptr 1 [], .ptr 2 [], .tr 50 r5 [], .int .i64 r6], [.box (.agg [.int .i64 r7, .int .i64 r8, .tr 50 r9 []]), .box (.arr 5 32 r10), .box (.arr 5 32 r11)] => Hold (C_smt_Tree_Get_5 k r5 r6 r7 r8 r9 r10 r11 (fun z0 z1 z2 z3 z4 => K (.tup [.arr 5 32 z0, .bool z1]) [.box (.agg [.int .i64 z2, .int .i64 z3, .tr 50 z4 []])]))
  | _, _, _ => False
def D13_11 (k : Nat) : Nat → List (A PU) → List (AObj PU) → (A PU → List (AObj PU) → Prop) → Prop := fun nb vals objs K => match nb, vals, objs with
  | 1, [.ptr 1 []], [.box (.agg [.int .i64 r14, .int .i64 r15, .tr 50 r16 []]), .box (.arr 5 32 r17)] => Hold (C_smt_Tree_Get_11 k r14 r15 r16 r17 (fun z0 z1 z2 z3 z4 => K (.tup [.arr 5 32 z0, .bool z1]) [.box (.agg [.int .i64 z2, .int .i64 z3, .tr 50 z4 []])]))
  | _, _, _ => False
def D26_3 (k : Nat) : Nat → List (A PU) → List (AObj PU) → (A PU → List (AObj PU) → Prop) → Prop := fun nb vals objs K => match nb, vals, objs with
  | 0, [.tr 50 r8 [], .int .i64 r9, .ptr 0 []], [.box (.agg [.arr 5 32 r10, .arr 5 32 r11])] => Hold (C_smt_knot_with_3 k r8 r9 r10 r11 (fun z0 => K (.tr 50 z0 []) []))
  | _, _, _ => False
def D26_8 (k : Nat) : Nat → List (A PU) → List (AObj PU) → (A PU → List (AObj PU) → Prop) → Prop := fun nb vals objs K => match nb, vals, objs with
  | 0, [.ptr 0 [], .int .i64 r16, .ptr 1 []], [.box (.agg [.agg [.gh r17, .arr 5 32 r18], .agg [.arr 5 32 r19, .arr 5 32 r20], .tr 50 r21 [], .tr 50 r22 []]), .box (.agg [.arr 5 32 r23, .arr 5 32 r24])] => Hold (C_smt_knot_with_8 k r16 r17 r18 r19 r20 r21 r22 r23 r24 (fun z0 => K (.tr 50 z0 []) []))
  | 0, [.tr 50 r38 [], .int .i64 r39, .ptr 0 []], [.box (.agg [.arr 5 32 r40, .arr 5 32 r41])] => Hold (C_smt_knot_with_8_1 k r38 r39 r40 r41 (fun z0 => K (.tr 50 z0 []) []))
  | _, _, _ => False
def D26_9 (k : Nat) : Nat → List (A PU) → List (AObj PU) → (A PU → List (AObj PU) → Prop) → Prop := fun nb vals objs K => match nb, vals, objs with
  | 0, [.int .i64 r26, .ptr 0 [], .ptr 1 []], [.box (.agg [.arr 5 32 r27, .arr 5 32 r28]), .box (.agg [.agg [.gh r29, .arr 5 32 r30], .agg [.arr 5 32 r31, .arr 5 32 r32], .tr 50 r33 [], .tr 50 r34 []])] => Hold (C_smt_knot_with_9 k r26 r27 r28 r29 r30 r31 r32 r33 r34 (fun z0 => K (.tr 50 z0 []) []))
  | _, _, _ => False
def D9_9 (k : Nat) : Nat → List (A PU) → List (AObj PU) → (A PU → List (AObj PU) → Prop) → Prop := fun nb vals objs K => match nb, vals, objs with
  | 2, [.ptr 0 [], .tr 50 r6 [], .int .i64 r7, .own 1, .int .i64 r8, .int .i64 r9], [.box (.agg [.int .i64 r10, .int .i64 r11, .tr 50 r12 []]), .lst 50 r13] => Hold (C_smt_Tree_Set_9 k r6 r7 r8 r9 r10 r11 r12 r13 (fun z0 z1 z2 z3 z4 => K (.int .i64 z0) [.box (.agg [.int .i64 z1, .int .i64 z2, .tr 50 z3 []]), .lst 50 z4]))
  | 1, [.ptr 0 [], .tr 50 r6 [], .int .i64 r7, .ro false 50 r8, .int .i64 r9, .int .i64 r10], [.box (.agg [.int .i64 r11, .int .i64 r12, .tr 50 r13 []])] => Hold (C_smt_Tree_Set_9_1 k r6 r7 r8 r9 r10 r11 r12 r13 (fun z0 z1 z2 z3 => K (.int .i64 z0) [.box (.agg [.int .i64 z1, .int .i64 z2, .tr 50 z3 []])]))
  | _, _, _ => False
def D9_14 (k : Nat) : Nat → List (A PU) → List (AObj PU) → (A PU → List (AObj PU) → Prop) → Prop := fun nb vals objs K => match nb, vals, objs with
  | 2, [.ptr 0 [], .tr 50 r19 [], .int .i64 r20, .ptr 2 [], .own 1, .int .i64 r21, .int .i64 r22], [.box (.agg [.int .i64 r23, .int .i64 r24, .tr 50 r25 []]), .lst 50 r26, .box (.agg [.arr 5 32 r27, .arr 5 32 r28])] => Hold (C_smt_Tree_Set_14 k r19 r20 r21 r22 r23 r24 r25 r26 r27 r28 (fun z0 z1 z2 z3 z4 => K (.int .i64 z0) [.box (.agg [.int .i64 z1, .int .i64 z2, .tr 50 z3 []]), .lst 50 z4]))
  | 1, [.ptr 0 [], .tr 50 r19 [], .int .i64 r20, .ptr 1 [], .ro false 50 r21, .int .i64 r22, .int .i64 r23], [.box (.agg [.int .i64 r24, .int .i64 r25, .tr 50 r26 []]), .box (.agg [.arr 5 32 r27, .arr 5 32 r28])] => Hold (C_smt_Tree_Set_14_1 k r19 r20 r21 r22 r23 r24 r25 r26 r27 r28 (fun z0 z1 z2 z3 => K (.int .i64 z0) [.box (.agg [.int .i64 z1, .int .i64 z2, .tr 50 z3 []])]))
  | _, _, _ => False
def D28_3 (k : Nat) : Nat → List (A PU) → List (AObj PU) → (A PU → List (AObj PU) → Prop) → Prop := fun nb vals objs K => match nb, vals, objs with
  | 0, [.tr 50 r5 [], .int .i64 r6, .ptr 0 []], [.box (.arr 5 32 r7)] => Hold (C_smt_knot_without_3 k r5 r6 r7 (fun z0 => K (.tr 50 z0 []) []))
  | _, _, _ => False
def D28_9 (k : Nat) : Nat → List (A PU) → List (AObj PU) → (A PU → List (AObj PU) → Prop) → Prop := fun nb vals objs K => match nb, vals, objs with
  | 0, [.ptr 0 []], [.box (.agg [.agg [.gh r12, .arr 5 32 r13], .agg [.arr 5 32 r14, .arr 5 32 r15], .tr 50 r16 [], .tr 50 r17 []])] => Hold (C_smt_knot_without_9 k r12 r13 r14 r15 r16 r17 (fun z0 => K (.tr 50 z0 []) []))
  | _, _, _ => False
def D28_11 (k : Nat) : Nat → List (A PU) → List (AObj PU) → (A PU → List (AObj PU) → Prop) → Prop := fun nb vals objs K => match nb, vals, objs with
  | 0, [.ptr 0 []], [.box (.agg [.agg [.gh r19, .arr 5 32 r20], .agg [.arr 5 32 r21, .arr 5 32 r22], .tr 50 r23 [], .tr 50 r24 []])] => Hold (C_smt_knot_without_11 k r19 r20 r21 r22 r23 r24 (fun z0 => K (.tr 50 z0 []) []))
  | _, _, _ => False
def D66_2 (k : Nat) : Nat → List (A PU) → List (AObj PU) → (A PU → List (AObj PU) → Prop) → Prop := fun nb vals objs K => match nb, vals, objs with
  | 1, [.ptr 0 [], .ptr 1 [], .int .i64 r4], [.box (.agg [.arr 64 8 r5, .arr 5 64 r6, .int .i64 r7]), .box (.arr 64 64 r8)] => Hold (C_sha_Hash_mix_2 k r4 r5 r6 r7 r8 (fun z0 z1 z2 => K (.tup []) [.box (.agg [.arr 64 8 z0, .arr 5 64 z1, .int .i64 z2])]))
  | _, _, _ => False
def D66_11 (k : Nat) : Nat → List (A PU) → List (AObj PU) → (A PU → List (AObj PU) → Prop) → Prop := fun nb vals objs K => match nb, vals, objs with
  | 1, [.ptr 0 [], .ptr 1 [], .int .i64 r9], [.box (.agg [.arr 64 8 r10, .arr 5 64 r11, .int .i64 r12]), .box (.arr 64 64 r13)] => Hold (C_sha_Hash_mix_11 k r9 r10 r11 r12 r13 (fun z0 z1 z2 => K (.tup []) [.box (.agg [.arr 64 8 z0, .arr 5 64 z1, .int .i64 z2])]))
  | _, _, _ => False
def D66_14 (k : Nat) : Nat → List (A PU) → List (AObj PU) → (A PU → List (AObj PU) → Prop) → Prop := fun nb vals objs K => match nb, vals, objs with
  | 1, [.ptr 0 [], .int .u32 r18, .int .u32 r19, .int .u32 r20, .int .u32 r21, .int .u32 r22, .int .u32 r23, .int .u32 r24, .int .u32 r25, .arr 64 64 r26, .int .i64 r27], [.box (.agg [.arr 64 8 r28, .arr 5 64 r29, .int .i64 r30])] => Hold (C_sha_Hash_mix_14 k r18 r19 r20 r21 r22 r23 r24 r25 r26 r27 r28 r29 r30 (fun z0 z1 z2 => K (.tup []) [.box (.agg [.arr 64 8 z0, .arr 5 64 z1, .int .i64 z2])]))
  | _, _, _ => False
def D66_23 (k : Nat) : Nat → List (A PU) → List (AObj PU) → (A PU → List (AObj PU) → Prop) → Prop := fun nb vals objs K => match nb, vals, objs with
  | 1, [.ptr 0 [], .arr 64 8 r37, .int .i64 r38], [.box (.agg [.arr 64 8 r39, .arr 5 64 r40, .int .i64 r41])] => Hold (C_sha_Hash_mix_23 k r37 r38 r39 r40 r41 (fun z0 z1 z2 => K (.tup []) [.box (.agg [.arr 64 8 z0, .arr 5 64 z1, .int .i64 z2])]))
  | _, _, _ => False
def D55_3 (k : Nat) : Nat → List (A PU) → List (AObj PU) → (A PU → List (AObj PU) → Prop) → Prop := fun nb vals objs K => match nb, vals, objs with
  | 1, [.ptr 0 [], .ro false 5 r5], [.box (.agg [.arr 64 8 r6, .arr 5 64 r7, .int .i64 r8])] => Hold (C_sha_Hash_Write_3 k r5 r6 r7 r8 (fun z0 z1 z2 z3 => K (.int .i64 z0) [.box (.agg [.arr 64 8 z1, .arr 5 64 z2, .int .i64 z3])]))
  | _, _, _ => False
def D57_9 (k : Nat) : Nat → List (A PU) → List (AObj PU) → (A PU → List (AObj PU) → Prop) → Prop := fun nb vals objs K => match nb, vals, objs with
  | 1, [.ptr 0 [], .ptr 1 [], .ptr 2 [], .ptr 3 [], .ptr 4 [], .int .i64 r8, .int .i64 r9], [.box (.agg [.arr 64 8 r10, .arr 5 64 r11, .int .i64 r12]), .box (.arr 5 32 r13), .box (.arr 5 32 r14), .box (.agg [.arr 64 8 r15, .arr 5 64 r16, .int .i64 r17]), .box (.arr 5 72 r18)] => Hold (C_sha_Hash_Sum_9 k r8 r9 r10 r11 r12 r13 r14 r15 r16 r17 r18 (fun z0 z1 z2 z3 => K (.arr 5 32 z0) [.box (.agg [.arr 64 8 z1, .arr 5 64 z2, .int .i64 z3])]))
  | _, _, _ => False
def D57_15 (k : Nat) : Nat → List (A PU) → List (AObj PU) → (A PU → List (AObj PU) → Prop) → Prop := fun nb vals objs K => match nb, vals, objs with
  | 1, [.ptr 1 [], .ptr 2 [], .ptr 3 [], .int .i64 r23], [.box (.agg [.arr 64 8 r24, .arr 5 64 r25, .int .i64 r26]), .box (.arr 5 32 r27), .box (.arr 5 32 r28), .box (.agg [.arr 64 8 r29, .arr 5 64 r30, .int .i64 r31])] => Hold (C_sha_Hash_Sum_15 k r23 r24 r25 r26 r27 r28 r29 r30 r31 (fun z0 z1 z2 z3 => K (.arr 5 32 z0) [.box (.agg [.arr 64 8 z1, .arr 5 64 z2, .int .i64 z3])]))
  | _, _, _ => False
def D56_4 (k : Nat) : Nat → List (A PU) → List (AObj PU) → (A PU → List (AObj PU) → Prop) → Prop := fun nb vals objs K => match nb, vals, objs with
  | 0, [.ptr 0 [], .ptr 1 []], [.box (.arr 5 32 r4), .box (.arr 5 32 r5)] => Hold (C_smt_short_4 k r4 r5 (fun z0 => K (.arr 5 32 z0) []))
  | _, _, _ => False
def D39_4 (k : Nat) : Nat → List (A PU) → List (AObj PU) → (A PU → List (AObj PU) → Prop) → Prop := fun nb vals objs K => match nb, vals, objs with
  | 0, [.int .i64 r11, .ptr 0 [], .ptr 1 [], .ro true 25 r12, .int .i64 r13, .int .i64 r14], [.box (.arr 5 32 r15), .box (.agg [.arr 64 8 r16, .arr 5 64 r17, .int .i64 r18])] => Hold (C_smt_summed_4 k r11 r12 r13 r14 r15 r16 r17 r18 (fun z0 => K (.arr 5 32 z0) []))
  | 0, [.int .i64 r11, .ptr 0 [], .ptr 1 [], .ro false 25 r12, .int .i64 r13, .int .i64 r14], [.box (.arr 5 32 r15), .box (.agg [.arr 64 8 r16, .arr 5 64 r17, .int .i64 r18])] => Hold (C_smt_summed_4 k r11 r12 r13 r14 r15 r16 r17 r18 (fun z0 => K (.arr 5 32 z0) []))
  | _, _, _ => False
def D5_2 (k : Nat) : Nat → List (A PU) → List (AObj PU) → (A PU → List (AObj PU) → Prop) → Prop := fun nb vals objs K => match nb, vals, objs with
  | 0, [.nilp, .int .i64 r2], [] => Hold (C_l05_grows_2 k r2 (fun z0 => K (.bool z0) []))
  | 0, [.ptr 0 [], .int .i64 r7], [.box (.agg [.int .i64 r8, .int .i64 r9, .tr 50 r10 []])] => Hold (C_l05_grows_2_1 k r7 r8 r9 r10 (fun z0 => K (.bool z0) []))
  | _, _, _ => False
def D24_2 (k : Nat) : Nat → List (A PU) → List (AObj PU) → (A PU → List (AObj PU) → Prop) → Prop := fun nb vals objs K => match nb, vals, objs with
  | 0, [.ro true 50 r2, .int .i64 r3], [] => Hold (C_r05_Twice_2 k r2 r3 (fun z0 => K (.bool z0) []))
  | _, _, _ => False
def D24_5 (k : Nat) : Nat → List (A PU) → List (AObj PU) → (A PU → List (AObj PU) → Prop) → Prop := fun nb vals objs K => match nb, vals, objs with
  | 0, [.ro true 50 r4, .int .i64 r5, .int .i64 r6], [] => Hold (C_r05_Twice_5 k r4 r5 r6 (fun z0 => K (.bool z0) []))
  | _, _, _ => False
def D11_3 (k : Nat) : Nat → List (A PU) → List (AObj PU) → (A PU → List (AObj PU) → Prop) → Prop := fun nb vals objs K => match nb, vals, objs with
  | 0, [.ro true 50 r3, .ptr 0 [], .own 1, .int .i64 r4], [.box (.arr 5 32 r5), .lst 50 r6] => Hold (C_r05_Drop_3 k r3 r4 r5 r6 (fun z0 z1 => K (.tup [.usl 50 z0, .bool z1]) []))
  | _, _, _ => False
def D11_4 (k : Nat) : Nat → List (A PU) → List (AObj PU) → (A PU → List (AObj PU) → Prop) → Prop := fun nb vals objs K => match nb, vals, objs with
  | 0, [.ro true 50 r7, .ptr 0 [], .own 1, .int .i64 r8], [.box (.arr 5 32 r9), .lst 50 r10] => Hold (C_r05_Drop_4 k r7 r8 r9 r10 (fun z0 z1 => K (.tup [.usl 50 z0, .bool z1]) []))
  | _, _, _ => False
def D8_7 (k : Nat) : Nat → List (A PU) → List (AObj PU) → (A PU → List (AObj PU) → Prop) → Prop := fun nb vals objs K => match nb, vals, objs with
  | 0, [.ro true 50 r4, .ro true 50 r5, .ro true 50 r6, .int .i64 r7], [] => Hold (C_r05_Set_7 k r4 r5 r6 r7 (fun z0 z1 => K (.tup [.ro true 50 z0, .int .i64 z1]) []) (fun z0 z1 => K (.tup [.usl 50 z0, .int .i64 z1]) []))
  | 0, [.ro true 50 r18, .ro true 50 r19, .own 0, .int .i64 r20], [.lst 50 r21] => Hold (C_r05_Set_7_1 k r18 r19 r20 r21 (fun z0 z1 => K (.tup [.ro true 50 z0, .int .i64 z1]) []) (fun z0 z1 => K (.tup [.usl 50 z0, .int .i64 z1]) []))
  | _, _, _ => False
def D8_9 (k : Nat) : Nat → List (A PU) → List (AObj PU) → (A PU → List (AObj PU) → Prop) → Prop := fun nb vals objs K => match nb, vals, objs with
  | 0, [.ro true 50 r8, .ro true 50 r9, .ro true 50 r10, .int .i64 r11], [] => Hold (C_r05_Set_9 k r8 r9 r10 r11 (fun z0 z1 => K (.tup [.ro true 50 z0, .int .i64 z1]) []) (fun z0 z1 => K (.tup [.usl 50 z0, .int .i64 z1]) []))
  | 0, [.ro true 50 r22, .ro true 50 r23, .own 0, .int .i64 r24], [.lst 50 r25] => Hold (C_r05_Set_9_1 k r22 r23 r24 r25 (fun z0 z1 => K (.tup [.ro true 50 z0, .int .i64 z1]) []) (fun z0 z1 => K (.tup [.usl 50 z0, .int .i64 z1]) []))
  | _, _, _ => False
def D8_10 (k : Nat) : Nat → List (A PU) → List (AObj PU) → (A PU → List (AObj PU) → Prop) → Prop := fun nb vals objs K => match nb, vals, objs with
  | 0, [.ro true 50 r14, .ro true 50 r15, .int .i64 r16, .own 0], [.lst 50 r17] => Hold (C_r05_Set_10 k r14 r15 r16 r17 (fun z0 z1 => K (.tup [.ro true 50 z0, .int .i64 z1]) []) (fun z0 z1 => K (.tup [.usl 50 z0, .int .i64 z1]) []))
  | _, _, _ => False
def D27_4 (k : Nat) : Nat → List (A PU) → List (AObj PU) → (A PU → List (AObj PU) → Prop) → Prop := fun nb vals objs K => match nb, vals, objs with
  | 0, [.ro false 50 r3, .ro true 50 r4, .int .i64 r5], [] => Hold (C_r05_Same_4 k r3 r4 r5 (fun z0 => K (.bool z0) []))
  | 0, [.ro true 50 r3, .ro true 50 r4, .int .i64 r5], [] => Hold (C_r05_Same_4 k r3 r4 r5 (fun z0 => K (.bool z0) []))
  | _, _, _ => False
def D62_3 (k : Nat) : Nat → List (A PU) → List (AObj PU) → (A PU → List (AObj PU) → Prop) → Prop := fun nb vals objs K => match nb, vals, objs with
  | 0, [.int .i64 r2, .int .i64 r3, .int .i64 r4], [] => Hold (C_r04_weight_3 k r2 r3 r4 (fun z0 => K (.int .i64 z0) []))
  | _, _, _ => False
def D45_2 (k : Nat) : Nat → List (A PU) → List (AObj PU) → (A PU → List (AObj PU) → Prop) → Prop := fun nb vals objs K => match nb, vals, objs with
  | 0, [.ptr 0 [], .ptr 1 [], .int .i64 r3], [.box (.arr 5 32 r4), .box (.arr 5 32 r5)] => Hold (C_r04_Common_2 k r3 r4 r5 (fun z0 => K (.int .i64 z0) []))
  | _, _, _ => False
def D17_3 (k : Nat) : Nat → List (A PU) → List (AObj PU) → (A PU → List (AObj PU) → Prop) → Prop := fun nb vals objs K => match nb, vals, objs with
  | 0, [.ro true 50 r2, .own 0, .int .i64 r3], [.lst 50 r4] => Hold (C_r05_Sorted_3 k r2 r3 r4 (fun z0 => K (.usl 50 z0) []))
  | _, _, _ => False
def D17_6 (k : Nat) : Nat → List (A PU) → List (AObj PU) → (A PU → List (AObj PU) → Prop) → Prop := fun nb vals objs K => match nb, vals, objs with
  | 0, [.ro true 50 r5, .own 0, .int .i64 r6, .int .i64 r7], [.lst 50 r8] => Hold (C_r05_Sorted_6 k r5 r6 r7 r8 (fun z0 => K (.usl 50 z0) []))
  | _, _, _ => False
def D17_9 (k : Nat) : Nat → List (A PU) → List (AObj PU) → (A PU → List (AObj PU) → Prop) → Prop := fun nb vals objs K => match nb, vals, objs with
  | 0, [.ro true 50 r10, .own 0, .int .i64 r11, .int .i64 r12, .own 1], [.lst 50 r13, .lst 50 r14] => Hold (C_r05_Sorted_9 k r10 r11 r12 r13 r14 (fun z0 => K (.usl 50 z0) []))
  | _, _, _ => False
def D82_4 (k : Nat) : Nat → List (A PU) → List (AObj PU) → (A PU → List (AObj PU) → Prop) → Prop := fun nb vals objs K => match nb, vals, objs with
  | 0, [.ro true 5 r2, .own 0], [.lst 5 r3] => Hold (C_r02_Padded_4 k r2 r3 (fun z0 => K (.usl 5 z0) []))
  | _, _, _ => False
def D82_8 (k : Nat) : Nat → List (A PU) → List (AObj PU) → (A PU → List (AObj PU) → Prop) → Prop := fun nb vals objs K => match nb, vals, objs with
  | 0, [.own 0, .int .u64 r4, .int .i64 r5], [.lst 5 r6] => Hold (C_r02_Padded_8 k r4 r5 r6 (fun z0 => K (.usl 5 z0) []))
  | _, _, _ => False
def D84_3 (k : Nat) : Nat → List (A PU) → List (AObj PU) → (A PU → List (AObj PU) → Prop) → Prop := fun nb vals objs K => match nb, vals, objs with
  | 0, [.ro true 5 r3, .ptr 0 [], .ptr 1 [], .ptr 2 [], .int .i64 r4], [.box (.arr 64 8 r5), .box (.arr 64 8 r6), .box (.arr 64 64 r7)] => Hold (C_r02_block_3 k r3 r4 r5 r6 r7 (fun z0 => K (.arr 64 8 z0) []))
  | _, _, _ => False
def D84_7 (k : Nat) : Nat → List (A PU) → List (AObj PU) → (A PU → List (AObj PU) → Prop) → Prop := fun nb vals objs K => match nb, vals, objs with
  | 0, [.ptr 0 [], .ptr 1 [], .ptr 2 [], .int .i64 r8], [.box (.arr 64 8 r9), .box (.arr 64 8 r10), .box (.arr 64 64 r11)] => Hold (C_r02_block_7 k r8 r9 r10 r11 (fun z0 => K (.arr 64 8 z0) []))
  | _, _, _ => False
def D84_14 (k : Nat) : Nat → List (A PU) → List (AObj PU) → (A PU → List (AObj PU) → Prop) → Prop := fun nb vals objs K => match nb, vals, objs with
  | 0, [.ptr 0 [], .ptr 1 [], .ptr 2 [], .ptr 3 [], .int .i64 r16], [.box (.arr 64 8 r17), .box (.arr 64 8 r18), .box (.arr 64 64 r19), .box (.arr 64 8 r20)] => Hold (C_r02_block_14 k r16 r17 r18 r19 r20 (fun z0 => K (.arr 64 8 z0) []))
  | _, _, _ => False
def D84_22 (k : Nat) : Nat → List (A PU) → List (AObj PU) → (A PU → List (AObj PU) → Prop) → Prop := fun nb vals objs K => match nb, vals, objs with
  | 0, [.ptr 0 [], .ptr 1 [], .ptr 2 [], .int .i64 r27], [.box (.arr 64 8 r28), .box (.arr 64 8 r29), .box (.arr 64 8 r30)] => Hold (C_r02_block_22 k r27 r28 r29 r30 (fun z0 => K (.arr 64 8 z0) []))
  | _, _, _ => False
def D65_4 (k : Nat) : Nat → List (A PU) → List (AObj PU) → (A PU → List (AObj PU) → Prop) → Prop := fun nb vals objs K => match nb, vals, objs with
  | 0, [.ptr 0 [], .own 1, .ptr 2 [], .int .i64 r4], [.box (.arr 5 32 r5), .lst 5 r6, .box (.arr 64 8 r7)] => Hold (C_r02_Sum_4 k r4 r5 r6 r7 (fun z0 => K (.arr 5 32 z0) []))
  | _, _, _ => False
def D65_9 (k : Nat) : Nat → List (A PU) → List (AObj PU) → (A PU → List (AObj PU) → Prop) → Prop := fun nb vals objs K => match nb, vals, objs with
  | 0, [.ptr 0 [], .ptr 1 [], .ptr 2 [], .int .i64 r9], [.box (.arr 5 32 r10), .box (.arr 64 8 r11), .box (.arr 5 32 r12)] => Hold (C_r02_Sum_9 k r9 r10 r11 r12 (fun z0 => K (.arr 5 32 z0) []))
  | _, _, _ => False
def D51_6 (k : Nat) : Nat → List (A PU) → List (AObj PU) → (A PU → List (AObj PU) → Prop) → Prop := fun nb vals objs K => match nb, vals, objs with
  | 0, [.int .i64 r5, .ptr 0 [], .ptr 1 [], .ptr 2 [], .int .i64 r6], [.box (.arr 5 32 r7), .box (.arr 5 32 r8), .box (.arr 5 32 r9)] => Hold (C_r05_Short_6 k r5 r6 r7 r8 r9 (fun z0 z1 => K (.tup [.arr 5 32 z0, .int .i64 z1]) []))
  | _, _, _ => False
def D37_3 (k : Nat) : Nat → List (A PU) → List (AObj PU) → (A PU → List (AObj PU) → Prop) → Prop := fun nb vals objs K => match nb, vals, objs with
  | 0, [.ro true 50 r4, .int .i64 r5, .int .i64 r6, .own 0, .int .i64 r7], [.lst 50 r8] => Hold (C_r05_Half_3 k r4 r5 r6 r7 r8 (fun z0 => K (.usl 50 z0) []))
  | _, _, _ => False
def D37_4 (k : Nat) : Nat → List (A PU) → List (AObj PU) → (A PU → List (AObj PU) → Prop) → Prop := fun nb vals objs K => match nb, vals, objs with
  | 0, [.ro true 50 r10, .int .i64 r11, .int .i64 r12, .own 0, .int .i64 r13], [.lst 50 r14] => Hold (C_r05_Half_4 k r10 r11 r12 r13 r14 (fun z0 => K (.usl 50 z0) []))
  | _, _, _ => False
def D14_2 (k : Nat) : Nat → List (A PU) → List (AObj PU) → (A PU → List (AObj PU) → Prop) → Prop := fun nb vals objs K => match nb, vals, objs with
  | 0, [.ro true 50 r3, .ptr 0 [], .ptr 1 [], .int .i64 r4], [.box (.arr 5 32 r5), .box (.arr 5 32 r6)] => Hold (C_r05_Get_2 k r3 r4 r5 r6 (fun z0 z1 => K (.tup [.arr 5 32 z0, .bool z1]) []))
  | _, _, _ => False
def D3_5 (k : Nat) : Nat → List (A PU) → List (AObj PU) → (A PU → List (AObj PU) → Prop) → Prop := fun nb vals objs K => match nb, vals, objs with
  | 0, [.int .i64 r3, .ro false 27 r4, .int .i64 r5, .int .i64 r6], [] => Hold (C_l05_SmtTrees_5 k r3 r4 r5 r6 (fun z0 => K (.bool z0) []))
  | _, _, _ => False
def D3_15 (k : Nat) : Nat → List (A PU) → List (AObj PU) → (A PU → List (AObj PU) → Prop) → Prop := fun nb vals objs K => match nb, vals, objs with
  | 0, [.int .i64 r15, .ro false 27 r16, .ptr 0 [], .own 1, .int .i64 r17], [.box (.agg [.int .i64 r18, .int .i64 r19, .tr 50 r20 []]), .lst 50 r21] => Hold (C_l05_SmtTrees_15 k r15 r16 r17 r18 r19 r20 r21 (fun z0 => K (.bool z0) []))
  | 0, [.int .i64 r148, .ro false 27 r149, .ptr 0 [], .ro true 50 r150, .int .i64 r151], [.box (.agg [.int .i64 r152, .int .i64 r153, .tr 50 r154 []])] => Hold (C_l05_SmtTrees_15_1 k r148 r149 r150 r151 r152 r153 r154 (fun z0 => K (.bool z0) []))
  | _, _, _ => False
def D3_17 (k : Nat) : Nat → List (A PU) → List (AObj PU) → (A PU → List (AObj PU) → Prop) → Prop := fun nb vals objs K => match nb, vals, objs with
  | 0, [.int .i64 r22, .ro false 27 r23, .ptr 0 [], .own 1, .int .i64 r24], [.box (.agg [.int .i64 r25, .int .i64 r26, .tr 50 r27 []]), .lst 50 r28] => Hold (C_l05_SmtTrees_17 k r22 r23 r24 r25 r26 r27 r28 (fun z0 => K (.bool z0) []))
  | 0, [.int .i64 r155, .ro false 27 r156, .ptr 0 [], .ro true 50 r157, .int .i64 r158], [.box (.agg [.int .i64 r159, .int .i64 r160, .tr 50 r161 []])] => Hold (C_l05_SmtTrees_17_1 k r155 r156 r157 r158 r159 r160 r161 (fun z0 => K (.bool z0) []))
  | _, _, _ => False
def D3_18 (k : Nat) : Nat → List (A PU) → List (AObj PU) → (A PU → List (AObj PU) → Prop) → Prop := fun nb vals objs K => match nb, vals, objs with
  | 0, [.int .i64 r29, .ro false 27 r30, .ptr 0 [], .own 1, .int .i64 r31, .ptr 2 []], [.box (.agg [.int .i64 r32, .int .i64 r33, .tr 50 r34 []]), .lst 50 r35, .box (.agg [.int .i64 r36, .ro false 50 r37, .arr 5 32 r38])] => Hold (C_l05_SmtTrees_18 k r29 r30 r31 r32 r33 r34 r35 r36 r37 r38 (fun z0 => K (.bool z0) []))
  | 0, [.int .i64 r162, .ro false 27 r163, .ptr 0 [], .ro true 50 r164, .int .i64 r165, .ptr 1 []], [.box (.agg [.int .i64 r166, .int .i64 r167, .tr 50 r168 []]), .box (.agg [.int .i64 r169, .ro false 50 r170, .arr 5 32 r171])] => Hold (C_l05_SmtTrees_18_1 k r162 r163 r164 r165 r166 r167 r168 r169 r170 r171 (fun z0 => K (.bool z0) []))
  | _, _, _ => False
def D3_19 (k : Nat) : Nat → List (A PU) → List (AObj PU) → (A PU → List (AObj PU) → Prop) → Prop := fun nb vals objs K => match nb, vals, objs with
  | 0, [.int .i64 r39, .ro false 27 r40, .ptr 0 [], .own 1, .int .i64 r41, .ptr 2 [], .int .i64 r42], [.box (.agg [.int .i64 r43, .int .i64 r44, .tr 50 r45 []]), .lst 50 r46, .box (.agg [.int .i64 r47, .ro false 50 r48, .arr 5 32 r49])] => Hold (C_l05_SmtTrees_19 k r39 r40 r41 r42 r43 r44 r45 r46 r47 r48 r49 (fun z0 => K (.bool z0) []))
  | 0, [.int .i64 r172, .ro false 27 r173, .ptr 0 [], .ro true 50 r174, .int .i64 r175, .ptr 1 [], .int .i64 r176], [.box (.agg [.int .i64 r177, .int .i64 r178, .tr 50 r179 []]), .box (.agg [.int .i64 r180, .ro false 50 r181, .arr 5 32 r182])] => Hold (C_l05_SmtTrees_19_1 k r172 r173 r174 r175 r176 r177 r178 r179 r180 r181 r182 (fun z0 => K (.bool z0) []))
  | _, _, _ => False
def D3_20 (k : Nat) : Nat → List (A PU) → List (AObj PU) → (A PU → List (AObj PU) → Prop) → Prop := fun nb vals objs K => match nb, vals, objs with
  | 0, [.int .i64 r50, .ro false 27 r51, .ptr 0 [], .own 1, .int .i64 r52, .ptr 2 []], [.box (.agg [.int .i64 r53, .int .i64 r54, .tr 50 r55 []]), .lst 50 r56, .box (.agg [.int .i64 r57, .ro false 50 r58, .arr 5 32 r59])] => Hold (C_l05_SmtTrees_20 k r50 r51 r52 r53 r54 r55 r56 r57 r58 r59 (fun z0 => K (.bool z0) []))
  | 0, [.int .i64 r183, .ro false 27 r184, .ptr 0 [], .ro true 50 r185, .int .i64 r186, .ptr 1 []], [.box (.agg [.int .i64 r187, .int .i64 r188, .tr 50 r189 []]), .box (.agg [.int .i64 r190, .ro false 50 r191, .arr 5 32 r192])] => Hold (C_l05_SmtTrees_20_1 k r183 r184 r185 r186 r187 r188 r189 r190 r191 r192 (fun z0 => K (.bool z0) []))
  | _, _, _ => False
def D3_21 (k : Nat) : Nat → List (A PU) → List (AObj PU) → (A PU → List (AObj PU) → Prop) → Prop := fun nb vals objs K => match nb, vals, objs with
  | 0, [.int .i64 r61, .ro false 27 r62, .ptr 0 [], .own 1, .int .i64 r63, .ptr 2 [], .own 3], [.box (.agg [.int .i64 r64, .int .i64 r65, .tr 50 r66 []]), .lst 50 r67, .box (.agg [.int .i64 r68, .ro false 50 r69, .arr 5 32 r70]), .lst 50 r71] => Hold (C_l05_SmtTrees_21 k r61 r62 r63 r64 r65 r66 r67 r68 r69 r70 r71 (fun z0 => K (.bool z0) []))
  | 0, [.int .i64 r194, .ro false 27 r195, .ptr 0 [], .ro true 50 r196, .int .i64 r197, .ptr 1 [], .own 2], [.box (.agg [.int .i64 r198, .int .i64 r199, .tr 50 r200 []]), .box (.agg [.int .i64 r201, .ro false 50 r202, .arr 5 32 r203]), .lst 50 r204] => Hold (C_l05_SmtTrees_21_1 k r194 r195 r196 r197 r198 r199 r200 r201 r202 r203 r204 (fun z0 => K (.bool z0) []))
  | _, _, _ => False
def D3_22 (k : Nat) : Nat → List (A PU) → List (AObj PU) → (A PU → List (AObj PU) → Prop) → Prop := fun nb vals objs K => match nb, vals, objs with
  | 0, [.int .i64 r74, .ro false 27 r75, .ptr 0 [], .int .i64 r76, .ptr 1 [], .own 2, .ro true 50 r77, .int .i64 r78], [.box (.agg [.int .i64 r79, .int .i64 r80, .tr 50 r81 []]), .box (.agg [.int .i64 r82, .ro false 50 r83, .arr 5 32 r84]), .fz 50 r85] => Hold (C_l05_SmtTrees_22 k r74 r75 r76 r77 r78 r79 r80 r81 r82 r83 r84 r85 (fun z0 => K (.bool z0) []))
  | 0, [.int .i64 r209, .ro false 27 r210, .ptr 0 [], .int .i64 r211, .ptr 1 [], .own 2, .own 3, .int .i64 r212], [.box (.agg [.int .i64 r213, .int .i64 r214, .tr 50 r215 []]), .box (.agg [.int .i64 r216, .ro false 50 r217, .arr 5 32 r218]), .lst 50 r219, .lst 50 r220] => Hold (C_l05_SmtTrees_22_1 k r209 r210 r211 r212 r213 r214 r215 r216 r217 r218 r219 r220 (fun z0 => K (.bool z0) []))
  | _, _, _ => False
def D3_35 (k : Nat) : Nat → List (A PU) → List (AObj PU) → (A PU → List (AObj PU) → Prop) → Prop := fun nb vals objs K => match nb, vals, objs with
  | 0, [.int .i64 r91, .ro false 27 r92, .ptr 0 [], .ro true 50 r93, .int .i64 r94], [.box (.agg [.int .i64 r95, .int .i64 r96, .tr 50 r97 []])] => Hold (C_l05_SmtTrees_35 k r91 r92 r93 r94 r95 r96 r97 (fun z0 => K (.bool z0) []))
  | 0, [.int .i64 r226, .ro false 27 r227, .ptr 0 [], .own 1, .int .i64 r228], [.box (.agg [.int .i64 r229, .int .i64 r230, .tr 50 r231 []]), .lst 50 r232] => Hold (C_l05_SmtTrees_35_1 k r226 r227 r228 r229 r230 r231 r232 (fun z0 => K (.bool z0) []))
  | _, _, _ => False
def D3_36 (k : Nat) : Nat → List (A PU) → List (AObj PU) → (A PU → List (AObj PU) → Prop) → Prop := fun nb vals objs K => match nb, vals, objs with
  | 0, [.int .i64 r102, .ro false 27 r103, .ptr 0 [], .ro true 50 r104, .int .i64 r105, .own 1], [.box (.agg [.int .i64 r106, .int .i64 r107, .tr 50 r108 []]), .lst 50 r109] => Hold (C_l05_SmtTrees_36 k r102 r103 r104 r105 r106 r107 r108 r109 (fun z0 => K (.bool z0) []))
  | 0, [.int .i64 r237, .ro false 27 r238, .ptr 0 [], .own 1, .int .i64 r239, .own 2], [.box (.agg [.int .i64 r240, .int .i64 r241, .tr 50 r242 []]), .lst 50 r243, .lst 50 r244] => Hold (C_l05_SmtTrees_36_1 k r237 r238 r239 r240 r241 r242 r243 r244 (fun z0 => K (.bool z0) []))
  | _, _, _ => False
def D3_39 (k : Nat) : Nat → List (A PU) → List (AObj PU) → (A PU → List (AObj PU) → Prop) → Prop := fun nb vals objs K => match nb, vals, objs with
  | 0, [.int .i64 r121, .ro false 27 r122, .ptr 0 [], .ro true 50 r123, .int .i64 r124, .own 1, .int .i64 r125], [.box (.agg [.int .i64 r126, .int .i64 r127, .tr 50 r128 []]), .lst 50 r129] => Hold (C_l05_SmtTrees_39 k r121 r122 r123 r124 r125 r126 r127 r128 r129 (fun z0 => K (.bool z0) []))
  | 0, [.int .i64 r256, .ro false 27 r257, .ptr 0 [], .own 1, .int .i64 r258, .own 2, .int .i64 r259], [.box (.agg [.int .i64 r260, .int .i64 r261, .tr 50 r262 []]), .lst 50 r263, .lst 50 r264] => Hold (C_l05_SmtTrees_39_1 k r256 r257 r258 r259 r260 r261 r262 r263 r264 (fun z0 => K (.bool z0) []))
  | _, _, _ => False
def D3_41 (k : Nat) : Nat → List (A PU) → List (AObj PU) → (A PU → List (AObj PU) → Prop) → Prop := fun nb vals objs K => match nb, vals, objs with
  | 0, [.int .i64 r130, .ro false 27 r131, .ptr 0 [], .ro true 50 r132, .int .i64 r133, .own 1, .int .i64 r134], [.box (.agg [.int .i64 r135, .int .i64 r136, .tr 50 r137 []]), .lst 50 r138] => Hold (C_l05_SmtTrees_41 k r130 r131 r132 r133 r134 r135 r136 r137 r138 (fun z0 => K (.bool z0) []))
  | 0, [.int .i64 r265, .ro false 27 r266, .ptr 0 [], .own 1, .int .i64 r267, .own 2, .int .i64 r268], [.box (.agg [.int .i64 r269, .int .i64 r270, .tr 50 r271 []]), .lst 50 r272, .lst 50 r273] => Hold (C_l05_SmtTrees_41_1 k r265 r266 r267 r268 r269 r270 r271 r272 r273 (fun z0 => K (.bool z0) []))
  | _, _, _ => False
def D3_40 (k : Nat) : Nat → List (A PU) → List (AObj PU) → (A PU → List (AObj PU) → Prop) → Prop := fun nb vals objs K => match nb, vals, objs with
  | 0, [.int .i64 r139, .ro false 27 r140, .ptr 0 [], .ro true 50 r141, .int .i64 r142, .own 1, .int .i64 r143], [.box (.agg [.int .i64 r144, .int .i64 r145, .tr 50 r146 []]), .lst 50 r147] => Hold (C_l05_SmtTrees_40 k r139 r140 r141 r142 r143 r144 r145 r146 r147 (fun z0 => K (.bool z0) []))
  | 0, [.int .i64 r274, .ro false 27 r275, .ptr 0 [], .own 1, .int .i64 r276, .own 2, .int .i64 r277], [.box (.agg [.int .i64 r278, .int .i64 r279, .tr 50 r280 []]), .lst 50 r281, .lst 50 r282] => Hold (C_l05_SmtTrees_40_1 k r274 r275 r276 r277 r278 r279 r280 r281 r282 (fun z0 => K (.bool z0) []))
  | _, _, _ => False
def D3_25 (k : Nat) : Nat → List (A PU) → List (AObj PU) → (A PU → List (AObj PU) → Prop) → Prop := fun nb vals objs K => match nb, vals, objs with
  | 0, [.int .i64 r283, .ro false 27 r284, .ptr 0 [], .ro true 50 r285, .int .i64 r286, .ptr 1 [], .int .i64 r287], [.box (.agg [.int .i64 r288, .int .i64 r289, .tr 50 r290 []]), .box (.agg [.int .i64 r291, .ro false 50 r292, .arr 5 32 r293])] => Hold (C_l05_SmtTrees_25 k r283 r284 r285 r286 r287 r288 r289 r290 r291 r292 r293 (fun z0 => K (.bool z0) []))
  | 0, [.int .i64 r342, .ro false 27 r343, .ptr 0 [], .own 1, .int .i64 r344, .ptr 2 [], .int .i64 r345], [.box (.agg [.int .i64 r346, .int .i64 r347, .tr 50 r348 []]), .lst 50 r349, .box (.agg [.int .i64 r350, .ro false 50 r351, .arr 5 32 r352])] => Hold (C_l05_SmtTrees_25_1 k r342 r343 r344 r345 r346 r347 r348 r349 r350 r351 r352 (fun z0 => K (.bool z0) []))
  | _, _, _ => False
def D3_26 (k : Nat) : Nat → List (A PU) → List (AObj PU) → (A PU → List (AObj PU) → Prop) → Prop := fun nb vals objs K => match nb, vals, objs with
  | 0, [.int .i64 r294, .ro false 27 r295, .ptr 0 [], .ro true 50 r296, .int .i64 r297, .ptr 1 []], [.box (.agg [.int .i64 r298, .int .i64 r299, .tr 50 r300 []]), .box (.agg [.int .i64 r301, .ro false 50 r302, .arr 5 32 r303])] => Hold (C_l05_SmtTrees_26 k r294 r295 r296 r297 r298 r299 r300 r301 r302 r303 (fun z0 => K (.bool z0) []))
  | 0, [.int .i64 r353, .ro false 27 r354, .ptr 0 [], .own 1, .int .i64 r355, .ptr 2 []], [.box (.agg [.int .i64 r356, .int .i64 r357, .tr 50 r358 []]), .lst 50 r359, .box (.agg [.int .i64 r360, .ro false 50 r361, .arr 5 32 r362])] => Hold (C_l05_SmtTrees_26_1 k r353 r354 r355 r356 r357 r358 r359 r360 r361 r362 (fun z0 => K (.bool z0) []))
  | _, _, _ => False
def D3_30 (k : Nat) : Nat → List (A PU) → List (AObj PU) → (A PU → List (AObj PU) → Prop) → Prop := fun nb vals objs K => match nb, vals, objs with
  | 0, [.int .i64 r310, .ro false 27 r311, .ptr 0 [], .ro true 50 r312, .int .i64 r313, .ptr 1 [], .int .i64 r314], [.box (.agg [.int .i64 r315, .int .i64 r316, .tr 50 r317 []]), .box (.agg [.int .i64 r318, .ro false 50 r319, .arr 5 32 r320])] => Hold (C_l05_SmtTrees_30 k r310 r311 r312 r313 r314 r315 r316 r317 r318 r319 r320 (fun z0 => K (.bool z0) []))
  | 0, [.int .i64 r369, .ro false 27 r370, .ptr 0 [], .own 1, .int .i64 r371, .ptr 2 [], .int .i64 r372], [.box (.agg [.int .i64 r373, .int .i64 r374, .tr 50 r375 []]), .lst 50 r376, .box (.agg [.int .i64 r377, .ro false 50 r378, .arr 5 32 r379])] => Hold (C_l05_SmtTrees_30_1 k r369 r370 r371 r372 r373 r374 r375 r376 r377 r378 r379 (fun z0 => K (.bool z0) []))
  | _, _, _ => False
def D3_31 (k : Nat) : Nat → List (A PU) → List (AObj PU) → (A PU → List (AObj PU) → Prop) → Prop := fun nb vals objs K => match nb, vals, objs with
  | 0, [.int .i64 r321, .ro false 27 r322, .ptr 0 [], .ro true 50 r323, .int .i64 r324, .ptr 1 []], [.box (.agg [.int .i64 r325, .int .i64 r326, .tr 50 r327 []]), .box (.agg [.int .i64 r328, .ro false 50 r329, .arr 5 32 r330])] => Hold (C_l05_SmtTrees_31 k r321 r322 r323 r324 r325 r326 r327 r328 r329 r330 (fun z0 => K (.bool z0) []))
  | 0, [.int .i64 r380, .ro false 27 r381, .ptr 0 [], .own 1, .int .i64 r382, .ptr 2 []], [.box (.agg [.int .i64 r383, .int .i64 r384, .tr 50 r385 []]), .lst 50 r386, .box (.agg [.int .i64 r387, .ro false 50 r388, .arr 5 32 r389])] => Hold (C_l05_SmtTrees_31_1 k r380 r381 r382 r383 r384 r385 r386 r387 r388 r389 (fun z0 => K (.bool z0) []))
  | _, _, _ => False
def PTr (k : Nat) : List (Nat × Fn PU) := [(20, T20 k), (4, T4 k), (21, T21 k), (22, T22 k), (40, T40 k), (77, T77 k), (60, T60 k), (43, T43 k), (42, T42 k), (41, T41 k), (25, T25 k), (29, T29 k), (61, T61 k), (44, T44 k), (30, T30 k), (13, T13 k), (26, T26 k), (9, T9 k), (28, T28 k), (12, T12 k), (16, T16 k), (54, T54 k), (85, T85 k), (66, T66 k), (55, T55 k), (57, T57 k), (56, T56 k), (39, T39 k), (50, T50 k), (23, T23 k), (49, T49 k), (47, T47 k), (34, T34 k), (18, T18 k), (5, T5 k), (6, T6 k), (7, T7 k), (24, T24 k), (11, T11 k), (8, T8 k), (27, T27 k), (10, T10 k), (32, T32 k), (31, T31 k), (15, T15 k), (62, T62 k), (46, T46 k), (45, T45 k), (33, T33 k), (17, T17 k), (82, T82 k), (83, T83 k), (95, T95 k), (84, T84 k), (65, T65 k), (51, T51 k), (35, T35 k), (52, T52 k), (36, T36 k), (37, T37 k), (53, T53 k), (38, T38 k), (19, T19 k), (14, T14 k), (3, T3 k)]
def PCr (k : Nat) : List (Nat × Nat × (Nat → List (A PU) → List (AObj PU) → (A PU → List (AObj PU) → Prop) → Prop)) := [(43, 2, D43_2 k), (25, 4, D25_4 k), (13, 5, D13_5 k), (13, 11, D13_11 k), (26, 3, D26_3 k), (26, 8, D26_8 k), (26, 9, D26_9 k), (9, 9, D9_9 k), (9, 14, D9_14 k), (28, 3, D28_3 k), (28, 9, D28_9 k), (28, 11, D28_11 k), (66, 2, D66_2 k), (66, 11, D66_11 k), (66, 14, D66_14 k), (66, 23, D66_23 k), (55, 3, D55_3 k), (57, 9, D57_9 k), (57, 15, D57_15 k), (56, 4, D56_4 k), (39, 4, D39_4 k), (5, 2, D5_2 k), (24, 2, D24_2 k), (24, 5, D24_5 k), (11, 3, D11_3 k), (11, 4, D11_4 k), (8, 7, D8_7 k), (8, 9, D8_9 k), (8, 10, D8_10 k), (27, 4, D27_4 k), (62, 3, D62_3 k), (45, 2, D45_2 k), (17, 3, D17_3 k), (17, 6, D17_6 k), (17, 9, D17_9 k), (82, 4, D82_4 k), (82, 8, D82_8 k), (84, 3, D84_3 k), (84, 7, D84_7 k), (84, 14, D84_14 k), (84, 22, D84_22 k), (65, 4, D65_4 k), (65, 9, D65_9 k), (51, 6, D51_6 k), (37, 3, D37_3 k), (37, 4, D37_4 k), (14, 2, D14_2 k), (3, 5, D3_5 k), (3, 15, D3_15 k), (3, 17, D3_17 k), (3, 18, D3_18 k), (3, 19, D3_19 k), (3, 20, D3_20 k), (3, 21, D3_21 k), (3, 22, D3_22 k), (3, 35, D3_35 k), (3, 36, D3_36 k), (3, 39, D3_39 k), (3, 41, D3_41 k), (3, 40, D3_40 k), (3, 25, D3_25 k), (3, 26, D3_26 k), (3, 30, D3_30 k), (3, 31, D3_31 k)]
def PT (k : Nat) : Tab PU := fun f => lookT f (PTr k)
def PC (k : Nat) : Cut PU := fun f id => lookC f id (PCr k)
theorem hrow41 (k : Nat) (l : List S_api_Leaf) (K : A PU → List (AObj PU) → Prop) (h : (100 ≤ k ∧ List.length l < 4611686018427387904) ∧ ∀ l9 : (List S_api_Leaf), List.Perm l9 l ∧ SortedL l9 → K (.tup []) [.lst 50 l9]) (TS : TSound PE (PT k)) : RowSound PE 41 [.own 0, .clo 42 []] [.lst 50 l] K :=
  hand41 l K TS h.1.2 h.2 fun a b K' hab hK => (Hold.mp (p := Hold (F_smt_twice_1 k a.f0 a.f1 b.f0 b.f1 (fun z0 => K' (.int .i64 z0) []))) (by kernel_rfl) ⟨cmp_s k hab.1 hab.2 (by have := h.1.1; omega) hK⟩).out
theorem hrow34 (k : Nat) (x : KT S_api_Leaf) (w : Int) (K : A PU → List (AObj PU) → Prop) (h : (digBound x ≤ k ∧ (0 ≤ w ∧ w ≤ 32) ∧ allG w x) ∧ K (.arr 5 32 (digT w x)) []) (TS : TSound PE (PT k)) : RowSound PE 34 [.tr 50 x [], .int .i64 w] [] K :=
  hand34 x w K TS h.1.2.1 h.1.2.2 h.2
    (fun K' hK => (Hold.mp (p := Hold (F_smt_Empty k w (fun z0 => K' (.arr 5 32 z0) []))) (by kernel_rfl) ⟨Empty_i k h.1.2.1 (by have := h.1.1; unfold digBound at this; omega) hK⟩).out)
    (fun g v l r dl K' e hK => (Hold.mp (p := Hold (F_smt_knot_digest_1 k w 0 1 0 dl v.f0 v.f1 l r (fun z0 z1 z2 z3 z4 z5 z6 z7 z8 => K' (.tup []) [.box (.ptr 2 []), .box (.int .i64 z0), .box (.agg [.agg [.agg [.int .u32 z1, .int .i32 z2, .int .u32 z3], .arr 5 32 z4], .agg [.arr 5 32 z5, .arr 5 32 z6], .tr 50 z7 [], .tr 50 z8 []])]))) (by kernel_rfl) ⟨digest_1_s k h.1.2.1 (e ▸ h.1.2.2) (e ▸ h.1.1) (by subst e; exact hK)⟩).out)
theorem fnok20 : fnOk PE.P 20 = true := by kernel_rfl
theorem fnok4 : fnOk PE.P 4 = true := by kernel_rfl
theorem fnok21 : fnOk PE.P 21 = true := by kernel_rfl
theorem fnok22 : fnOk PE.P 22 = true := by kernel_rfl
theorem fnok40 : fnOk PE.P 40 = true := by kernel_rfl
theorem fnok77 : fnOk PE.P 77 = true := by kernel_rfl
theorem fnok60 : fnOk PE.P 60 = true := by kernel_rfl
theorem fnok43 : fnOk PE.P 43 = true := by kernel_rfl
theorem fnok42 : fnOk PE.P 42 = true := by kernel_rfl
theorem fnok25 : fnOk PE.P 25 = true := by kernel_rfl
theorem fnok29 : fnOk PE.P 29 = true := by kernel_rfl
theorem fnok61 : fnOk PE.P 61 = true := by kernel_rfl
theorem fnok44 : fnOk PE.P 44 = true := by kernel_rfl
theorem fnok30 : fnOk PE.P 30 = true := by kernel_rfl
theorem fnok13 : fnOk PE.P 13 = true := by kernel_rfl
theorem fnok26 : fnOk PE.P 26 = true := by kernel_rfl
theorem fnok9 : fnOk PE.P 9 = true := by kernel_rfl
theorem fnok28 : fnOk PE.P 28 = true := by kernel_rfl
theorem fnok12 : fnOk PE.P 12 = true := by kernel_rfl
theorem fnok16 : fnOk PE.P 16 = true := by kernel_rfl
theorem fnok54 : fnOk PE.P 54 = true := by kernel_rfl
theorem fnok85 : fnOk PE.P 85 = true := by kernel_rfl
theorem fnok66 : fnOk PE.P 66 = true := by kernel_rfl
theorem fnok55 : fnOk PE.P 55 = true := by kernel_rfl
theorem fnok57 : fnOk PE.P 57 = true := by kernel_rfl
theorem fnok56 : fnOk PE.P 56 = true := by kernel_rfl
theorem fnok39 : fnOk PE.P 39 = true := by kernel_rfl
theorem fnok50 : fnOk PE.P 50 = true := by kernel_rfl
theorem fnok23 : fnOk PE.P 23 = true := by kernel_rfl
theorem fnok49 : fnOk PE.P 49 = true := by kernel_rfl
theorem fnok47 : fnOk PE.P 47 = true := by kernel_rfl
theorem fnok18 : fnOk PE.P 18 = true := by kernel_rfl
theorem fnok5 : fnOk PE.P 5 = true := by kernel_rfl
theorem fnok6 : fnOk PE.P 6 = true := by kernel_rfl
theorem fnok7 : fnOk PE.P 7 = true := by kernel_rfl
theorem fnok24 : fnOk PE.P 24 = true := by kernel_rfl
theorem fnok11 : fnOk PE.P 11 = true := by kernel_rfl
theorem fnok8 : fnOk PE.P 8 = true := by kernel_rfl
theorem fnok27 : fnOk PE.P 27 = true := by kernel_rfl
theorem fnok10 : fnOk PE.P 10 = true := by kernel_rfl
theorem fnok32 : fnOk PE.P 32 = true := by kernel_rfl
theorem fnok31 : fnOk PE.P 31 = true := by kernel_rfl
theorem fnok15 : fnOk PE.P 15 = true := by kernel_rfl
theorem fnok62 : fnOk PE.P 62 = true := by kernel_rfl
theorem fnok46 : fnOk PE.P 46 = true := by kernel_rfl
theorem fnok45 : fnOk PE.P 45 = true := by kernel_rfl
theorem fnok33 : fnOk PE.P 33 = true := by kernel_rfl
theorem fnok17 : fnOk PE.P 17 = true := by kernel_rfl
theorem fnok82 : fnOk PE.P 82 = true := by kernel_rfl
theorem fnok83 : fnOk PE.P 83 = true := by kernel_rfl
theorem fnok95 : fnOk PE.P 95 = true := by kernel_rfl
theorem fnok84 : fnOk PE.P 84 = true := by kernel_rfl
theorem fnok65 : fnOk PE.P 65 = true := by kernel_rfl
theorem fnok51 : fnOk PE.P 51 = true := by kernel_rfl
theorem fnok35 : fnOk PE.P 35 = true := by kernel_rfl
theorem fnok52 : fnOk PE.P 52 = true := by kernel_rfl
theorem fnok36 : fnOk PE.P 36 = true := by kernel_rfl
theorem fnok37 : fnOk PE.P 37 = true := by kernel_rfl
theorem fnok53 : fnOk PE.P 53 = true := by kernel_rfl
theorem fnok38 : fnOk PE.P 38 = true := by kernel_rfl
theorem fnok19 : fnOk PE.P 19 = true := by kernel_rfl
theorem fnok14 : fnOk PE.P 14 = true := by kernel_rfl
theorem fnok3 : fnOk PE.P 3 = true := by kernel_rfl
theorem T20_z (args : List (A PU)) (objs : List (AObj PU)) (K : A PU → List (AObj PU) → Prop) : ¬ T20 0 args objs K := by
  intro h; unfold T20 at h; split at h <;> (first | exact h | exact h.out)
theorem T20_ok (k : Nat) (args : List (A PU)) (objs : List (AObj PU)) (K : A PU → List (AObj PU) → Prop) (h : T20 (k + 1) args objs K) : RowOk PE (PT k) (PC k) 20 args objs K := by
  unfold T20 at h; split at h
  · exact .fn fnok20 rfl (Hold.mp (by kernel_rfl) h.out)
  · exact h.elim
theorem T4_z (args : List (A PU)) (objs : List (AObj PU)) (K : A PU → List (AObj PU) → Prop) : ¬ T4 0 args objs K := by
  intro h; unfold T4 at h; split at h <;> (first | exact h | exact h.out)
theorem T4_ok (k : Nat) (args : List (A PU)) (objs : List (AObj PU)) (K : A PU → List (AObj PU) → Prop) (h : T4 (k + 1) args objs K) : RowOk PE (PT k) (PC k) 4 args objs K := by
  unfold T4 at h; split at h
  · exact .fn fnok4 rfl (Hold.mp (by kernel_rfl) h.out)
  · exact h.elim
theorem T21_z (args : List (A PU)) (objs : List (AObj PU)) (K : A PU → List (AObj PU) → Prop) : ¬ T21 0 args objs K := by
  intro h; unfold T21 at h; split at h <;> (first | exact h | exact h.out)
theorem T21_ok (k : Nat) (args : List (A PU)) (objs : List (AObj PU)) (K : A PU → List (AObj PU) → Prop) (h : T21 (k + 1) args objs K) : RowOk PE (PT k) (PC k) 21 args objs K := by
  unfold T21 at h; split at h
  · exact .fn fnok21 rfl (Hold.mp (by kernel_rfl) h.out)
  · exact h.elim
theorem T22_z (args : List (A PU)) (objs : List (AObj PU)) (K : A PU → List (AObj PU) → Prop) : ¬ T22 0 args objs K := by
  intro h; unfold T22 at h; split at h <;> (first | exact h | exact h.out)
theorem T22_ok (k : Nat) (args : List (A PU)) (objs : List (AObj PU)) (K : A PU → List (AObj PU) → Prop) (h : T22 (k + 1) args objs K) : RowOk PE (PT k) (PC k) 22 args objs K := by
  unfold T22 at h; split at h
  · exact .fn fnok22 rfl (Hold.mp (by kernel_rfl) h.out)
  · exact h.elim
theorem T40_z (args : List (A PU)) (objs : List (AObj PU)) (K : A PU → List (AObj PU) → Prop) : ¬ T40 0 args objs K := by
  intro h; unfold T40 at h; split at h <;> (first | exact h | exact h.out)
theorem T40_ok (k : Nat) (args : List (A PU)) (objs : List (AObj PU)) (K : A PU → List (AObj PU) → Prop) (h : T40 (k + 1) args objs K) : RowOk PE (PT k) (PC k) 40 args objs K := by
  unfold T40 at h; split at h
  · exact .fn fnok40 rfl (Hold.mp (by kernel_rfl) h.out)
  · exact .fn fnok40 rfl (Hold.mp (by kernel_rfl) h.out)
  · exact h.elim
theorem T77_z (args : List (A PU)) (objs : List (AObj PU)) (K : A PU → List (AObj PU) → Prop) : ¬ T77 0 args objs K := by
  intro h; unfold T77 at h; split at h <;> (first | exact h | exact h.out)
theorem T77_ok (k : Nat) (args : List (A PU)) (objs : List (AObj PU)) (K : A PU → List (AObj PU) → Prop) (h : T77 (k + 1) args objs K) : RowOk PE (PT k) (PC k) 77 args objs K := by
  unfold T77 at h; split at h
  · exact .fn fnok77 rfl (Hold.mp (by kernel_rfl) h.out)
  · exact h.elim
theorem T60_z (args : List (A PU)) (objs : List (AObj PU)) (K : A PU → List (AObj PU) → Prop) : ¬ T60 0 args objs K := by
  intro h; unfold T60 at h; split at h <;> (first | exact h | exact h.out)
theorem T60_ok (k : Nat) (args : List (A PU)) (objs : List (AObj PU)) (K : A PU → List (AObj PU) → Prop) (h : T60 (k + 1) args objs K) : RowOk PE (PT k) (PC k) 60 args objs K := by
  unfold T60 at h; split at h
  · exact .fn fnok60 rfl (Hold.mp (by kernel_rfl) h.out)
  · exact h.elim
theorem T43_z (args : List (A PU)) (objs : List (AObj PU)) (K : A PU → List (AObj PU) → Prop) : ¬ T43 0 args objs K := by
  intro h; unfold T43 at h; split at h <;> (first | exact h | exact h.out)
theorem T43_ok (k : Nat) (args : List (A PU)) (objs : List (AObj PU)) (K : A PU → List (AObj PU) → Prop) (h : T43 (k + 1) args objs K) : RowOk PE (PT k) (PC k) 43 args objs K := by
  unfold T43 at h; split at h
  · exact .fn fnok43 rfl (Hold.mp (by kernel_rfl) h.out)
  · exact h.elim
theorem T42_z (args : List (A PU)) (objs : List (AObj PU)) (K : A PU → List (AObj PU) → Prop) : ¬ T42 0 args objs K := by
  intro h; unfold T42 at h; split at h <;> (first | exact h | exact h.out)
theorem T42_ok (k : Nat) (args : List (A PU)) (objs : List (AObj PU)) (K : A PU → List (AObj PU) → Prop) (h : T42 (k + 1) args objs K) : RowOk PE (PT k) (PC k) 42 args objs K := by
  unfold T42 at h; split at h
  · exact .fn fnok42 rfl (Hold.mp (by kernel_rfl) h.out)
  · exact h.elim
theorem T41_z (args : List (A PU)) (objs : List (AObj PU)) (K : A PU → List (AObj PU) → Prop) : ¬ T41 0 args objs K := by
  intro h; unfold T41 at h; split at h <;> (first | exact h | exact h.out)
theorem T41_ok (k : Nat) (args : List (A PU)) (objs : List (AObj PU)) (K : A PU → List (AObj PU) → Prop) (h : T41 (k + 1) args objs K) : RowOk PE (PT k) (PC k) 41 args objs K := by
  unfold T41 at h; split at h
  · exact .row fun TS => hrow41 k _ _ (Hold.mp (by kernel_rfl) h.out).out TS
  · exact h.elim
theorem T25_z (args : List (A PU)) (objs : List (AObj PU)) (K : A PU → List (AObj PU) → Prop) : ¬ T25 0 args objs K := by
  intro h; unfold T25 at h; split at h <;> (first | exact h | exact h.out)
theorem T25_ok (k : Nat) (args : List (A PU)) (objs : List (AObj PU)) (K : A PU → List (AObj PU) → Prop) (h : T25 (k + 1) args objs K) : RowOk PE (PT k) (PC k) 25 args objs K := by
  unfold T25 at h; split at h
  · exact .fn fnok25 rfl (Hold.mp (by kernel_rfl) h.out)
  · exact .fn fnok25 rfl (Hold.mp (by kernel_rfl) h.out)
  · exact h.elim
theorem T29_z (args : List (A PU)) (objs : List (AObj PU)) (K : A PU → List (AObj PU) → Prop) : ¬ T29 0 args objs K := by
  intro h; unfold T29 at h; split at h <;> (first | exact h | exact h.out)
theorem T29_ok (k : Nat) (args : List (A PU)) (objs : List (AObj PU)) (K : A PU → List (AObj PU) → Prop) (h : T29 (k + 1) args objs K) : RowOk PE (PT k) (PC k) 29 args objs K := by
  unfold T29 at h; split at h
  · exact .fn fnok29 rfl (Hold.mp (by kernel_rfl) h.out)
  · exact .fn fnok29 rfl (Hold.mp (by kernel_rfl) h.out)
  · exact h.elim
theorem T61_z (args : List (A PU)) (objs : List (AObj PU)) (K : A PU → List (AObj PU) → Prop) : ¬ T61 0 args objs K := by
  intro h; unfold T61 at h; split at h <;> (first | exact h | exact h.out)
theorem T61_ok (k : Nat) (args : List (A PU)) (objs : List (AObj PU)) (K : A PU → List (AObj PU) → Prop) (h : T61 (k + 1) args objs K) : RowOk PE (PT k) (PC k) 61 args objs K := by
  unfold T61 at h; split at h
  · exact .fn fnok61 rfl (Hold.mp (by kernel_rfl) h.out)
  · exact h.elim
theorem T44_z (args : List (A PU)) (objs : List (AObj PU)) (K : A PU → List (AObj PU) → Prop) : ¬ T44 0 args objs K := by
  intro h; unfold T44 at h; split at h <;> (first | exact h | exact h.out)
theorem T44_ok (k : Nat) (args : List (A PU)) (objs : List (AObj PU)) (K : A PU → List (AObj PU) → Prop) (h : T44 (k + 1) args objs K) : RowOk PE (PT k) (PC k) 44 args objs K := by
  unfold T44 at h; split at h
  · exact .fn fnok44 rfl (Hold.mp (by kernel_rfl) h.out)
  · exact h.elim
theorem T30_z (args : List (A PU)) (objs : List (AObj PU)) (K : A PU → List (AObj PU) → Prop) : ¬ T30 0 args objs K := by
  intro h; unfold T30 at h; split at h <;> (first | exact h | exact h.out)
theorem T30_ok (k : Nat) (args : List (A PU)) (objs : List (AObj PU)) (K : A PU → List (AObj PU) → Prop) (h : T30 (k + 1) args objs K) : RowOk PE (PT k) (PC k) 30 args objs K := by
  unfold T30 at h; split at h
  · exact .fn fnok30 rfl (Hold.mp (by kernel_rfl) h.out)
  · exact h.elim
theorem T13_z (args : List (A PU)) (objs : List (AObj PU)) (K : A PU → List (AObj PU) → Prop) : ¬ T13 0 args objs K := by
  intro h; unfold T13 at h; split at h <;> (first | exact h | exact h.out)
theorem T13_ok (k : Nat) (args : List (A PU)) (objs : List (AObj PU)) (K : A PU → List (AObj PU) → Prop) (h : T13 (k + 1) args objs K) : RowOk PE (PT k) (PC k) 13 args objs K := by
  unfold T13 at h; split at h
  · exact .fn fnok13 rfl (Hold.mp (by kernel_rfl) h.out)
  · exact h.elim
theorem T26_z (args : List (A PU)) (objs : List (AObj PU)) (K : A PU → List (AObj PU) → Prop) : ¬ T26 0 args objs K := by
  intro h; unfold T26 at h; split at h <;> (first | exact h | exact h.out)
theorem T26_ok (k : Nat) (args : List (A PU)) (objs : List (AObj PU)) (K : A PU → List (AObj PU) → Prop) (h : T26 (k + 1) args objs K) : RowOk PE (PT k) (PC k) 26 args objs K := by
  unfold T26 at h; split at h
  · exact .fn fnok26 rfl (Hold.mp (by kernel_rfl) h.out)
  · exact h.elim
theorem T9_z (args : List (A PU)) (objs : List (AObj PU)) (K : A PU → List (AObj PU) → Prop) : ¬ T9 0 args objs K := by
  intro h; unfold T9 at h; split at h <;> (first | exact h | exact h.out)
theorem T9_ok (k : Nat) (args : List (A PU)) (objs : List (AObj PU)) (K : A PU → List (AObj PU) → Prop) (h : T9 (k + 1) args objs K) : RowOk PE (PT k) (PC k) 9 args objs K := by
  unfold T9 at h; split at h
  · exact .fn fnok9 rfl (Hold.mp (by kernel_rfl) h.out)
  · exact .fn fnok9 rfl (Hold.mp (by kernel_rfl) h.out)
  · exact h.elim
theorem T28_z (args : List (A PU)) (objs : List (AObj PU)) (K : A PU → List (AObj PU) → Prop) : ¬ T28 0 args objs K := by
  intro h; unfold T28 at h; split at h <;> (first | exact h | exact h.out)
theorem T28_ok (k : Nat) (args : List (A PU)) (objs : List (AObj PU)) (K : A PU → List (AObj PU) → Prop) (h : T28 (k + 1) args objs K) : RowOk PE (PT k) (PC k) 28 args objs K := by
  unfold T28 at h; split at h
  · exact .fn fnok28 rfl (Hold.mp (by kernel_rfl) h.out)
  · exact h.elim
theorem T12_z (args : List (A PU)) (objs : List (AObj PU)) (K : A PU → List (AObj PU) → Prop) : ¬ T12 0 args objs K := by
  intro h; unfold T12 at h; split at h <;> (first | exact h | exact h.out)
theorem T12_ok (k : Nat) (args : List (A PU)) (objs : List (AObj PU)) (K : A PU → List (AObj PU) → Prop) (h : T12 (k + 1) args objs K) : RowOk PE (PT k) (PC k) 12 args objs K := by
  unfold T12 at h; split at h
  · exact .fn fnok12 rfl (Hold.mp (by kernel_rfl) h.out)
  · exact h.elim
theorem T16_z (args : List (A PU)) (objs : List (AObj PU)) (K : A PU → List (AObj PU) → Prop) : ¬ T16 0 args objs K := by
  intro h; unfold T16 at h; split at h <;> (first | exact h | exact h.out)
theorem T16_ok (k : Nat) (args : List (A PU)) (objs : List (AObj PU)) (K : A PU → List (AObj PU) → Prop) (h : T16 (k + 1) args objs K) : RowOk PE (PT k) (PC k) 16 args objs K := by
  unfold T16 at h; split at h
  · exact .fn fnok16 rfl (Hold.mp (by kernel_rfl) h.out)
  · exact h.elim
theorem T54_z (args : List (A PU)) (objs : List (AObj PU)) (K : A PU → List (AObj PU) → Prop) : ¬ T54 0 args objs K := by
  intro h; unfold T54 at h; split at h <;> (first | exact h | exact h.out)
theorem T54_ok (k : Nat) (args : List (A PU)) (objs : List (AObj PU)) (K : A PU → List (AObj PU) → Prop) (h : T54 (k + 1) args objs K) : RowOk PE (PT k) (PC k) 54 args objs K := by
  unfold T54 at h; split at h
  · exact .fn fnok54 rfl (Hold.mp (by kernel_rfl) h.out)
  · exact h.elim
theorem T85_z (args : List (A PU)) (objs : List (AObj PU)) (K : A PU → List (AObj PU) → Prop) : ¬ T85 0 args objs K := by
  intro h; unfold T85 at h; split at h <;> (first | exact h | exact h.out)
theorem T85_ok (k : Nat) (args : List (A PU)) (objs : List (AObj PU)) (K : A PU → List (AObj PU) → Prop) (h : T85 (k + 1) args objs K) : RowOk PE (PT k) (PC k) 85 args objs K := by
  unfold T85 at h; split at h
  · exact .fn fnok85 rfl (Hold.mp (by kernel_rfl) h.out)
  · exact h.elim
theorem T66_z (args : List (A PU)) (objs : List (AObj PU)) (K : A PU → List (AObj PU) → Prop) : ¬ T66 0 args objs K := by
  intro h; unfold T66 at h; split at h <;> (first | exact h | exact h.out)
theorem T66_ok (k : Nat) (args : List (A PU)) (objs : List (AObj PU)) (K : A PU → List (AObj PU) → Prop) (h : T66 (k + 1) args objs K) : RowOk PE (PT k) (PC k) 66 args objs K := by
  unfold T66 at h; split at h
  · exact .fn fnok66 rfl (Hold.mp (by kernel_rfl) h.out)
  · exact h.elim
theorem T55_z (args : List (A PU)) (objs : List (AObj PU)) (K : A PU → List (AObj PU) → Prop) : ¬ T55 0 args objs K := by
  intro h; unfold T55 at h; split at h <;> (first | exact h | exact h.out)
theorem T55_ok (k : Nat) (args : List (A PU)) (objs : List (AObj PU)) (K : A PU → List (AObj PU) → Prop) (h : T55 (k + 1) args objs K) : RowOk PE (PT k) (PC k) 55 args objs K := by
  unfold T55 at h; split at h
  · exact .fn fnok55 rfl (Hold.mp (by kernel_rfl) h.out)
  · exact h.elim
theorem T57_z (args : List (A PU)) (objs : List (AObj PU)) (K : A PU → List (AObj PU) → Prop) : ¬ T57 0 args objs K := by
  intro h; unfold T57 at h; split at h <;> (first | exact h | exact h.out)
theorem T57_ok (k : Nat) (args : List (A PU)) (objs : List (AObj PU)) (K : A PU → List (AObj PU) → Prop) (h : T57 (k + 1) args objs K) : RowOk PE (PT k) (PC k) 57 args objs K := by
  unfold T57 at h; split at h
  · exact .fn fnok57 rfl (Hold.mp (by kernel_rfl) h.out)
  · exact h.elim
theorem T56_z (args : List (A PU)) (objs : List (AObj PU)) (K : A PU → List (AObj PU) → Prop) : ¬ T56 0 args objs K := by
  intro h; unfold T56 at h; split at h <;> (first | exact h | exact h.out)
theorem T56_ok (k : Nat) (args : List (A PU)) (objs : List (AObj PU)) (K : A PU → List (AObj PU) → Prop) (h : T56 (k + 1) args objs K) : RowOk PE (PT k) (PC k) 56 args objs K := by
  unfold T56 at h; split at h
  · exact .fn fnok56 rfl (Hold.mp (by kernel_rfl) h.out)
  · exact h.elim
theorem T39_z (args : List (A PU)) (objs : List (AObj PU)) (K : A PU → List (AObj PU) → Prop) : ¬ T39 0 args objs K := by
  intro h; unfold T39 at h; split at h <;> (first | exact h | exact h.out)
theorem T39_ok (k : Nat) (args : List (A PU)) (objs : List (AObj PU)) (K : A PU → List (AObj PU) → Prop) (h : T39 (k + 1) args objs K) : RowOk PE (PT k) (PC k) 39 args objs K := by
  unfold T39 at h; split at h
  · exact .fn fnok39 rfl (Hold.mp (by kernel_rfl) h.out)
  · exact .fn fnok39 rfl (Hold.mp (by kernel_rfl) h.out)
  · exact h.elim
theorem T50_z (args : List (A PU)) (objs : List (AObj PU)) (K : A PU → List (AObj PU) → Prop) : ¬ T50 0 args objs K := by
  intro h; unfold T50 at h; split at h <;> (first | exact h | exact h.out)
theorem T50_ok (k : Nat) (args : List (A PU)) (objs : List (AObj PU)) (K : A PU → List (AObj PU) → Prop) (h : T50 (k + 1) args objs K) : RowOk PE (PT k) (PC k) 50 args objs K := by
  unfold T50 at h; split at h
  · exact .fn fnok50 rfl (Hold.mp (by kernel_rfl) h.out)
  · exact h.elim
theorem T23_z (args : List (A PU)) (objs : List (AObj PU)) (K : A PU → List (AObj PU) → Prop) : ¬ T23 0 args objs K := by
  intro h; unfold T23 at h; split at h <;> (first | exact h | exact h.out)
theorem T23_ok (k : Nat) (args : List (A PU)) (objs : List (AObj PU)) (K : A PU → List (AObj PU) → Prop) (h : T23 (k + 1) args objs K) : RowOk PE (PT k) (PC k) 23 args objs K := by
  unfold T23 at h; split at h
  · exact .fn fnok23 rfl (Hold.mp (by kernel_rfl) h.out)
  · exact h.elim
theorem T49_z (args : List (A PU)) (objs : List (AObj PU)) (K : A PU → List (AObj PU) → Prop) : ¬ T49 0 args objs K := by
  intro h; unfold T49 at h; split at h <;> (first | exact h | exact h.out)
theorem T49_ok (k : Nat) (args : List (A PU)) (objs : List (AObj PU)) (K : A PU → List (AObj PU) → Prop) (h : T49 (k + 1) args objs K) : RowOk PE (PT k) (PC k) 49 args objs K := by
  unfold T49 at h; split at h
  · exact .fn fnok49 rfl (Hold.mp (by kernel_rfl) h.out)
  · exact h.elim
theorem T47_z (args : List (A PU)) (objs : List (AObj PU)) (K : A PU → List (AObj PU) → Prop) : ¬ T47 0 args objs K := by
  intro h; unfold T47 at h; split at h <;> (first | exact h | exact h.out)
theorem T47_ok (k : Nat) (args : List (A PU)) (objs : List (AObj PU)) (K : A PU → List (AObj PU) → Prop) (h : T47 (k + 1) args objs K) : RowOk PE (PT k) (PC k) 47 args objs K := by
  unfold T47 at h; split at h
  · exact .fn fnok47 rfl (Hold.mp (by kernel_rfl) h.out)
  · exact h.elim
theorem T34_z (args : List (A PU)) (objs : List (AObj PU)) (K : A PU → List (AObj PU) → Prop) : ¬ T34 0 args objs K := by
  intro h; unfold T34 at h; split at h <;> (first | exact h | exact h.out)
theorem T34_ok (k : Nat) (args : List (A PU)) (objs : List (AObj PU)) (K : A PU → List (AObj PU) → Prop) (h : T34 (k + 1) args objs K) : RowOk PE (PT k) (PC k) 34 args objs K := by
  unfold T34 at h; split at h
  · exact .row fun TS => hrow34 k _ _ _ (Hold.mp (by kernel_rfl) h.out).out TS
  · exact h.elim
theorem T18_z (args : List (A PU)) (objs : List (AObj PU)) (K : A PU → List (AObj PU) → Prop) : ¬ T18 0 args objs K := by
  intro h; unfold T18 at h; split at h <;> (first | exact h | exact h.out)
theorem T18_ok (k : Nat) (args : List (A PU)) (objs : List (AObj PU)) (K : A PU → List (AObj PU) → Prop) (h : T18 (k + 1) args objs K) : RowOk PE (PT k) (PC k) 18 args objs K := by
  unfold T18 at h; split at h
  · exact .fn fnok18 rfl (Hold.mp (by kernel_rfl) h.out)
  · exact h.elim
theorem T5_z (args : List (A PU)) (objs : List (AObj PU)) (K : A PU → List (AObj PU) → Prop) : ¬ T5 0 args objs K := by
  intro h; unfold T5 at h; split at h <;> (first | exact h | exact h.out)
theorem T5_ok (k : Nat) (args : List (A PU)) (objs : List (AObj PU)) (K : A PU → List (AObj PU) → Prop) (h : T5 (k + 1) args objs K) : RowOk PE (PT k) (PC k) 5 args objs K := by
  unfold T5 at h; split at h
  · exact .fn fnok5 rfl (Hold.mp (by kernel_rfl) h.out)
  · exact h.elim
theorem T6_z (args : List (A PU)) (objs : List (AObj PU)) (K : A PU → List (AObj PU) → Prop) : ¬ T6 0 args objs K := by
  intro h; unfold T6 at h; split at h <;> (first | exact h | exact h.out)
theorem T6_ok (k : Nat) (args : List (A PU)) (objs : List (AObj PU)) (K : A PU → List (AObj PU) → Prop) (h : T6 (k + 1) args objs K) : RowOk PE (PT k) (PC k) 6 args objs K := by
  unfold T6 at h; split at h
  · exact .fn fnok6 rfl (Hold.mp (by kernel_rfl) h.out)
  · exact h.elim
theorem T7_z (args : List (A PU)) (objs : List (AObj PU)) (K : A PU → List (AObj PU) → Prop) : ¬ T7 0 args objs K := by
  intro h; unfold T7 at h; split at h <;> (first | exact h | exact h.out)
theorem T7_ok (k : Nat) (args : List (A PU)) (objs : List (AObj PU)) (K : A PU → List (AObj PU) → Prop) (h : T7 (k + 1) args objs K) : RowOk PE (PT k) (PC k) 7 args objs K := by
  unfold T7 at h; split at h
  · exact .fn fnok7 rfl (Hold.mp (by kernel_rfl) h.out)
  · exact h.elim
theorem T24_z (args : List (A PU)) (objs : List (AObj PU)) (K : A PU → List (AObj PU) → Prop) : ¬ T24 0 args objs K := by
  intro h; unfold T24 at h; split at h <;> (first | exact h | exact h.out)
theorem T24_ok (k : Nat) (args : List (A PU)) (objs : List (AObj PU)) (K : A PU → List (AObj PU) → Prop) (h : T24 (k + 1) args objs K) : RowOk PE (PT k) (PC k) 24 args objs K := by
  unfold T24 at h; split at h
  · exact .fn fnok24 rfl (Hold.mp (by kernel_rfl) h.out)
  · exact h.elim
theorem T11_z (args : List (A PU)) (objs : List (AObj PU)) (K : A PU → List (AObj PU) → Prop) : ¬ T11 0 args objs K := by
  intro h; unfold T11 at h; split at h <;> (first | exact h | exact h.out)
theorem T11_ok (k : Nat) (args : List (A PU)) (objs : List (AObj PU)) (K : A PU → List (AObj PU) → Prop) (h : T11 (k + 1) args objs K) : RowOk PE (PT k) (PC k) 11 args objs K := by
  unfold T11 at h; split at h
  · exact .fn fnok11 rfl (Hold.mp (by kernel_rfl) h.out)
  · exact h.elim
theorem T8_z (args : List (A PU)) (objs : List (AObj PU)) (K : A PU → List (AObj PU) → Prop) : ¬ T8 0 args objs K := by
  intro h; unfold T8 at h; split at h <;> (first | exact h | exact h.out)
theorem T8_ok (k : Nat) (args : List (A PU)) (objs : List (AObj PU)) (K : A PU → List (AObj PU) → Prop) (h : T8 (k + 1) args objs K) : RowOk PE (PT k) (PC k) 8 args objs K := by
  unfold T8 at h; split at h
  · exact .fn fnok8 rfl (Hold.mp (by kernel_rfl) h.out)
  · exact h.elim
theorem T27_z (args : List (A PU)) (objs : List (AObj PU)) (K : A PU → List (AObj PU) → Prop) : ¬ T27 0 args objs K := by
  intro h; unfold T27 at h; split at h <;> (first | exact h | exact h.out)
theorem T27_ok (k : Nat) (args : List (A PU)) (objs : List (AObj PU)) (K : A PU → List (AObj PU) → Prop) (h : T27 (k + 1) args objs K) : RowOk PE (PT k) (PC k) 27 args objs K := by
  unfold T27 at h; split at h
  · exact .fn fnok27 rfl (Hold.mp (by kernel_rfl) h.out)
  · exact .fn fnok27 rfl (Hold.mp (by kernel_rfl) h.out)
  · exact h.elim
theorem T10_z (args : List (A PU)) (objs : List (AObj PU)) (K : A PU → List (AObj PU) → Prop) : ¬ T10 0 args objs K := by
  intro h; unfold T10 at h; split at h <;> (first | exact h | exact h.out)
theorem T10_ok (k : Nat) (args : List (A PU)) (objs : List (AObj PU)) (K : A PU → List (AObj PU) → Prop) (h : T10 (k + 1) args objs K) : RowOk PE (PT k) (PC k) 10 args objs K := by
  unfold T10 at h; split at h
  · exact .fn fnok10 rfl (Hold.mp (by kernel_rfl) h.out)
  · exact .fn fnok10 rfl (Hold.mp (by kernel_rfl) h.out)
  · exact h.elim
theorem T32_z (args : List (A PU)) (objs : List (AObj PU)) (K : A PU → List (AObj PU) → Prop) : ¬ T32 0 args objs K := by
  intro h; unfold T32 at h; split at h <;> (first | exact h | exact h.out)
theorem T32_ok (k : Nat) (args : List (A PU)) (objs : List (AObj PU)) (K : A PU → List (AObj PU) → Prop) (h : T32 (k + 1) args objs K) : RowOk PE (PT k) (PC k) 32 args objs K := by
  unfold T32 at h; split at h
  · exact .fn fnok32 rfl (Hold.mp (by kernel_rfl) h.out)
  · exact h.elim
theorem T31_z (args : List (A PU)) (objs : List (AObj PU)) (K : A PU → List (AObj PU) → Prop) : ¬ T31 0 args objs K := by
  intro h; unfold T31 at h; split at h <;> (first | exact h | exact h.out)
theorem T31_ok (k : Nat) (args : List (A PU)) (objs : List (AObj PU)) (K : A PU → List (AObj PU) → Prop) (h : T31 (k + 1) args objs K) : RowOk PE (PT k) (PC k) 31 args objs K := by
  unfold T31 at h; split at h
  · exact .fn fnok31 rfl (Hold.mp (by kernel_rfl) h.out)
  · exact h.elim
theorem T15_z (args : List (A PU)) (objs : List (AObj PU)) (K : A PU → List (AObj PU) → Prop) : ¬ T15 0 args objs K := by
  intro h; unfold T15 at h; split at h <;> (first | exact h | exact h.out)
theorem T15_ok (k : Nat) (args : List (A PU)) (objs : List (AObj PU)) (K : A PU → List (AObj PU) → Prop) (h : T15 (k + 1) args objs K) : RowOk PE (PT k) (PC k) 15 args objs K := by
  unfold T15 at h; split at h
  · exact .fn fnok15 rfl (Hold.mp (by kernel_rfl) h.out)
  · exact h.elim
theorem T62_z (args : List (A PU)) (objs : List (AObj PU)) (K : A PU → List (AObj PU) → Prop) : ¬ T62 0 args objs K := by
  intro h; unfold T62 at h; split at h <;> (first | exact h | exact h.out)
theorem T62_ok (k : Nat) (args : List (A PU)) (objs : List (AObj PU)) (K : A PU → List (AObj PU) → Prop) (h : T62 (k + 1) args objs K) : RowOk PE (PT k) (PC k) 62 args objs K := by
  unfold T62 at h; split at h
  · exact .fn fnok62 rfl (Hold.mp (by kernel_rfl) h.out)
  · exact h.elim
theorem T46_z (args : List (A PU)) (objs : List (AObj PU)) (K : A PU → List (AObj PU) → Prop) : ¬ T46 0 args objs K := by
  intro h; unfold T46 at h; split at h <;> (first | exact h | exact h.out)
theorem T46_ok (k : Nat) (args : List (A PU)) (objs : List (AObj PU)) (K : A PU → List (AObj PU) → Prop) (h : T46 (k + 1) args objs K) : RowOk PE (PT k) (PC k) 46 args objs K := by
  unfold T46 at h; split at h
  · exact .fn fnok46 rfl (Hold.mp (by kernel_rfl) h.out)
  · exact h.elim
theorem T45_z (args : List (A PU)) (objs : List (AObj PU)) (K : A PU → List (AObj PU) → Prop) : ¬ T45 0 args objs K := by
  intro h; unfold T45 at h; split at h <;> (first | exact h | exact h.out)
theorem T45_ok (k : Nat) (args : List (A PU)) (objs : List (AObj PU)) (K : A PU → List (AObj PU) → Prop) (h : T45 (k + 1) args objs K) : RowOk PE (PT k) (PC k) 45 args objs K := by
  unfold T45 at h; split at h
  · exact .fn fnok45 rfl (Hold.mp (by kernel_rfl) h.out)
  · exact h.elim
theorem T33_z (args : List (A PU)) (objs : List (AObj PU)) (K : A PU → List (AObj PU) → Prop) : ¬ T33 0 args objs K := by
  intro h; unfold T33 at h; split at h <;> (first | exact h | exact h.out)
theorem T33_ok (k : Nat) (args : List (A PU)) (objs : List (AObj PU)) (K : A PU → List (AObj PU) → Prop) (h : T33 (k + 1) args objs K) : RowOk PE (PT k) (PC k) 33 args objs K := by
  unfold T33 at h; split at h
  · exact .fn fnok33 rfl (Hold.mp (by kernel_rfl) h.out)
  · exact h.elim
theorem T17_z (args : List (A PU)) (objs : List (AObj PU)) (K : A PU → List (AObj PU) → Prop) : ¬ T17 0 args objs K := by
  intro h; unfold T17 at h; split at h <;> (first | exact h | exact h.out)
theorem T17_ok (k : Nat) (args : List (A PU)) (objs : List (AObj PU)) (K : A PU → List (AObj PU) → Prop) (h : T17 (k + 1) args objs K) : RowOk PE (PT k) (PC k) 17 args objs K := by
  unfold T17 at h; split at h
  · exact .fn fnok17 rfl (Hold.mp (by kernel_rfl) h.out)
  · exact h.elim
theorem T82_z (args : List (A PU)) (objs : List (AObj PU)) (K : A PU → List (AObj PU) → Prop) : ¬ T82 0 args objs K := by
  intro h; unfold T82 at h; split at h <;> (first | exact h | exact h.out)
theorem T82_ok (k : Nat) (args : List (A PU)) (objs : List (AObj PU)) (K : A PU → List (AObj PU) → Prop) (h : T82 (k + 1) args objs K) : RowOk PE (PT k) (PC k) 82 args objs K := by
  unfold T82 at h; split at h
  · exact .fn fnok82 rfl (Hold.mp (by kernel_rfl) h.out)
  · exact h.elim
theorem T83_z (args : List (A PU)) (objs : List (AObj PU)) (K : A PU → List (AObj PU) → Prop) : ¬ T83 0 args objs K := by
  intro h; unfold T83 at h; split at h <;> (first | exact h | exact h.out)
theorem T83_ok (k : Nat) (args : List (A PU)) (objs : List (AObj PU)) (K : A PU → List (AObj PU) → Prop) (h : T83 (k + 1) args objs K) : RowOk PE (PT k) (PC k) 83 args objs K := by
  unfold T83 at h; split at h
  · exact .fn fnok83 rfl (Hold.mp (by kernel_rfl) h.out)
  · exact h.elim
theorem T95_z (args : List (A PU)) (objs : List (AObj PU)) (K : A PU → List (AObj PU) → Prop) : ¬ T95 0 args objs K := by
  intro h; unfold T95 at h; split at h <;> (first | exact h | exact h.out)
theorem T95_ok (k : Nat) (args : List (A PU)) (objs : List (AObj PU)) (K : A PU → List (AObj PU) → Prop) (h : T95 (k + 1) args objs K) : RowOk PE (PT k) (PC k) 95 args objs K := by
  unfold T95 at h; split at h
  · exact .fn fnok95 rfl (Hold.mp (by kernel_rfl) h.out)
  · exact h.elim
theorem T84_z (args : List (A PU)) (objs : List (AObj PU)) (K : A PU → List (AObj PU) → Prop) : ¬ T84 0 args objs K := by
  intro h; unfold T84 at h; split at h <;> (first | exact h | exact h.out)
theorem T84_ok (k : Nat) (args : List (A PU)) (objs : List (AObj PU)) (K : A PU → List (AObj PU) → Prop) (h : T84 (k + 1) args objs K) : RowOk PE (PT k) (PC k) 84 args objs K := by
  unfold T84 at h; split at h
  · exact .fn fnok84 rfl (Hold.mp (by kernel_rfl) h.out)
  · exact h.elim
theorem T65_z (args : List (A PU)) (objs : List (AObj PU)) (K : A PU → List (AObj PU) → Prop) : ¬ T65 0 args objs K := by
  intro h; unfold T65 at h; split at h <;> (first | exact h | exact h.out)
theorem T65_ok (k : Nat) (args : List (A PU)) (objs : List (AObj PU)) (K : A PU → List (AObj PU) → Prop) (h : T65 (k + 1) args objs K) : RowOk PE (PT k) (PC k) 65 args objs K := by
  unfold T65 at h; split at h
  · exact .fn fnok65 rfl (Hold.mp (by kernel_rfl) h.out)
  · exact h.elim
theorem T51_z (args : List (A PU)) (objs : List (AObj PU)) (K : A PU → List (AObj PU) → Prop) : ¬ T51 0 args objs K := by
  intro h; unfold T51 at h; split at h <;> (first | exact h | exact h.out)
theorem T51_ok (k : Nat) (args : List (A PU)) (objs : List (AObj PU)) (K : A PU → List (AObj PU) → Prop) (h : T51 (k + 1) args objs K) : RowOk PE (PT k) (PC k) 51 args objs K := by
  unfold T51 at h; split at h
  · exact .fn fnok51 rfl (Hold.mp (by kernel_rfl) h.out)
  · exact h.elim
theorem T35_z (args : List (A PU)) (objs : List (AObj PU)) (K : A PU → List (AObj PU) → Prop) : ¬ T35 0 args objs K := by
  intro h; unfold T35 at h; split at h <;> (first | exact h | exact h.out)
theorem T35_ok (k : Nat) (args : List (A PU)) (objs : List (AObj PU)) (K : A PU → List (AObj PU) → Prop) (h : T35 (k + 1) args objs K) : RowOk PE (PT k) (PC k) 35 args objs K := by
  unfold T35 at h; split at h
  · exact .fn fnok35 rfl (Hold.mp (by kernel_rfl) h.out)
  · exact h.elim
theorem T52_z (args : List (A PU)) (objs : List (AObj PU)) (K : A PU → List (AObj PU) → Prop) : ¬ T52 0 args objs K := by
  intro h; unfold T52 at h; split at h <;> (first | exact h | exact h.out)
theorem T52_ok (k : Nat) (args : List (A PU)) (objs : List (AObj PU)) (K : A PU → List (AObj PU) → Prop) (h : T52 (k + 1) args objs K) : RowOk PE (PT k) (PC k) 52 args objs K := by
  unfold T52 at h; split at h
  · exact .fn fnok52 rfl (Hold.mp (by kernel_rfl) h.out)
  · exact h.elim
theorem T36_z (args : List (A PU)) (objs : List (AObj PU)) (K : A PU → List (AObj PU) → Prop) : ¬ T36 0 args objs K := by
  intro h; unfold T36 at h; split at h <;> (first | exact h | exact h.out)
theorem T36_ok (k : Nat) (args : List (A PU)) (objs : List (AObj PU)) (K : A PU → List (AObj PU) → Prop) (h : T36 (k + 1) args objs K) : RowOk PE (PT k) (PC k) 36 args objs K := by
  unfold T36 at h; split at h
  · exact .fn fnok36 rfl (Hold.mp (by kernel_rfl) h.out)
  · exact h.elim
theorem T37_z (args : List (A PU)) (objs : List (AObj PU)) (K : A PU → List (AObj PU) → Prop) : ¬ T37 0 args objs K := by
  intro h; unfold T37 at h; split at h <;> (first | exact h | exact h.out)
theorem T37_ok (k : Nat) (args : List (A PU)) (objs : List (AObj PU)) (K : A PU → List (AObj PU) → Prop) (h : T37 (k + 1) args objs K) : RowOk PE (PT k) (PC k) 37 args objs K := by
  unfold T37 at h; split at h
  · exact .fn fnok37 rfl (Hold.mp (by kernel_rfl) h.out)
  · exact h.elim
theorem T53_z (args : List (A PU)) (objs : List (AObj PU)) (K : A PU → List (AObj PU) → Prop) : ¬ T53 0 args objs K := by
  intro h; unfold T53 at h; split at h <;> (first | exact h | exact h.out)
theorem T53_ok (k : Nat) (args : List (A PU)) (objs : List (AObj PU)) (K : A PU → List (AObj PU) → Prop) (h : T53 (k + 1) args objs K) : RowOk PE (PT k) (PC k) 53 args objs K := by
  unfold T53 at h; split at h
  · exact .fn fnok53 rfl (Hold.mp (by kernel_rfl) h.out)
  · exact h.elim
theorem T38_z (args : List (A PU)) (objs : List (AObj PU)) (K : A PU → List (AObj PU) → Prop) : ¬ T38 0 args objs K := by
  intro h; unfold T38 at h; split at h <;> (first | exact h | exact h.out)
theorem T38_ok (k : Nat) (args : List (A PU)) (objs : List (AObj PU)) (K : A PU → List (AObj PU) → Prop) (h : T38 (k + 1) args objs K) : RowOk PE (PT k) (PC k) 38 args objs K := by
  unfold T38 at h; split at h
  · exact .fn fnok38 rfl (Hold.mp (by kernel_rfl) h.out)
  · exact h.elim
theorem T19_z (args : List (A PU)) (objs : List (AObj PU)) (K : A PU → List (AObj PU) → Prop) : ¬ T19 0 args objs K := by
  intro h; unfold T19 at h; split at h <;> (first | exact h | exact h.out)
theorem T19_ok (k : Nat) (args : List (A PU)) (objs : List (AObj PU)) (K : A PU → List (AObj PU) → Prop) (h : T19 (k + 1) args objs K) : RowOk PE (PT k) (PC k) 19 args objs K := by
  unfold T19 at h; split at h
  · exact .fn fnok19 rfl (Hold.mp (by kernel_rfl) h.out)
  · exact h.elim
theorem T14_z (args : List (A PU)) (objs : List (AObj PU)) (K : A PU → List (AObj PU) → Prop) : ¬ T14 0 args objs K := by
  intro h; unfold T14 at h; split at h <;> (first | exact h | exact h.out)
theorem T14_ok (k : Nat) (args : List (A PU)) (objs : List (AObj PU)) (K : A PU → List (AObj PU) → Prop) (h : T14 (k + 1) args objs K) : RowOk PE (PT k) (PC k) 14 args objs K := by
  unfold T14 at h; split at h
  · exact .fn fnok14 rfl (Hold.mp (by kernel_rfl) h.out)
  · exact h.elim
theorem T3_z (args : List (A PU)) (objs : List (AObj PU)) (K : A PU → List (AObj PU) → Prop) : ¬ T3 0 args objs K := by
  intro h; unfold T3 at h; split at h <;> (first | exact h | exact h.out)
theorem T3_ok (k : Nat) (args : List (A PU)) (objs : List (AObj PU)) (K : A PU → List (AObj PU) → Prop) (h : T3 (k + 1) args objs K) : RowOk PE (PT k) (PC k) 3 args objs K := by
  unfold T3 at h; split at h
  · exact .fn fnok3 rfl (Hold.mp (by kernel_rfl) h.out)
  · exact h.elim
theorem D43_2_z (nb : Nat) (vals : List (A PU)) (objs : List (AObj PU)) (K : A PU → List (AObj PU) → Prop) : ¬ D43_2 0 nb vals objs K := by
  intro h; unfold D43_2 at h; split at h <;> (first | exact h | exact h.out)
theorem D43_2_ok (k : Nat) (live : List Nat) (hl : cutOf 43 2 PE.cuts = some live) (nb : Nat) (vals : List (A PU)) (objs : List (AObj PU)) (K : A PU → List (AObj PU) → Prop) (h : D43_2 (k + 1) nb vals objs K) : fnOk PE.P 43 = true ∧ Hold (vcut PE (PT k) (PC k) 43 2 live nb vals objs K) := by
  obtain rfl : live = [0, 1, 9, 10, 11] := Option.some.inj (hl.symm.trans (by kernel_rfl : cutOf 43 2 PE.cuts = some [0, 1, 9, 10, 11]))
  refine ⟨fnok43, ?_⟩; unfold D43_2 at h; split at h
  · exact Hold.mp (by kernel_rfl) h.out
  · exact h.elim
theorem D25_4_z (nb : Nat) (vals : List (A PU)) (objs : List (AObj PU)) (K : A PU → List (AObj PU) → Prop) : ¬ D25_4 0 nb vals objs K := by
  intro h; unfold D25_4 at h; split at h <;> (first | exact h | exact h.out)
theorem D25_4_ok (k : Nat) (live : List Nat) (hl : cutOf 25 4 PE.cuts = some live) (nb : Nat) (vals : List (A PU)) (objs : List (AObj PU)) (K : A PU → List (AObj PU) → Prop) (h : D25_4 (k + 1) nb vals objs K) : fnOk PE.P 25 = true ∧ Hold (vcut PE (PT k) (PC k) 25 4 live nb vals objs K) := by
  obtain rfl : live = [0, 9, 10] := Option.some.inj (hl.symm.trans (by kernel_rfl : cutOf 25 4 PE.cuts = some [0, 9, 10]))
  refine ⟨fnok25, ?_⟩; unfold D25_4 at h; split at h
  · exact Hold.mp (by kernel_rfl) h.out
  · exact h.elim
theorem D13_5_z (nb : Nat) (vals : List (A PU)) (objs : List (AObj PU)) (K : A PU → List (AObj PU) → Prop) : ¬ D13_5 0 nb vals objs K := by
  intro h; unfold D13_5 at h; split at h <;> (first | exact h | exact h.out)
theorem D13_5_ok (k : Nat) (live : List Nat) (hl : cutOf 13 5 PE.cuts = some live) (nb : Nat) (vals : List (A PU)) (objs : List (AObj PU)) (K : A PU → List (AObj PU) → Prop) (h : D13_5 (k + 1) nb vals objs K) : fnOk PE.P 13 = true ∧ Hold (vcut PE (PT k) (PC k) 13 5 live nb vals objs K) := by
  obtain rfl : live = [3, 4, 6, 7] := Option.some.inj (hl.symm.trans (by kernel_rfl : cutOf 13 5 PE.cuts = some [3, 4, 6, 7]))
  refine ⟨fnok13, ?_⟩; unfold D13_5 at h; split at h
  · exact Hold.mp (by kernel_rfl) h.out
  · exact h.elim
theorem D13_11_z (nb : Nat) (vals : List (A PU)) (objs : List (AObj PU)) (K : A PU → List (AObj PU) → Prop) : ¬ D13_11 0 nb vals objs K := by
  intro h; unfold D13_11 at h; split at h <;> (first | exact h | exact h.out)
theorem D13_11_ok (k : Nat) (live : List Nat) (hl : cutOf 13 11 PE.cuts = some live) (nb : Nat) (vals : List (A PU)) (objs : List (AObj PU)) (K : A PU → List (AObj PU) → Prop) (h : D13_11 (k + 1) nb vals objs K) : fnOk PE.P 13 = true ∧ Hold (vcut PE (PT k) (PC k) 13 11 live nb vals objs K) := by
  obtain rfl : live = [4] := Option.some.inj (hl.symm.trans (by kernel_rfl : cutOf 13 11 PE.cuts = some [4]))
  refine ⟨fnok13, ?_⟩; unfold D13_11 at h; split at h
  · exact Hold.mp (by kernel_rfl) h.out
  · exact h.elim
theorem D26_3_z (nb : Nat) (vals : List (A PU)) (objs : List (AObj PU)) (K : A PU → List (AObj PU) → Prop) : ¬ D26_3 0 nb vals objs K := by
  intro h; unfold D26_3 at h; split at h <;> (first | exact h | exact h.out)
theorem D26_3_ok (k : Nat) (live : List Nat) (hl : cutOf 26 3 PE.cuts = some live) (nb : Nat) (vals : List (A PU)) (objs : List (AObj PU)) (K : A PU → List (AObj PU) → Prop) (h : D26_3 (k + 1) nb vals objs K) : fnOk PE.P 26 = true ∧ Hold (vcut PE (PT k) (PC k) 26 3 live nb vals objs K) := by
  obtain rfl : live = [0, 2, 4] := Option.some.inj (hl.symm.trans (by kernel_rfl : cutOf 26 3 PE.cuts = some [0, 2, 4]))
  refine ⟨fnok26, ?_⟩; unfold D26_3 at h; split at h
  · exact Hold.mp (by kernel_rfl) h.out
  · exact h.elim
theorem D26_8_z (nb : Nat) (vals : List (A PU)) (objs : List (AObj PU)) (K : A PU → List (AObj PU) → Prop) : ¬ D26_8 0 nb vals objs K := by
  intro h; unfold D26_8 at h; split at h <;> (first | exact h | exact h.out)
theorem D26_8_ok (k : Nat) (live : List Nat) (hl : cutOf 26 8 PE.cuts = some live) (nb : Nat) (vals : List (A PU)) (objs : List (AObj PU)) (K : A PU → List (AObj PU) → Prop) (h : D26_8 (k + 1) nb vals objs K) : fnOk PE.P 26 = true ∧ Hold (vcut PE (PT k) (PC k) 26 8 live nb vals objs K) := by
  obtain rfl : live = [0, 2, 4] := Option.some.inj (hl.symm.trans (by kernel_rfl : cutOf 26 8 PE.cuts = some [0, 2, 4]))
  refine ⟨fnok26, ?_⟩; unfold D26_8 at h; split at h
  · exact Hold.mp (by kernel_rfl) h.out
  · exact Hold.mp (by kernel_rfl) h.out
  · exact h.elim
theorem D26_9_z (nb : Nat) (vals : List (A PU)) (objs : List (AObj PU)) (K : A PU → List (AObj PU) → Prop) : ¬ D26_9 0 nb vals objs K := by
  intro h; unfold D26_9 at h; split at h <;> (first | exact h | exact h.out)
theorem D26_9_ok (k : Nat) (live : List Nat) (hl : cutOf 26 9 PE.cuts = some live) (nb : Nat) (vals : List (A PU)) (objs : List (AObj PU)) (K : A PU → List (AObj PU) → Prop) (h : D26_9 (k + 1) nb vals objs K) : fnOk PE.P 26 = true ∧ Hold (vcut PE (PT k) (PC k) 26 9 live nb vals objs K) := by
  obtain rfl : live = [2, 4, 8] := Option.some.inj (hl.symm.trans (by kernel_rfl : cutOf 26 9 PE.cuts = some [2, 4, 8]))
  refine ⟨fnok26, ?_⟩; unfold D26_9 at h; split at h
  · exact Hold.mp (by kernel_rfl) h.out
  · exact h.elim
theorem D9_9_z (nb : Nat) (vals : List (A PU)) (objs : List (AObj PU)) (K : A PU → List (AObj PU) → Prop) : ¬ D9_9 0 nb vals objs K := by
  intro h; unfold D9_9 at h; split at h <;> (first | exact h | exact h.out)
theorem D9_9_ok (k : Nat) (live : List Nat) (hl : cutOf 9 9 PE.cuts = some live) (nb : Nat) (vals : List (A PU)) (objs : List (AObj PU)) (K : A PU → List (AObj PU) → Prop) (h : D9_9 (k + 1) nb vals objs K) : fnOk PE.P 9 = true ∧ Hold (vcut PE (PT k) (PC k) 9 9 live nb vals objs K) := by
  obtain rfl : live = [0, 5, 6, 29, 30, 31] := Option.some.inj (hl.symm.trans (by kernel_rfl : cutOf 9 9 PE.cuts = some [0, 5, 6, 29, 30, 31]))
  refine ⟨fnok9, ?_⟩; unfold D9_9 at h; split at h
  · exact Hold.mp (by kernel_rfl) h.out
  · exact Hold.mp (by kernel_rfl) h.out
  · exact h.elim
theorem D9_14_z (nb : Nat) (vals : List (A PU)) (objs : List (AObj PU)) (K : A PU → List (AObj PU) → Prop) : ¬ D9_14 0 nb vals objs K := by
  intro h; unfold D9_14 at h; split at h <;> (first | exact h | exact h.out)
theorem D9_14_ok (k : Nat) (live : List Nat) (hl : cutOf 9 14 PE.cuts = some live) (nb : Nat) (vals : List (A PU)) (objs : List (AObj PU)) (K : A PU → List (AObj PU) → Prop) (h : D9_14 (k + 1) nb vals objs K) : fnOk PE.P 9 = true ∧ Hold (vcut PE (PT k) (PC k) 9 14 live nb vals objs K) := by
  obtain rfl : live = [0, 5, 6, 8, 29, 30, 31] := Option.some.inj (hl.symm.trans (by kernel_rfl : cutOf 9 14 PE.cuts = some [0, 5, 6, 8, 29, 30, 31]))
  refine ⟨fnok9, ?_⟩; unfold D9_14 at h; split at h
  · exact Hold.mp (by kernel_rfl) h.out
  · exact Hold.mp (by kernel_rfl) h.out
  · exact h.elim
theorem D28_3_z (nb : Nat) (vals : List (A PU)) (objs : List (AObj PU)) (K : A PU → List (AObj PU) → Prop) : ¬ D28_3 0 nb vals objs K := by
  intro h; unfold D28_3 at h; split at h <;> (first | exact h | exact h.out)
theorem D28_3_ok (k : Nat) (live : List Nat) (hl : cutOf 28 3 PE.cuts = some live) (nb : Nat) (vals : List (A PU)) (objs : List (AObj PU)) (K : A PU → List (AObj PU) → Prop) (h : D28_3 (k + 1) nb vals objs K) : fnOk PE.P 28 = true ∧ Hold (vcut PE (PT k) (PC k) 28 3 live nb vals objs K) := by
  obtain rfl : live = [0, 2, 4] := Option.some.inj (hl.symm.trans (by kernel_rfl : cutOf 28 3 PE.cuts = some [0, 2, 4]))
  refine ⟨fnok28, ?_⟩; unfold D28_3 at h; split at h
  · exact Hold.mp (by kernel_rfl) h.out
  · exact h.elim
theorem D28_9_z (nb : Nat) (vals : List (A PU)) (objs : List (AObj PU)) (K : A PU → List (AObj PU) → Prop) : ¬ D28_9 0 nb vals objs K := by
  intro h; unfold D28_9 at h; split at h <;> (first | exact h | exact h.out)
theorem D28_9_ok (k : Nat) (live : List Nat) (hl : cutOf 28 9 PE.cuts = some live) (nb : Nat) (vals : List (A PU)) (objs : List (AObj PU)) (K : A PU → List (AObj PU) → Prop) (h : D28_9 (k + 1) nb vals objs K) : fnOk PE.P 28 = true ∧ Hold (vcut PE (PT k) (PC k) 28 9 live nb vals objs K) := by
  obtain rfl : live = [7] := Option.some.inj (hl.symm.trans (by kernel_rfl : cutOf 28 9 PE.cuts = some [7]))
  refine ⟨fnok28, ?_⟩; unfold D28_9 at h; split at h
  · exact Hold.mp (by kernel_rfl) h.out
  · exact h.elim
theorem D28_11_z (nb : Nat) (vals : List (A PU)) (objs : List (AObj PU)) (K : A PU → List (AObj PU) → Prop) : ¬ D28_11 0 nb vals objs K := by
  intro h; unfold D28_11 at h; split at h <;> (first | exact h | exact h.out)
theorem D28_11_ok (k : Nat) (live : List Nat) (hl : cutOf 28 11 PE.cuts = some live) (nb : Nat) (vals : List (A PU)) (objs : List (AObj PU)) (K : A PU → List (AObj PU) → Prop) (h : D28_11 (k + 1) nb vals objs K) : fnOk PE.P 28 = true ∧ Hold (vcut PE (PT k) (PC k) 28 11 live nb vals objs K) := by
  obtain rfl : live = [7] := Option.some.inj (hl.symm.trans (by kernel_rfl : cutOf 28 11 PE.cuts = some [7]))
  refine ⟨fnok28, ?_⟩; unfold D28_11 at h; split at h
  · exact Hold.mp (by kernel_rfl) h.out
  · exact h.elim
theorem D66_2_z (nb : Nat) (vals : List (A PU)) (objs : List (AObj PU)) (K : A PU → List (AObj PU) → Prop) : ¬ D66_2 0 nb vals objs K := by
  intro h; unfold D66_2 at h; split at h <;> (first | exact h | exact h.out)
theorem D66_2_ok (k : Nat) (live : List Nat) (hl : cutOf 66 2 PE.cuts = some live) (nb : Nat) (vals : List (A PU)) (objs : List (AObj PU)) (K : A PU → List (AObj PU) → Prop) (h : D66_2 (k + 1) nb vals objs K) : fnOk PE.P 66 = true ∧ Hold (vcut PE (PT k) (PC k) 66 2 live nb vals objs K) := by
  obtain rfl : live = [0, 2, 25] := Option.some.inj (hl.symm.trans (by kernel_rfl : cutOf 66 2 PE.cuts = some [0, 2, 25]))
  refine ⟨fnok66, ?_⟩; unfold D66_2 at h; split at h
  · exact Hold.mp (by kernel_rfl) h.out
  · exact h.elim
theorem D66_11_z (nb : Nat) (vals : List (A PU)) (objs : List (AObj PU)) (K : A PU → List (AObj PU) → Prop) : ¬ D66_11 0 nb vals objs K := by
  intro h; unfold D66_11 at h; split at h <;> (first | exact h | exact h.out)
theorem D66_11_ok (k : Nat) (live : List Nat) (hl : cutOf 66 11 PE.cuts = some live) (nb : Nat) (vals : List (A PU)) (objs : List (AObj PU)) (K : A PU → List (AObj PU) → Prop) (h : D66_11 (k + 1) nb vals objs K) : fnOk PE.P 66 = true ∧ Hold (vcut PE (PT k) (PC k) 66 11 live nb vals objs K) := by
  obtain rfl : live = [0, 2, 25] := Option.some.inj (hl.symm.trans (by kernel_rfl : cutOf 66 11 PE.cuts = some [0, 2, 25]))
  refine ⟨fnok66, ?_⟩; unfold D66_11 at h; split at h
  · exact Hold.mp (by kernel_rfl) h.out
  · exact h.elim
theorem D66_14_z (nb : Nat) (vals : List (A PU)) (objs : List (AObj PU)) (K : A PU → List (AObj PU) → Prop) : ¬ D66_14 0 nb vals objs K := by
  intro h; unfold D66_14 at h; split at h <;> (first | exact h | exact h.out)
theorem D66_14_ok (k : Nat) (live : List Nat) (hl : cutOf 66 14 PE.cuts = some live) (nb : Nat) (vals : List (A PU)) (objs : List (AObj PU)) (K : A PU → List (AObj PU) → Prop) (h : D66_14 (k + 1) nb vals objs K) : fnOk PE.P 66 = true ∧ Hold (vcut PE (PT k) (PC k) 66 14 live nb vals objs K) := by
  obtain rfl : live = [0, 9, 10, 11, 12, 13, 14, 15, 16, 140, 141] := Option.some.inj (hl.symm.trans (by kernel_rfl : cutOf 66 14 PE.cuts = some [0, 9, 10, 11, 12, 13, 14, 15, 16, 140, 141]))
  refine ⟨fnok66, ?_⟩; unfold D66_14 at h; split at h
  · exact Hold.mp (by kernel_rfl) h.out
  · exact h.elim
theorem D66_23_z (nb : Nat) (vals : List (A PU)) (objs : List (AObj PU)) (K : A PU → List (AObj PU) → Prop) : ¬ D66_23 0 nb vals objs K := by
  intro h; unfold D66_23 at h; split at h <;> (first | exact h | exact h.out)
theorem D66_23_ok (k : Nat) (live : List Nat) (hl : cutOf 66 23 PE.cuts = some live) (nb : Nat) (vals : List (A PU)) (objs : List (AObj PU)) (K : A PU → List (AObj PU) → Prop) (h : D66_23 (k + 1) nb vals objs K) : fnOk PE.P 66 = true ∧ Hold (vcut PE (PT k) (PC k) 66 23 live nb vals objs K) := by
  obtain rfl : live = [0, 210, 211] := Option.some.inj (hl.symm.trans (by kernel_rfl : cutOf 66 23 PE.cuts = some [0, 210, 211]))
  refine ⟨fnok66, ?_⟩; unfold D66_23 at h; split at h
  · exact Hold.mp (by kernel_rfl) h.out
  · exact h.elim
theorem D55_3_z (nb : Nat) (vals : List (A PU)) (objs : List (AObj PU)) (K : A PU → List (AObj PU) → Prop) : ¬ D55_3 0 nb vals objs K := by
  intro h; unfold D55_3 at h; split at h <;> (first | exact h | exact h.out)
theorem D55_3_ok (k : Nat) (live : List Nat) (hl : cutOf 55 3 PE.cuts = some live) (nb : Nat) (vals : List (A PU)) (objs : List (AObj PU)) (K : A PU → List (AObj PU) → Prop) (h : D55_3 (k + 1) nb vals objs K) : fnOk PE.P 55 = true ∧ Hold (vcut PE (PT k) (PC k) 55 3 live nb vals objs K) := by
  obtain rfl : live = [0, 1] := Option.some.inj (hl.symm.trans (by kernel_rfl : cutOf 55 3 PE.cuts = some [0, 1]))
  refine ⟨fnok55, ?_⟩; unfold D55_3 at h; split at h
  · exact Hold.mp (by kernel_rfl) h.out
  · exact h.elim
theorem D57_9_z (nb : Nat) (vals : List (A PU)) (objs : List (AObj PU)) (K : A PU → List (AObj PU) → Prop) : ¬ D57_9 0 nb vals objs K := by
  intro h; unfold D57_9 at h; split at h <;> (first | exact h | exact h.out)
theorem D57_9_ok (k : Nat) (live : List Nat) (hl : cutOf 57 9 PE.cuts = some live) (nb : Nat) (vals : List (A PU)) (objs : List (AObj PU)) (K : A PU → List (AObj PU) → Prop) (h : D57_9 (k + 1) nb vals objs K) : fnOk PE.P 57 = true ∧ Hold (vcut PE (PT k) (PC k) 57 9 live nb vals objs K) := by
  obtain rfl : live = [0, 2, 3, 4, 5, 6, 22] := Option.some.inj (hl.symm.trans (by kernel_rfl : cutOf 57 9 PE.cuts = some [0, 2, 3, 4, 5, 6, 22]))
  refine ⟨fnok57, ?_⟩; unfold D57_9 at h; split at h
  · exact Hold.mp (by kernel_rfl) h.out
  · exact h.elim
theorem D57_15_z (nb : Nat) (vals : List (A PU)) (objs : List (AObj PU)) (K : A PU → List (AObj PU) → Prop) : ¬ D57_15 0 nb vals objs K := by
  intro h; unfold D57_15 at h; split at h <;> (first | exact h | exact h.out)
theorem D57_15_ok (k : Nat) (live : List Nat) (hl : cutOf 57 15 PE.cuts = some live) (nb : Nat) (vals : List (A PU)) (objs : List (AObj PU)) (K : A PU → List (AObj PU) → Prop) (h : D57_15 (k + 1) nb vals objs K) : fnOk PE.P 57 = true ∧ Hold (vcut PE (PT k) (PC k) 57 15 live nb vals objs K) := by
  obtain rfl : live = [2, 3, 4, 45] := Option.some.inj (hl.symm.trans (by kernel_rfl : cutOf 57 15 PE.cuts = some [2, 3, 4, 45]))
  refine ⟨fnok57, ?_⟩; unfold D57_15 at h; split at h
  · exact Hold.mp (by kernel_rfl) h.out
  · exact h.elim
theorem D56_4_z (nb : Nat) (vals : List (A PU)) (objs : List (AObj PU)) (K : A PU → List (AObj PU) → Prop) : ¬ D56_4 0 nb vals objs K := by
  intro h; unfold D56_4 at h; split at h <;> (first | exact h | exact h.out)
theorem D56_4_ok (k : Nat) (live : List Nat) (hl : cutOf 56 4 PE.cuts = some live) (nb : Nat) (vals : List (A PU)) (objs : List (AObj PU)) (K : A PU → List (AObj PU) → Prop) (h : D56_4 (k + 1) nb vals objs K) : fnOk PE.P 56 = true ∧ Hold (vcut PE (PT k) (PC k) 56 4 live nb vals objs K) := by
  obtain rfl : live = [4, 5] := Option.some.inj (hl.symm.trans (by kernel_rfl : cutOf 56 4 PE.cuts = some [4, 5]))
  refine ⟨fnok56, ?_⟩; unfold D56_4 at h; split at h
  · exact Hold.mp (by kernel_rfl) h.out
  · exact h.elim
theorem D39_4_z (nb : Nat) (vals : List (A PU)) (objs : List (AObj PU)) (K : A PU → List (AObj PU) → Prop) : ¬ D39_4 0 nb vals objs K := by
  intro h; unfold D39_4 at h; split at h <;> (first | exact h | exact h.out)
theorem D39_4_ok (k : Nat) (live : List Nat) (hl : cutOf 39 4 PE.cuts = some live) (nb : Nat) (vals : List (A PU)) (objs : List (AObj PU)) (K : A PU → List (AObj PU) → Prop) (h : D39_4 (k + 1) nb vals objs K) : fnOk PE.P 39 = true ∧ Hold (vcut PE (PT k) (PC k) 39 4 live nb vals objs K) := by
  obtain rfl : live = [0, 6, 7, 15, 16, 17] := Option.some.inj (hl.symm.trans (by kernel_rfl : cutOf 39 4 PE.cuts = some [0, 6, 7, 15, 16, 17]))
  refine ⟨fnok39, ?_⟩; unfold D39_4 at h; split at h
  · exact Hold.mp (by kernel_rfl) h.out
  · exact Hold.mp (by kernel_rfl) h.out
  · exact h.elim
theorem D5_2_z (nb : Nat) (vals : List (A PU)) (objs : List (AObj PU)) (K : A PU → List (AObj PU) → Prop) : ¬ D5_2 0 nb vals objs K := by
  intro h; unfold D5_2 at h; split at h <;> (first | exact h | exact h.out)
theorem D5_2_ok (k : Nat) (live : List Nat) (hl : cutOf 5 2 PE.cuts = some live) (nb : Nat) (vals : List (A PU)) (objs : List (AObj PU)) (K : A PU → List (AObj PU) → Prop) (h : D5_2 (k + 1) nb vals objs K) : fnOk PE.P 5 = true ∧ Hold (vcut PE (PT k) (PC k) 5 2 live nb vals objs K) := by
  obtain rfl : live = [1, 2] := Option.some.inj (hl.symm.trans (by kernel_rfl : cutOf 5 2 PE.cuts = some [1, 2]))
  refine ⟨fnok5, ?_⟩; unfold D5_2 at h; split at h
  · exact Hold.mp (by kernel_rfl) h.out
  · exact Hold.mp (by kernel_rfl) h.out
  · exact h.elim
theorem D24_2_z (nb : Nat) (vals : List (A PU)) (objs : List (AObj PU)) (K : A PU → List (AObj PU) → Prop) : ¬ D24_2 0 nb vals objs K := by
  intro h; unfold D24_2 at h; split at h <;> (first | exact h | exact h.out)
theorem D24_2_ok (k : Nat) (live : List Nat) (hl : cutOf 24 2 PE.cuts = some live) (nb : Nat) (vals : List (A PU)) (objs : List (AObj PU)) (K : A PU → List (AObj PU) → Prop) (h : D24_2 (k + 1) nb vals objs K) : fnOk PE.P 24 = true ∧ Hold (vcut PE (PT k) (PC k) 24 2 live nb vals objs K) := by
  obtain rfl : live = [0, 3] := Option.some.inj (hl.symm.trans (by kernel_rfl : cutOf 24 2 PE.cuts = some [0, 3]))
  refine ⟨fnok24, ?_⟩; unfold D24_2 at h; split at h
  · exact Hold.mp (by kernel_rfl) h.out
  · exact h.elim
theorem D24_5_z (nb : Nat) (vals : List (A PU)) (objs : List (AObj PU)) (K : A PU → List (AObj PU) → Prop) : ¬ D24_5 0 nb vals objs K := by
  intro h; unfold D24_5 at h; split at h <;> (first | exact h | exact h.out)
theorem D24_5_ok (k : Nat) (live : List Nat) (hl : cutOf 24 5 PE.cuts = some live) (nb : Nat) (vals : List (A PU)) (objs : List (AObj PU)) (K : A PU → List (AObj PU) → Prop) (h : D24_5 (k + 1) nb vals objs K) : fnOk PE.P 24 = true ∧ Hold (vcut PE (PT k) (PC k) 24 5 live nb vals objs K) := by
  obtain rfl : live = [0, 3, 4] := Option.some.inj (hl.symm.trans (by kernel_rfl : cutOf 24 5 PE.cuts = some [0, 3, 4]))
  refine ⟨fnok24, ?_⟩; unfold D24_5 at h; split at h
  · exact Hold.mp (by kernel_rfl) h.out
  · exact h.elim
theorem D11_3_z (nb : Nat) (vals : List (A PU)) (objs : List (AObj PU)) (K : A PU → List (AObj PU) → Prop) : ¬ D11_3 0 nb vals objs K := by
  intro h; unfold D11_3 at h; split at h <;> (first | exact h | exact h.out)
theorem D11_3_ok (k : Nat) (live : List Nat) (hl : cutOf 11 3 PE.cuts = some live) (nb : Nat) (vals : List (A PU)) (objs : List (AObj PU)) (K : A PU → List (AObj PU) → Prop) (h : D11_3 (k + 1) nb vals objs K) : fnOk PE.P 11 = true ∧ Hold (vcut PE (PT k) (PC k) 11 3 live nb vals objs K) := by
  obtain rfl : live = [0, 3, 6, 7] := Option.some.inj (hl.symm.trans (by kernel_rfl : cutOf 11 3 PE.cuts = some [0, 3, 6, 7]))
  refine ⟨fnok11, ?_⟩; unfold D11_3 at h; split at h
  · exact Hold.mp (by kernel_rfl) h.out
  · exact h.elim
theorem D11_4_z (nb : Nat) (vals : List (A PU)) (objs : List (AObj PU)) (K : A PU → List (AObj PU) → Prop) : ¬ D11_4 0 nb vals objs K := by
  intro h; unfold D11_4 at h; split at h <;> (first | exact h | exact h.out)
theorem D11_4_ok (k : Nat) (live : List Nat) (hl : cutOf 11 4 PE.cuts = some live) (nb : Nat) (vals : List (A PU)) (objs : List (AObj PU)) (K : A PU → List (AObj PU) → Prop) (h : D11_4 (k + 1) nb vals objs K) : fnOk PE.P 11 = true ∧ Hold (vcut PE (PT k) (PC k) 11 4 live nb vals objs K) := by
  obtain rfl : live = [0, 3, 6, 7] := Option.some.inj (hl.symm.trans (by kernel_rfl : cutOf 11 4 PE.cuts = some [0, 3, 6, 7]))
  refine ⟨fnok11, ?_⟩; unfold D11_4 at h; split at h
  · exact Hold.mp (by kernel_rfl) h.out
  · exact h.elim
theorem D8_7_z (nb : Nat) (vals : List (A PU)) (objs : List (AObj PU)) (K : A PU → List (AObj PU) → Prop) : ¬ D8_7 0 nb vals objs K := by
  intro h; unfold D8_7 at h; split at h <;> (first | exact h | exact h.out)
theorem D8_7_ok (k : Nat) (live : List Nat) (hl : cutOf 8 7 PE.cuts = some live) (nb : Nat) (vals : List (A PU)) (objs : List (AObj PU)) (K : A PU → List (AObj PU) → Prop) (h : D8_7 (k + 1) nb vals objs K) : fnOk PE.P 8 = true ∧ Hold (vcut PE (PT k) (PC k) 8 7 live nb vals objs K) := by
  obtain rfl : live = [0, 1, 6, 7] := Option.some.inj (hl.symm.trans (by kernel_rfl : cutOf 8 7 PE.cuts = some [0, 1, 6, 7]))
  refine ⟨fnok8, ?_⟩; unfold D8_7 at h; split at h
  · exact Hold.mp (by kernel_rfl) h.out
  · exact Hold.mp (by kernel_rfl) h.out
  · exact h.elim
theorem D8_9_z (nb : Nat) (vals : List (A PU)) (objs : List (AObj PU)) (K : A PU → List (AObj PU) → Prop) : ¬ D8_9 0 nb vals objs K := by
  intro h; unfold D8_9 at h; split at h <;> (first | exact h | exact h.out)
theorem D8_9_ok (k : Nat) (live : List Nat) (hl : cutOf 8 9 PE.cuts = some live) (nb : Nat) (vals : List (A PU)) (objs : List (AObj PU)) (K : A PU → List (AObj PU) → Prop) (h : D8_9 (k + 1) nb vals objs K) : fnOk PE.P 8 = true ∧ Hold (vcut PE (PT k) (PC k) 8 9 live nb vals objs K) := by
  obtain rfl : live = [0, 1, 6, 7] := Option.some.inj (hl.symm.trans (by kernel_rfl : cutOf 8 9 PE.cuts = some [0, 1, 6, 7]))
  refine ⟨fnok8, ?_⟩; unfold D8_9 at h; split at h
  · exact Hold.mp (by kernel_rfl) h.out
  · exact Hold.mp (by kernel_rfl) h.out
  · exact h.elim
theorem D8_10_z (nb : Nat) (vals : List (A PU)) (objs : List (AObj PU)) (K : A PU → List (AObj PU) → Prop) : ¬ D8_10 0 nb vals objs K := by
  intro h; unfold D8_10 at h; split at h <;> (first | exact h | exact h.out)
theorem D8_10_ok (k : Nat) (live : List Nat) (hl : cutOf 8 10 PE.cuts = some live) (nb : Nat) (vals : List (A PU)) (objs : List (AObj PU)) (K : A PU → List (AObj PU) → Prop) (h : D8_10 (k + 1) nb vals objs K) : fnOk PE.P 8 = true ∧ Hold (vcut PE (PT k) (PC k) 8 10 live nb vals objs K) := by
  obtain rfl : live = [0, 1, 7, 8] := Option.some.inj (hl.symm.trans (by kernel_rfl : cutOf 8 10 PE.cuts = some [0, 1, 7, 8]))
  refine ⟨fnok8, ?_⟩; unfold D8_10 at h; split at h
  · exact Hold.mp (by kernel_rfl) h.out
  · exact h.elim
theorem D27_4_z (nb : Nat) (vals : List (A PU)) (objs : List (AObj PU)) (K : A PU → List (AObj PU) → Prop) : ¬ D27_4 0 nb vals objs K := by
  intro h; unfold D27_4 at h; split at h <;> (first | exact h | exact h.out)
theorem D27_4_ok (k : Nat) (live : List Nat) (hl : cutOf 27 4 PE.cuts = some live) (nb : Nat) (vals : List (A PU)) (objs : List (AObj PU)) (K : A PU → List (AObj PU) → Prop) (h : D27_4 (k + 1) nb vals objs K) : fnOk PE.P 27 = true ∧ Hold (vcut PE (PT k) (PC k) 27 4 live nb vals objs K) := by
  obtain rfl : live = [0, 1, 5] := Option.some.inj (hl.symm.trans (by kernel_rfl : cutOf 27 4 PE.cuts = some [0, 1, 5]))
  refine ⟨fnok27, ?_⟩; unfold D27_4 at h; split at h
  · exact Hold.mp (by kernel_rfl) h.out
  · exact Hold.mp (by kernel_rfl) h.out
  · exact h.elim
theorem D62_3_z (nb : Nat) (vals : List (A PU)) (objs : List (AObj PU)) (K : A PU → List (AObj PU) → Prop) : ¬ D62_3 0 nb vals objs K := by
  intro h; unfold D62_3 at h; split at h <;> (first | exact h | exact h.out)
theorem D62_3_ok (k : Nat) (live : List Nat) (hl : cutOf 62 3 PE.cuts = some live) (nb : Nat) (vals : List (A PU)) (objs : List (AObj PU)) (K : A PU → List (AObj PU) → Prop) (h : D62_3 (k + 1) nb vals objs K) : fnOk PE.P 62 = true ∧ Hold (vcut PE (PT k) (PC k) 62 3 live nb vals objs K) := by
  obtain rfl : live = [0, 3, 4] := Option.some.inj (hl.symm.trans (by kernel_rfl : cutOf 62 3 PE.cuts = some [0, 3, 4]))
  refine ⟨fnok62, ?_⟩; unfold D62_3 at h; split at h
  · exact Hold.mp (by kernel_rfl) h.out
  · exact h.elim
theorem D45_2_z (nb : Nat) (vals : List (A PU)) (objs : List (AObj PU)) (K : A PU → List (AObj PU) → Prop) : ¬ D45_2 0 nb vals objs K := by
  intro h; unfold D45_2 at h; split at h <;> (first | exact h | exact h.out)
theorem D45_2_ok (k : Nat) (live : List Nat) (hl : cutOf 45 2 PE.cuts = some live) (nb : Nat) (vals : List (A PU)) (objs : List (AObj PU)) (K : A PU → List (AObj PU) → Prop) (h : D45_2 (k + 1) nb vals objs K) : fnOk PE.P 45 = true ∧ Hold (vcut PE (PT k) (PC k) 45 2 live nb vals objs K) := by
  obtain rfl : live = [2, 3, 5] := Option.some.inj (hl.symm.trans (by kernel_rfl : cutOf 45 2 PE.cuts = some [2, 3, 5]))
  refine ⟨fnok45, ?_⟩; unfold D45_2 at h; split at h
  · exact Hold.mp (by kernel_rfl) h.out
  · exact h.elim
theorem D17_3_z (nb : Nat) (vals : List (A PU)) (objs : List (AObj PU)) (K : A PU → List (AObj PU) → Prop) : ¬ D17_3 0 nb vals objs K := by
  intro h; unfold D17_3 at h; split at h <;> (first | exact h | exact h.out)
theorem D17_3_ok (k : Nat) (live : List Nat) (hl : cutOf 17 3 PE.cuts = some live) (nb : Nat) (vals : List (A PU)) (objs : List (AObj PU)) (K : A PU → List (AObj PU) → Prop) (h : D17_3 (k + 1) nb vals objs K) : fnOk PE.P 17 = true ∧ Hold (vcut PE (PT k) (PC k) 17 3 live nb vals objs K) := by
  obtain rfl : live = [0, 3, 4] := Option.some.inj (hl.symm.trans (by kernel_rfl : cutOf 17 3 PE.cuts = some [0, 3, 4]))
  refine ⟨fnok17, ?_⟩; unfold D17_3 at h; split at h
  · exact Hold.mp (by kernel_rfl) h.out
  · exact h.elim
theorem D17_6_z (nb : Nat) (vals : List (A PU)) (objs : List (AObj PU)) (K : A PU → List (AObj PU) → Prop) : ¬ D17_6 0 nb vals objs K := by
  intro h; unfold D17_6 at h; split at h <;> (first | exact h | exact h.out)
theorem D17_6_ok (k : Nat) (live : List Nat) (hl : cutOf 17 6 PE.cuts = some live) (nb : Nat) (vals : List (A PU)) (objs : List (AObj PU)) (K : A PU → List (AObj PU) → Prop) (h : D17_6 (k + 1) nb vals objs K) : fnOk PE.P 17 = true ∧ Hold (vcut PE (PT k) (PC k) 17 6 live nb vals objs K) := by
  obtain rfl : live = [0, 3, 4, 5] := Option.some.inj (hl.symm.trans (by kernel_rfl : cutOf 17 6 PE.cuts = some [0, 3, 4, 5]))
  refine ⟨fnok17, ?_⟩; unfold D17_6 at h; split at h
  · exact Hold.mp (by kernel_rfl) h.out
  · exact h.elim
theorem D17_9_z (nb : Nat) (vals : List (A PU)) (objs : List (AObj PU)) (K : A PU → List (AObj PU) → Prop) : ¬ D17_9 0 nb vals objs K := by
  intro h; unfold D17_9 at h; split at h <;> (first | exact h | exact h.out)
theorem D17_9_ok (k : Nat) (live : List Nat) (hl : cutOf 17 9 PE.cuts = some live) (nb : Nat) (vals : List (A PU)) (objs : List (AObj PU)) (K : A PU → List (AObj PU) → Prop) (h : D17_9 (k + 1) nb vals objs K) : fnOk PE.P 17 = true ∧ Hold (vcut PE (PT k) (PC k) 17 9 live nb vals objs K) := by
  obtain rfl : live = [0, 3, 4, 5, 6] := Option.some.inj (hl.symm.trans (by kernel_rfl : cutOf 17 9 PE.cuts = some [0, 3, 4, 5, 6]))
  refine ⟨fnok17, ?_⟩; unfold D17_9 at h; split at h
  · exact Hold.mp (by kernel_rfl) h.out
  · exact h.elim
theorem D82_4_z (nb : Nat) (vals : List (A PU)) (objs : List (AObj PU)) (K : A PU → List (AObj PU) → Prop) : ¬ D82_4 0 nb vals objs K := by
  intro h; unfold D82_4 at h; split at h <;> (first | exact h | exact h.out)
theorem D82_4_ok (k : Nat) (live : List Nat) (hl : cutOf 82 4 PE.cuts = some live) (nb : Nat) (vals : List (A PU)) (objs : List (AObj PU)) (K : A PU → List (AObj PU) → Prop) (h : D82_4 (k + 1) nb vals objs K) : fnOk PE.P 82 = true ∧ Hold (vcut PE (PT k) (PC k) 82 4 live nb vals objs K) := by
  obtain rfl : live = [0, 3] := Option.some.inj (hl.symm.trans (by kernel_rfl : cutOf 82 4 PE.cuts = some [0, 3]))
  refine ⟨fnok82, ?_⟩; unfold D82_4 at h; split at h
  · exact Hold.mp (by kernel_rfl) h.out
  · exact h.elim
theorem D82_8_z (nb : Nat) (vals : List (A PU)) (objs : List (AObj PU)) (K : A PU → List (AObj PU) → Prop) : ¬ D82_8 0 nb vals objs K := by
  intro h; unfold D82_8 at h; split at h <;> (first | exact h | exact h.out)
theorem D82_8_ok (k : Nat) (live : List Nat) (hl : cutOf 82 8 PE.cuts = some live) (nb : Nat) (vals : List (A PU)) (objs : List (AObj PU)) (K : A PU → List (AObj PU) → Prop) (h : D82_8 (k + 1) nb vals objs K) : fnOk PE.P 82 = true ∧ Hold (vcut PE (PT k) (PC k) 82 8 live nb vals objs K) := by
  obtain rfl : live = [3, 4, 5] := Option.some.inj (hl.symm.trans (by kernel_rfl : cutOf 82 8 PE.cuts = some [3, 4, 5]))
  refine ⟨fnok82, ?_⟩; unfold D82_8 at h; split at h
  · exact Hold.mp (by kernel_rfl) h.out
  · exact h.elim
theorem D84_3_z (nb : Nat) (vals : List (A PU)) (objs : List (AObj PU)) (K : A PU → List (AObj PU) → Prop) : ¬ D84_3 0 nb vals objs K := by
  intro h; unfold D84_3 at h; split at h <;> (first | exact h | exact h.out)
theorem D84_3_ok (k : Nat) (live : List Nat) (hl : cutOf 84 3 PE.cuts = some live) (nb : Nat) (vals : List (A PU)) (objs : List (AObj PU)) (K : A PU → List (AObj PU) → Prop) (h : D84_3 (k + 1) nb vals objs K) : fnOk PE.P 84 = true ∧ Hold (vcut PE (PT k) (PC k) 84 3 live nb vals objs K) := by
  obtain rfl : live = [1, 2, 4, 5, 6] := Option.some.inj (hl.symm.trans (by kernel_rfl : cutOf 84 3 PE.cuts = some [1, 2, 4, 5, 6]))
  refine ⟨fnok84, ?_⟩; unfold D84_3 at h; split at h
  · exact Hold.mp (by kernel_rfl) h.out
  · exact h.elim
theorem D84_7_z (nb : Nat) (vals : List (A PU)) (objs : List (AObj PU)) (K : A PU → List (AObj PU) → Prop) : ¬ D84_7 0 nb vals objs K := by
  intro h; unfold D84_7 at h; split at h <;> (first | exact h | exact h.out)
theorem D84_7_ok (k : Nat) (live : List Nat) (hl : cutOf 84 7 PE.cuts = some live) (nb : Nat) (vals : List (A PU)) (objs : List (AObj PU)) (K : A PU → List (AObj PU) → Prop) (h : D84_7 (k + 1) nb vals objs K) : fnOk PE.P 84 = true ∧ Hold (vcut PE (PT k) (PC k) 84 7 live nb vals objs K) := by
  obtain rfl : live = [2, 4, 5, 7] := Option.some.inj (hl.symm.trans (by kernel_rfl : cutOf 84 7 PE.cuts = some [2, 4, 5, 7]))
  refine ⟨fnok84, ?_⟩; unfold D84_7 at h; split at h
  · exact Hold.mp (by kernel_rfl) h.out
  · exact h.elim
theorem D84_14_z (nb : Nat) (vals : List (A PU)) (objs : List (AObj PU)) (K : A PU → List (AObj PU) → Prop) : ¬ D84_14 0 nb vals objs K := by
  intro h; unfold D84_14 at h; split at h <;> (first | exact h | exact h.out)
theorem D84_14_ok (k : Nat) (live : List Nat) (hl : cutOf 84 14 PE.cuts = some live) (nb : Nat) (vals : List (A PU)) (objs : List (AObj PU)) (K : A PU → List (AObj PU) → Prop) (h : D84_14 (k + 1) nb vals objs K) : fnOk PE.P 84 = true ∧ Hold (vcut PE (PT k) (PC k) 84 14 live nb vals objs K) := by
  obtain rfl : live = [2, 4, 5, 10, 11] := Option.some.inj (hl.symm.trans (by kernel_rfl : cutOf 84 14 PE.cuts = some [2, 4, 5, 10, 11]))
  refine ⟨fnok84, ?_⟩; unfold D84_14 at h; split at h
  · exact Hold.mp (by kernel_rfl) h.out
  · exact h.elim
theorem D84_22_z (nb : Nat) (vals : List (A PU)) (objs : List (AObj PU)) (K : A PU → List (AObj PU) → Prop) : ¬ D84_22 0 nb vals objs K := by
  intro h; unfold D84_22 at h; split at h <;> (first | exact h | exact h.out)
theorem D84_22_ok (k : Nat) (live : List Nat) (hl : cutOf 84 22 PE.cuts = some live) (nb : Nat) (vals : List (A PU)) (objs : List (AObj PU)) (K : A PU → List (AObj PU) → Prop) (h : D84_22 (k + 1) nb vals objs K) : fnOk PE.P 84 = true ∧ Hold (vcut PE (PT k) (PC k) 84 22 live nb vals objs K) := by
  obtain rfl : live = [2, 4, 10, 16] := Option.some.inj (hl.symm.trans (by kernel_rfl : cutOf 84 22 PE.cuts = some [2, 4, 10, 16]))
  refine ⟨fnok84, ?_⟩; unfold D84_22 at h; split at h
  · exact Hold.mp (by kernel_rfl) h.out
  · exact h.elim
theorem D65_4_z (nb : Nat) (vals : List (A PU)) (objs : List (AObj PU)) (K : A PU → List (AObj PU) → Prop) : ¬ D65_4 0 nb vals objs K := by
  intro h; unfold D65_4 at h; split at h <;> (first | exact h | exact h.out)
theorem D65_4_ok (k : Nat) (live : List Nat) (hl : cutOf 65 4 PE.cuts = some live) (nb : Nat) (vals : List (A PU)) (objs : List (AObj PU)) (K : A PU → List (AObj PU) → Prop) (h : D65_4 (k + 1) nb vals objs K) : fnOk PE.P 65 = true ∧ Hold (vcut PE (PT k) (PC k) 65 4 live nb vals objs K) := by
  obtain rfl : live = [2, 3, 4, 5] := Option.some.inj (hl.symm.trans (by kernel_rfl : cutOf 65 4 PE.cuts = some [2, 3, 4, 5]))
  refine ⟨fnok65, ?_⟩; unfold D65_4 at h; split at h
  · exact Hold.mp (by kernel_rfl) h.out
  · exact h.elim
theorem D65_9_z (nb : Nat) (vals : List (A PU)) (objs : List (AObj PU)) (K : A PU → List (AObj PU) → Prop) : ¬ D65_9 0 nb vals objs K := by
  intro h; unfold D65_9 at h; split at h <;> (first | exact h | exact h.out)
theorem D65_9_ok (k : Nat) (live : List Nat) (hl : cutOf 65 9 PE.cuts = some live) (nb : Nat) (vals : List (A PU)) (objs : List (AObj PU)) (K : A PU → List (AObj PU) → Prop) (h : D65_9 (k + 1) nb vals objs K) : fnOk PE.P 65 = true ∧ Hold (vcut PE (PT k) (PC k) 65 9 live nb vals objs K) := by
  obtain rfl : live = [2, 4, 6, 7] := Option.some.inj (hl.symm.trans (by kernel_rfl : cutOf 65 9 PE.cuts = some [2, 4, 6, 7]))
  refine ⟨fnok65, ?_⟩; unfold D65_9 at h; split at h
  · exact Hold.mp (by kernel_rfl) h.out
  · exact h.elim
theorem D51_6_z (nb : Nat) (vals : List (A PU)) (objs : List (AObj PU)) (K : A PU → List (AObj PU) → Prop) : ¬ D51_6 0 nb vals objs K := by
  intro h; unfold D51_6 at h; split at h <;> (first | exact h | exact h.out)
theorem D51_6_ok (k : Nat) (live : List Nat) (hl : cutOf 51 6 PE.cuts = some live) (nb : Nat) (vals : List (A PU)) (objs : List (AObj PU)) (K : A PU → List (AObj PU) → Prop) (h : D51_6 (k + 1) nb vals objs K) : fnOk PE.P 51 = true ∧ Hold (vcut PE (PT k) (PC k) 51 6 live nb vals objs K) := by
  obtain rfl : live = [0, 4, 6, 7, 8] := Option.some.inj (hl.symm.trans (by kernel_rfl : cutOf 51 6 PE.cuts = some [0, 4, 6, 7, 8]))
  refine ⟨fnok51, ?_⟩; unfold D51_6 at h; split at h
  · exact Hold.mp (by kernel_rfl) h.out
  · exact h.elim
theorem D37_3_z (nb : Nat) (vals : List (A PU)) (objs : List (AObj PU)) (K : A PU → List (AObj PU) → Prop) : ¬ D37_3 0 nb vals objs K := by
  intro h; unfold D37_3 at h; split at h <;> (first | exact h | exact h.out)
theorem D37_3_ok (k : Nat) (live : List Nat) (hl : cutOf 37 3 PE.cuts = some live) (nb : Nat) (vals : List (A PU)) (objs : List (AObj PU)) (K : A PU → List (AObj PU) → Prop) (h : D37_3 (k + 1) nb vals objs K) : fnOk PE.P 37 = true ∧ Hold (vcut PE (PT k) (PC k) 37 3 live nb vals objs K) := by
  obtain rfl : live = [0, 1, 2, 7, 8] := Option.some.inj (hl.symm.trans (by kernel_rfl : cutOf 37 3 PE.cuts = some [0, 1, 2, 7, 8]))
  refine ⟨fnok37, ?_⟩; unfold D37_3 at h; split at h
  · exact Hold.mp (by kernel_rfl) h.out
  · exact h.elim
theorem D37_4_z (nb : Nat) (vals : List (A PU)) (objs : List (AObj PU)) (K : A PU → List (AObj PU) → Prop) : ¬ D37_4 0 nb vals objs K := by
  intro h; unfold D37_4 at h; split at h <;> (first | exact h | exact h.out)
theorem D37_4_ok (k : Nat) (live : List Nat) (hl : cutOf 37 4 PE.cuts = some live) (nb : Nat) (vals : List (A PU)) (objs : List (AObj PU)) (K : A PU → List (AObj PU) → Prop) (h : D37_4 (k + 1) nb vals objs K) : fnOk PE.P 37 = true ∧ Hold (vcut PE (PT k) (PC k) 37 4 live nb vals objs K) := by
  obtain rfl : live = [0, 1, 2, 7, 8] := Option.some.inj (hl.symm.trans (by kernel_rfl : cutOf 37 4 PE.cuts = some [0, 1, 2, 7, 8]))
  refine ⟨fnok37, ?_⟩; unfold D37_4 at h; split at h
  · exact Hold.mp (by kernel_rfl) h.out
  · exact h.elim
theorem D14_2_z (nb : Nat) (vals : List (A PU)) (objs : List (AObj PU)) (K : A PU → List (AObj PU) → Prop) : ¬ D14_2 0 nb vals objs K := by
  intro h; unfold D14_2 at h; split at h <;> (first | exact h | exact h.out)
theorem D14_2_ok (k : Nat) (live : List Nat) (hl : cutOf 14 2 PE.cuts = some live) (nb : Nat) (vals : List (A PU)) (objs : List (AObj PU)) (K : A PU → List (AObj PU) → Prop) (h : D14_2 (k + 1) nb vals objs K) : fnOk PE.P 14 = true ∧ Hold (vcut PE (PT k) (PC k) 14 2 live nb vals objs K) := by
  obtain rfl : live = [0, 3, 4, 6] := Option.some.inj (hl.symm.trans (by kernel_rfl : cutOf 14 2 PE.cuts = some [0, 3, 4, 6]))
  refine ⟨fnok14, ?_⟩; unfold D14_2 at h; split at h
  · exact Hold.mp (by kernel_rfl) h.out
  · exact h.elim
theorem D3_5_z (nb : Nat) (vals : List (A PU)) (objs : List (AObj PU)) (K : A PU → List (AObj PU) → Prop) : ¬ D3_5 0 nb vals objs K := by
  intro h; unfold D3_5 at h; split at h <;> (first | exact h | exact h.out)
theorem D3_5_ok (k : Nat) (live : List Nat) (hl : cutOf 3 5 PE.cuts = some live) (nb : Nat) (vals : List (A PU)) (objs : List (AObj PU)) (K : A PU → List (AObj PU) → Prop) (h : D3_5 (k + 1) nb vals objs K) : fnOk PE.P 3 = true ∧ Hold (vcut PE (PT k) (PC k) 3 5 live nb vals objs K) := by
  obtain rfl : live = [0, 1, 5, 6] := Option.some.inj (hl.symm.trans (by kernel_rfl : cutOf 3 5 PE.cuts = some [0, 1, 5, 6]))
  refine ⟨fnok3, ?_⟩; unfold D3_5 at h; split at h
  · exact Hold.mp (by kernel_rfl) h.out
  · exact h.elim
theorem D3_15_z (nb : Nat) (vals : List (A PU)) (objs : List (AObj PU)) (K : A PU → List (AObj PU) → Prop) : ¬ D3_15 0 nb vals objs K := by
  intro h; unfold D3_15 at h; split at h <;> (first | exact h | exact h.out)
theorem D3_15_ok (k : Nat) (live : List Nat) (hl : cutOf 3 15 PE.cuts = some live) (nb : Nat) (vals : List (A PU)) (objs : List (AObj PU)) (K : A PU → List (AObj PU) → Prop) (h : D3_15 (k + 1) nb vals objs K) : fnOk PE.P 3 = true ∧ Hold (vcut PE (PT k) (PC k) 3 15 live nb vals objs K) := by
  obtain rfl : live = [0, 1, 7, 9, 10] := Option.some.inj (hl.symm.trans (by kernel_rfl : cutOf 3 15 PE.cuts = some [0, 1, 7, 9, 10]))
  refine ⟨fnok3, ?_⟩; unfold D3_15 at h; split at h
  · exact Hold.mp (by kernel_rfl) h.out
  · exact Hold.mp (by kernel_rfl) h.out
  · exact h.elim
theorem D3_17_z (nb : Nat) (vals : List (A PU)) (objs : List (AObj PU)) (K : A PU → List (AObj PU) → Prop) : ¬ D3_17 0 nb vals objs K := by
  intro h; unfold D3_17 at h; split at h <;> (first | exact h | exact h.out)
theorem D3_17_ok (k : Nat) (live : List Nat) (hl : cutOf 3 17 PE.cuts = some live) (nb : Nat) (vals : List (A PU)) (objs : List (AObj PU)) (K : A PU → List (AObj PU) → Prop) (h : D3_17 (k + 1) nb vals objs K) : fnOk PE.P 3 = true ∧ Hold (vcut PE (PT k) (PC k) 3 17 live nb vals objs K) := by
  obtain rfl : live = [0, 1, 7, 9, 10] := Option.some.inj (hl.symm.trans (by kernel_rfl : cutOf 3 17 PE.cuts = some [0, 1, 7, 9, 10]))
  refine ⟨fnok3, ?_⟩; unfold D3_17 at h; split at h
  · exact Hold.mp (by kernel_rfl) h.out
  · exact Hold.mp (by kernel_rfl) h.out
  · exact h.elim
theorem D3_18_z (nb : Nat) (vals : List (A PU)) (objs : List (AObj PU)) (K : A PU → List (AObj PU) → Prop) : ¬ D3_18 0 nb vals objs K := by
  intro h; unfold D3_18 at h; split at h <;> (first | exact h | exact h.out)
theorem D3_18_ok (k : Nat) (live : List Nat) (hl : cutOf 3 18 PE.cuts = some live) (nb : Nat) (vals : List (A PU)) (objs : List (AObj PU)) (K : A PU → List (AObj PU) → Prop) (h : D3_18 (k + 1) nb vals objs K) : fnOk PE.P 3 = true ∧ Hold (vcut PE (PT k) (PC k) 3 18 live nb vals objs K) := by
  obtain rfl : live = [0, 1, 7, 9, 10, 11] := Option.some.inj (hl.symm.trans (by kernel_rfl : cutOf 3 18 PE.cuts = some [0, 1, 7, 9, 10, 11]))
  refine ⟨fnok3, ?_⟩; unfold D3_18 at h; split at h
  · exact Hold.mp (by kernel_rfl) h.out
  · exact Hold.mp (by kernel_rfl) h.out
  · exact h.elim
theorem D3_19_z (nb : Nat) (vals : List (A PU)) (objs : List (AObj PU)) (K : A PU → List (AObj PU) → Prop) : ¬ D3_19 0 nb vals objs K := by
  intro h; unfold D3_19 at h; split at h <;> (first | exact h | exact h.out)
theorem D3_19_ok (k : Nat) (live : List Nat) (hl : cutOf 3 19 PE.cuts = some live) (nb : Nat) (vals : List (A PU)) (objs : List (AObj PU)) (K : A PU → List (AObj PU) → Prop) (h : D3_19 (k + 1) nb vals objs K) : fnOk PE.P 3 = true ∧ Hold (vcut PE (PT k) (PC k) 3 19 live nb vals objs K) := by
  obtain rfl : live = [0, 1, 7, 9, 10, 11, 85] := Option.some.inj (hl.symm.trans (by kernel_rfl : cutOf 3 19 PE.cuts = some [0, 1, 7, 9, 10, 11, 85]))
  refine ⟨fnok3, ?_⟩; unfold D3_19 at h; split at h
  · exact Hold.mp (by kernel_rfl) h.out
  · exact Hold.mp (by kernel_rfl) h.out
  · exact h.elim
theorem D3_20_z (nb : Nat) (vals : List (A PU)) (objs : List (AObj PU)) (K : A PU → List (AObj PU) → Prop) : ¬ D3_20 0 nb vals objs K := by
  intro h; unfold D3_20 at h; split at h <;> (first | exact h | exact h.out)
theorem D3_20_ok (k : Nat) (live : List Nat) (hl : cutOf 3 20 PE.cuts = some live) (nb : Nat) (vals : List (A PU)) (objs : List (AObj PU)) (K : A PU → List (AObj PU) → Prop) (h : D3_20 (k + 1) nb vals objs K) : fnOk PE.P 3 = true ∧ Hold (vcut PE (PT k) (PC k) 3 20 live nb vals objs K) := by
  obtain rfl : live = [0, 1, 7, 9, 10, 11] := Option.some.inj (hl.symm.trans (by kernel_rfl : cutOf 3 20 PE.cuts = some [0, 1, 7, 9, 10, 11]))
  refine ⟨fnok3, ?_⟩; unfold D3_20 at h; split at h
  · exact Hold.mp (by kernel_rfl) h.out
  · exact Hold.mp (by kernel_rfl) h.out
  · exact h.elim
theorem D3_21_z (nb : Nat) (vals : List (A PU)) (objs : List (AObj PU)) (K : A PU → List (AObj PU) → Prop) : ¬ D3_21 0 nb vals objs K := by
  intro h; unfold D3_21 at h; split at h <;> (first | exact h | exact h.out)
theorem D3_21_ok (k : Nat) (live : List Nat) (hl : cutOf 3 21 PE.cuts = some live) (nb : Nat) (vals : List (A PU)) (objs : List (AObj PU)) (K : A PU → List (AObj PU) → Prop) (h : D3_21 (k + 1) nb vals objs K) : fnOk PE.P 3 = true ∧ Hold (vcut PE (PT k) (PC k) 3 21 live nb vals objs K) := by
  obtain rfl : live = [0, 1, 7, 9, 10, 11, 12] := Option.some.inj (hl.symm.trans (by kernel_rfl : cutOf 3 21 PE.cuts = some [0, 1, 7, 9, 10, 11, 12]))
  refine ⟨fnok3, ?_⟩; unfold D3_21 at h; split at h
  · exact Hold.mp (by kernel_rfl) h.out
  · exact Hold.mp (by kernel_rfl) h.out
  · exact h.elim
theorem D3_22_z (nb : Nat) (vals : List (A PU)) (objs : List (AObj PU)) (K : A PU → List (AObj PU) → Prop) : ¬ D3_22 0 nb vals objs K := by
  intro h; unfold D3_22 at h; split at h <;> (first | exact h | exact h.out)
theorem D3_22_ok (k : Nat) (live : List Nat) (hl : cutOf 3 22 PE.cuts = some live) (nb : Nat) (vals : List (A PU)) (objs : List (AObj PU)) (K : A PU → List (AObj PU) → Prop) (h : D3_22 (k + 1) nb vals objs K) : fnOk PE.P 3 = true ∧ Hold (vcut PE (PT k) (PC k) 3 22 live nb vals objs K) := by
  obtain rfl : live = [0, 1, 7, 10, 11, 12, 13, 14] := Option.some.inj (hl.symm.trans (by kernel_rfl : cutOf 3 22 PE.cuts = some [0, 1, 7, 10, 11, 12, 13, 14]))
  refine ⟨fnok3, ?_⟩; unfold D3_22 at h; split at h
  · exact Hold.mp (by kernel_rfl) h.out
  · exact Hold.mp (by kernel_rfl) h.out
  · exact h.elim
theorem D3_35_z (nb : Nat) (vals : List (A PU)) (objs : List (AObj PU)) (K : A PU → List (AObj PU) → Prop) : ¬ D3_35 0 nb vals objs K := by
  intro h; unfold D3_35 at h; split at h <;> (first | exact h | exact h.out)
theorem D3_35_ok (k : Nat) (live : List Nat) (hl : cutOf 3 35 PE.cuts = some live) (nb : Nat) (vals : List (A PU)) (objs : List (AObj PU)) (K : A PU → List (AObj PU) → Prop) (h : D3_35 (k + 1) nb vals objs K) : fnOk PE.P 3 = true ∧ Hold (vcut PE (PT k) (PC k) 3 35 live nb vals objs K) := by
  obtain rfl : live = [0, 1, 7, 9, 10] := Option.some.inj (hl.symm.trans (by kernel_rfl : cutOf 3 35 PE.cuts = some [0, 1, 7, 9, 10]))
  refine ⟨fnok3, ?_⟩; unfold D3_35 at h; split at h
  · exact Hold.mp (by kernel_rfl) h.out
  · exact Hold.mp (by kernel_rfl) h.out
  · exact h.elim
theorem D3_36_z (nb : Nat) (vals : List (A PU)) (objs : List (AObj PU)) (K : A PU → List (AObj PU) → Prop) : ¬ D3_36 0 nb vals objs K := by
  intro h; unfold D3_36 at h; split at h <;> (first | exact h | exact h.out)
theorem D3_36_ok (k : Nat) (live : List Nat) (hl : cutOf 3 36 PE.cuts = some live) (nb : Nat) (vals : List (A PU)) (objs : List (AObj PU)) (K : A PU → List (AObj PU) → Prop) (h : D3_36 (k + 1) nb vals objs K) : fnOk PE.P 3 = true ∧ Hold (vcut PE (PT k) (PC k) 3 36 live nb vals objs K) := by
  obtain rfl : live = [0, 1, 7, 9, 10, 21] := Option.some.inj (hl.symm.trans (by kernel_rfl : cutOf 3 36 PE.cuts = some [0, 1, 7, 9, 10, 21]))
  refine ⟨fnok3, ?_⟩; unfold D3_36 at h; split at h
  · exact Hold.mp (by kernel_rfl) h.out
  · exact Hold.mp (by kernel_rfl) h.out
  · exact h.elim
theorem D3_39_z (nb : Nat) (vals : List (A PU)) (objs : List (AObj PU)) (K : A PU → List (AObj PU) → Prop) : ¬ D3_39 0 nb vals objs K := by
  intro h; unfold D3_39 at h; split at h <;> (first | exact h | exact h.out)
theorem D3_39_ok (k : Nat) (live : List Nat) (hl : cutOf 3 39 PE.cuts = some live) (nb : Nat) (vals : List (A PU)) (objs : List (AObj PU)) (K : A PU → List (AObj PU) → Prop) (h : D3_39 (k + 1) nb vals objs K) : fnOk PE.P 3 = true ∧ Hold (vcut PE (PT k) (PC k) 3 39 live nb vals objs K) := by
  obtain rfl : live = [0, 1, 7, 9, 10, 21, 22] := Option.some.inj (hl.symm.trans (by kernel_rfl : cutOf 3 39 PE.cuts = some [0, 1, 7, 9, 10, 21, 22]))
  refine ⟨fnok3, ?_⟩; unfold D3_39 at h; split at h
  · exact Hold.mp (by kernel_rfl) h.out
  · exact Hold.mp (by kernel_rfl) h.out
  · exact h.elim
theorem D3_41_z (nb : Nat) (vals : List (A PU)) (objs : List (AObj PU)) (K : A PU → List (AObj PU) → Prop) : ¬ D3_41 0 nb vals objs K := by
  intro h; unfold D3_41 at h; split at h <;> (first | exact h | exact h.out)
theorem D3_41_ok (k : Nat) (live : List Nat) (hl : cutOf 3 41 PE.cuts = some live) (nb : Nat) (vals : List (A PU)) (objs : List (AObj PU)) (K : A PU → List (AObj PU) → Prop) (h : D3_41 (k + 1) nb vals objs K) : fnOk PE.P 3 = true ∧ Hold (vcut PE (PT k) (PC k) 3 41 live nb vals objs K) := by
  obtain rfl : live = [0, 1, 7, 9, 10, 21, 22] := Option.some.inj (hl.symm.trans (by kernel_rfl : cutOf 3 41 PE.cuts = some [0, 1, 7, 9, 10, 21, 22]))
  refine ⟨fnok3, ?_⟩; unfold D3_41 at h; split at h
  · exact Hold.mp (by kernel_rfl) h.out
  · exact Hold.mp (by kernel_rfl) h.out
  · exact h.elim
theorem D3_40_z (nb : Nat) (vals : List (A PU)) (objs : List (AObj PU)) (K : A PU → List (AObj PU) → Prop) : ¬ D3_40 0 nb vals objs K := by
  intro h; unfold D3_40 at h; split at h <;> (first | exact h | exact h.out)
theorem D3_40_ok (k : Nat) (live : List Nat) (hl : cutOf 3 40 PE.cuts = some live) (nb : Nat) (vals : List (A PU)) (objs : List (AObj PU)) (K : A PU → List (AObj PU) → Prop) (h : D3_40 (k + 1) nb vals objs K) : fnOk PE.P 3 = true ∧ Hold (vcut PE (PT k) (PC k) 3 40 live nb vals objs K) := by
  obtain rfl : live = [0, 1, 7, 9, 10, 21, 22] := Option.some.inj (hl.symm.trans (by kernel_rfl : cutOf 3 40 PE.cuts = some [0, 1, 7, 9, 10, 21, 22]))
  refine ⟨fnok3, ?_⟩; unfold D3_40 at h; split at h
  · exact Hold.mp (by kernel_rfl) h.out
  · exact Hold.mp (by kernel_rfl) h.out
  · exact h.elim
theorem D3_25_z (nb : Nat) (vals : List (A PU)) (objs : List (AObj PU)) (K : A PU → List (AObj PU) → Prop) : ¬ D3_25 0 nb vals objs K := by
  intro h; unfold D3_25 at h; split at h <;> (first | exact h | exact h.out)
theorem D3_25_ok (k : Nat) (live : List Nat) (hl : cutOf 3 25 PE.cuts = some live) (nb : Nat) (vals : List (A PU)) (objs : List (AObj PU)) (K : A PU → List (AObj PU) → Prop) (h : D3_25 (k + 1) nb vals objs K) : fnOk PE.P 3 = true ∧ Hold (vcut PE (PT k) (PC k) 3 25 live nb vals objs K) := by
  obtain rfl : live = [0, 1, 7, 9, 10, 11, 85] := Option.some.inj (hl.symm.trans (by kernel_rfl : cutOf 3 25 PE.cuts = some [0, 1, 7, 9, 10, 11, 85]))
  refine ⟨fnok3, ?_⟩; unfold D3_25 at h; split at h
  · exact Hold.mp (by kernel_rfl) h.out
  · exact Hold.mp (by kernel_rfl) h.out
  · exact h.elim
theorem D3_26_z (nb : Nat) (vals : List (A PU)) (objs : List (AObj PU)) (K : A PU → List (AObj PU) → Prop) : ¬ D3_26 0 nb vals objs K := by
  intro h; unfold D3_26 at h; split at h <;> (first | exact h | exact h.out)
theorem D3_26_ok (k : Nat) (live : List Nat) (hl : cutOf 3 26 PE.cuts = some live) (nb : Nat) (vals : List (A PU)) (objs : List (AObj PU)) (K : A PU → List (AObj PU) → Prop) (h : D3_26 (k + 1) nb vals objs K) : fnOk PE.P 3 = true ∧ Hold (vcut PE (PT k) (PC k) 3 26 live nb vals objs K) := by
  obtain rfl : live = [0, 1, 7, 9, 10, 11] := Option.some.inj (hl.symm.trans (by kernel_rfl : cutOf 3 26 PE.cuts = some [0, 1, 7, 9, 10, 11]))
  refine ⟨fnok3, ?_⟩; unfold D3_26 at h; split at h
  · exact Hold.mp (by kernel_rfl) h.out
  · exact Hold.mp (by kernel_rfl) h.out
  · exact h.elim
theorem D3_30_z (nb : Nat) (vals : List (A PU)) (objs : List (AObj PU)) (K : A PU → List (AObj PU) → Prop) : ¬ D3_30 0 nb vals objs K := by
  intro h; unfold D3_30 at h; split at h <;> (first | exact h | exact h.out)
theorem D3_30_ok (k : Nat) (live : List Nat) (hl : cutOf 3 30 PE.cuts = some live) (nb : Nat) (vals : List (A PU)) (objs : List (AObj PU)) (K : A PU → List (AObj PU) → Prop) (h : D3_30 (k + 1) nb vals objs K) : fnOk PE.P 3 = true ∧ Hold (vcut PE (PT k) (PC k) 3 30 live nb vals objs K) := by
  obtain rfl : live = [0, 1, 7, 9, 10, 11, 85] := Option.some.inj (hl.symm.trans (by kernel_rfl : cutOf 3 30 PE.cuts = some [0, 1, 7, 9, 10, 11, 85]))
  refine ⟨fnok3, ?_⟩; unfold D3_30 at h; split at h
  · exact Hold.mp (by kernel_rfl) h.out
  · exact Hold.mp (by kernel_rfl) h.out
  · exact h.elim
theorem D3_31_z (nb : Nat) (vals : List (A PU)) (objs : List (AObj PU)) (K : A PU → List (AObj PU) → Prop) : ¬ D3_31 0 nb vals objs K := by
  intro h; unfold D3_31 at h; split at h <;> (first | exact h | exact h.out)
theorem D3_31_ok (k : Nat) (live : List Nat) (hl : cutOf 3 31 PE.cuts = some live) (nb : Nat) (vals : List (A PU)) (objs : List (AObj PU)) (K : A PU → List (AObj PU) → Prop) (h : D3_31 (k + 1) nb vals objs K) : fnOk PE.P 3 = true ∧ Hold (vcut PE (PT k) (PC k) 3 31 live nb vals objs K) := by
  obtain rfl : live = [0, 1, 7, 9, 10, 11] := Option.some.inj (hl.symm.trans (by kernel_rfl : cutOf 3 31 PE.cuts = some [0, 1, 7, 9, 10, 11]))
  refine ⟨fnok3, ?_⟩; unfold D3_31 at h; split at h
  · exact Hold.mp (by kernel_rfl) h.out
  · exact Hold.mp (by kernel_rfl) h.out
  · exact h.elim
theorem PSound (k : Nat) : TSound PE (PT k) ∧ CSound PE (PC k) :=
  tablesL PEok (by kernel_rfl) PTr PCr
    (List.forall_mem_cons.2 ⟨T20_z, List.forall_mem_cons.2 ⟨T4_z, List.forall_mem_cons.2 ⟨T21_z, List.forall_mem_cons.2 ⟨T22_z, List.forall_mem_cons.2 ⟨T40_z, List.forall_mem_cons.2 ⟨T77_z, List.forall_mem_cons.2 ⟨T60_z, List.forall_mem_cons.2 ⟨T43_z, List.forall_mem_cons.2 ⟨T42_z, List.forall_mem_cons.2 ⟨T41_z, List.forall_mem_cons.2 ⟨T25_z, List.forall_mem_cons.2 ⟨T29_z, List.forall_mem_cons.2 ⟨T61_z, List.forall_mem_cons.2 ⟨T44_z, List.forall_mem_cons.2 ⟨T30_z, List.forall_mem_cons.2 ⟨T13_z, List.forall_mem_cons.2 ⟨T26_z, List.forall_mem_cons.2 ⟨T9_z, List.forall_mem_cons.2 ⟨T28_z, List.forall_mem_cons.2 ⟨T12_z, List.forall_mem_cons.2 ⟨T16_z, List.forall_mem_cons.2 ⟨T54_z, List.forall_mem_cons.2 ⟨T85_z, List.forall_mem_cons.2 ⟨T66_z, List.forall_mem_cons.2 ⟨T55_z, List.forall_mem_cons.2 ⟨T57_z, List.forall_mem_cons.2 ⟨T56_z, List.forall_mem_cons.2 ⟨T39_z, List.forall_mem_cons.2 ⟨T50_z, List.forall_mem_cons.2 ⟨T23_z, List.forall_mem_cons.2 ⟨T49_z, List.forall_mem_cons.2 ⟨T47_z, List.forall_mem_cons.2 ⟨T34_z, List.forall_mem_cons.2 ⟨T18_z, List.forall_mem_cons.2 ⟨T5_z, List.forall_mem_cons.2 ⟨T6_z, List.forall_mem_cons.2 ⟨T7_z, List.forall_mem_cons.2 ⟨T24_z, List.forall_mem_cons.2 ⟨T11_z, List.forall_mem_cons.2 ⟨T8_z, List.forall_mem_cons.2 ⟨T27_z, List.forall_mem_cons.2 ⟨T10_z, List.forall_mem_cons.2 ⟨T32_z, List.forall_mem_cons.2 ⟨T31_z, List.forall_mem_cons.2 ⟨T15_z, List.forall_mem_cons.2 ⟨T62_z, List.forall_mem_cons.2 ⟨T46_z, List.forall_mem_cons.2 ⟨T45_z, List.forall_mem_cons.2 ⟨T33_z, List.forall_mem_cons.2 ⟨T17_z, List.forall_mem_cons.2 ⟨T82_z, List.forall_mem_cons.2 ⟨T83_z, List.forall_mem_cons.2 ⟨T95_z, List.forall_mem_cons.2 ⟨T84_z, List.forall_mem_cons.2 ⟨T65_z, List.forall_mem_cons.2 ⟨T51_z, List.forall_mem_cons.2 ⟨T35_z, List.forall_mem_cons.2 ⟨T52_z, List.forall_mem_cons.2 ⟨T36_z, List.forall_mem_cons.2 ⟨T37_z, List.forall_mem_cons.2 ⟨T53_z, List.forall_mem_cons.2 ⟨T38_z, List.forall_mem_cons.2 ⟨T19_z, List.forall_mem_cons.2 ⟨T14_z, List.forall_mem_cons.2 ⟨T3_z, (fun _ h => nomatch h)⟩⟩⟩⟩⟩⟩⟩⟩⟩⟩⟩⟩⟩⟩⟩⟩⟩⟩⟩⟩⟩⟩⟩⟩⟩⟩⟩⟩⟩⟩⟩⟩⟩⟩⟩⟩⟩⟩⟩⟩⟩⟩⟩⟩⟩⟩⟩⟩⟩⟩⟩⟩⟩⟩⟩⟩⟩⟩⟩⟩⟩⟩⟩⟩⟩)
    (List.forall_mem_cons.2 ⟨D43_2_z, List.forall_mem_cons.2 ⟨D25_4_z, List.forall_mem_cons.2 ⟨D13_5_z, List.forall_mem_cons.2 ⟨D13_11_z, List.forall_mem_cons.2 ⟨D26_3_z, List.forall_mem_cons.2 ⟨D26_8_z, List.forall_mem_cons.2 ⟨D26_9_z, List.forall_mem_cons.2 ⟨D9_9_z, List.forall_mem_cons.2 ⟨D9_14_z, List.forall_mem_cons.2 ⟨D28_3_z, List.forall_mem_cons.2 ⟨D28_9_z, List.forall_mem_cons.2 ⟨D28_11_z, List.forall_mem_cons.2 ⟨D66_2_z, List.forall_mem_cons.2 ⟨D66_11_z, List.forall_mem_cons.2 ⟨D66_14_z, List.forall_mem_cons.2 ⟨D66_23_z, List.forall_mem_cons.2 ⟨D55_3_z, List.forall_mem_cons.2 ⟨D57_9_z, List.forall_mem_cons.2 ⟨D57_15_z, List.forall_mem_cons.2 ⟨D56_4_z, List.forall_mem_cons.2 ⟨D39_4_z, List.forall_mem_cons.2 ⟨D5_2_z, List.forall_mem_cons.2 ⟨D24_2_z, List.forall_mem_cons.2 ⟨D24_5_z, List.forall_mem_cons.2 ⟨D11_3_z, List.forall_mem_cons.2 ⟨D11_4_z, List.forall_mem_cons.2 ⟨D8_7_z, List.forall_mem_cons.2 ⟨D8_9_z, List.forall_mem_cons.2 ⟨D8_10_z, List.forall_mem_cons.2 ⟨D27_4_z, List.forall_mem_cons.2 ⟨D62_3_z, List.forall_mem_cons.2 ⟨D45_2_z, List.forall_mem_cons.2 ⟨D17_3_z, List.forall_mem_cons.2 ⟨D17_6_z, List.forall_mem_cons.2 ⟨D17_9_z, List.forall_mem_cons.2 ⟨D82_4_z, List.forall_mem_cons.2 ⟨D82_8_z, List.forall_mem_cons.2 ⟨D84_3_z, List.forall_mem_cons.2 ⟨D84_7_z, List.forall_mem_cons.2 ⟨D84_14_z, List.forall_mem_cons.2 ⟨D84_22_z, List.forall_mem_cons.2 ⟨D65_4_z, List.forall_mem_cons.2 ⟨D65_9_z, List.forall_mem_cons.2 ⟨D51_6_z, List.forall_mem_cons.2 ⟨D37_3_z, List.forall_mem_cons.2 ⟨D37_4_z, List.forall_mem_cons.2 ⟨D14_2_z, List.forall_mem_cons.2 ⟨D3_5_z, List.forall_mem_cons.2 ⟨D3_15_z, List.forall_mem_cons.2 ⟨D3_17_z, List.forall_mem_cons.2 ⟨D3_18_z, List.forall_mem_cons.2 ⟨D3_19_z, List.forall_mem_cons.2 ⟨D3_20_z, List.forall_mem_cons.2 ⟨D3_21_z, List.forall_mem_cons.2 ⟨D3_22_z, List.forall_mem_cons.2 ⟨D3_35_z, List.forall_mem_cons.2 ⟨D3_36_z, List.forall_mem_cons.2 ⟨D3_39_z, List.forall_mem_cons.2 ⟨D3_41_z, List.forall_mem_cons.2 ⟨D3_40_z, List.forall_mem_cons.2 ⟨D3_25_z, List.forall_mem_cons.2 ⟨D3_26_z, List.forall_mem_cons.2 ⟨D3_30_z, List.forall_mem_cons.2 ⟨D3_31_z, (fun _ h => nomatch h)⟩⟩⟩⟩⟩⟩⟩⟩⟩⟩⟩⟩⟩⟩⟩⟩⟩⟩⟩⟩⟩⟩⟩⟩⟩⟩⟩⟩⟩⟩⟩⟩⟩⟩⟩⟩⟩⟩⟩⟩⟩⟩⟩⟩⟩⟩⟩⟩⟩⟩⟩⟩⟩⟩⟩⟩⟩⟩⟩⟩⟩⟩⟩⟩)
    (fun k => List.forall_mem_cons.2 ⟨T20_ok k, List.forall_mem_cons.2 ⟨T4_ok k, List.forall_mem_cons.2 ⟨T21_ok k, List.forall_mem_cons.2 ⟨T22_ok k, List.forall_mem_cons.2 ⟨T40_ok k, List.forall_mem_cons.2 ⟨T77_ok k, List.forall_mem_cons.2 ⟨T60_ok k, List.forall_mem_cons.2 ⟨T43_ok k, List.forall_mem_cons.2 ⟨T42_ok k, List.forall_mem_cons.2 ⟨T41_ok k, List.forall_mem_cons.2 ⟨T25_ok k, List.forall_mem_cons.2 ⟨T29_ok k, List.forall_mem_cons.2 ⟨T61_ok k, List.forall_mem_cons.2 ⟨T44_ok k, List.forall_mem_cons.2 ⟨T30_ok k, List.forall_mem_cons.2 ⟨T13_ok k, List.forall_mem_cons.2 ⟨T26_ok k, List.forall_mem_cons.2 ⟨T9_ok k, List.forall_mem_cons.2 ⟨T28_ok k, List.forall_mem_cons.2 ⟨T12_ok k, List.forall_mem_cons.2 ⟨T16_ok k, List.forall_mem_cons.2 ⟨T54_ok k, List.forall_mem_cons.2 ⟨T85_ok k, List.forall_mem_cons.2 ⟨T66_ok k, List.forall_mem_cons.2 ⟨T55_ok k, List.forall_mem_cons.2 ⟨T57_ok k, List.forall_mem_cons.2 ⟨T56_ok k, List.forall_mem_cons.2 ⟨T39_ok k, List.forall_mem_cons.2 ⟨T50_ok k, List.forall_mem_cons.2 ⟨T23_ok k, List.forall_mem_cons.2 ⟨T49_ok k, List.forall_mem_cons.2 ⟨T47_ok k, List.forall_mem_cons.2 ⟨T34_ok k, List.forall_mem_cons.2 ⟨T18_ok k, List.forall_mem_cons.2 ⟨T5_ok k, List.forall_mem_cons.2 ⟨T6_ok k, List.forall_mem_cons.2 ⟨T7_ok k, List.forall_mem_cons.2 ⟨T24_ok k, List.forall_mem_cons.2 ⟨T11_ok k, List.forall_mem_cons.2 ⟨T8_ok k, List.forall_mem_cons.2 ⟨T27_ok k, List.forall_mem_cons.2 ⟨T10_ok k, List.forall_mem_cons.2 ⟨T32_ok k, List.forall_mem_cons.2 ⟨T31_ok k, List.forall_mem_cons.2 ⟨T15_ok k, List.forall_mem_cons.2 ⟨T62_ok k, List.forall_mem_cons.2 ⟨T46_ok k, List.forall_mem_cons.2 ⟨T45_ok k, List.forall_mem_cons.2 ⟨T33_ok k, List.forall_mem_cons.2 ⟨T17_ok k, List.forall_mem_cons.2 ⟨T82_ok k, List.forall_mem_cons.2 ⟨T83_ok k, List.forall_mem_cons.2 ⟨T95_ok k, List.forall_mem_cons.2 ⟨T84_ok k, List.forall_mem_cons.2 ⟨T65_ok k, List.forall_mem_cons.2 ⟨T51_ok k, List.forall_mem_cons.2 ⟨T35_ok k, List.forall_mem_cons.2 ⟨T52_ok k, List.forall_mem_cons.2 ⟨T36_ok k, List.forall_mem_cons.2 ⟨T37_ok k, List.forall_mem_cons.2 ⟨T53_ok k, List.forall_mem_cons.2 ⟨T38_ok k, List.forall_mem_cons.2 ⟨T19_ok k, List.forall_mem_cons.2 ⟨T14_ok k, List.forall_mem_cons.2 ⟨T3_ok k, (fun _ h => nomatch h)⟩⟩⟩⟩⟩⟩⟩⟩⟩⟩⟩⟩⟩⟩⟩⟩⟩⟩⟩⟩⟩⟩⟩⟩⟩⟩⟩⟩⟩⟩⟩⟩⟩⟩⟩⟩⟩⟩⟩⟩⟩⟩⟩⟩⟩⟩⟩⟩⟩⟩⟩⟩⟩⟩⟩⟩⟩⟩⟩⟩⟩⟩⟩⟩⟩)
    (fun k => List.forall_mem_cons.2 ⟨D43_2_ok k, List.forall_mem_cons.2 ⟨D25_4_ok k, List.forall_mem_cons.2 ⟨D13_5_ok k, List.forall_mem_cons.2 ⟨D13_11_ok k, List.forall_mem_cons.2 ⟨D26_3_ok k, List.forall_mem_cons.2 ⟨D26_8_ok k, List.forall_mem_cons.2 ⟨D26_9_ok k, List.forall_mem_cons.2 ⟨D9_9_ok k, List.forall_mem_cons.2 ⟨D9_14_ok k, List.forall_mem_cons.2 ⟨D28_3_ok k, List.forall_mem_cons.2 ⟨D28_9_ok k, List.forall_mem_cons.2 ⟨D28_11_ok k, List.forall_mem_cons.2 ⟨D66_2_ok k, List.forall_mem_cons.2 ⟨D66_11_ok k, List.forall_mem_cons.2 ⟨D66_14_ok k, List.forall_mem_cons.2 ⟨D66_23_ok k, List.forall_mem_cons.2 ⟨D55_3_ok k, List.forall_mem_cons.2 ⟨D57_9_ok k, List.forall_mem_cons.2 ⟨D57_15_ok k, List.forall_mem_cons.2 ⟨D56_4_ok k, List.forall_mem_cons.2 ⟨D39_4_ok k, List.forall_mem_cons.2 ⟨D5_2_ok k, List.forall_mem_cons.2 ⟨D24_2_ok k, List.forall_mem_cons.2 ⟨D24_5_ok k, List.forall_mem_cons.2 ⟨D11_3_ok k, List.forall_mem_cons.2 ⟨D11_4_ok k, List.forall_mem_cons.2 ⟨D8_7_ok k, List.forall_mem_cons.2 ⟨D8_9_ok k, List.forall_mem_cons.2 ⟨D8_10_ok k, List.forall_mem_cons.2 ⟨D27_4_ok k, List.forall_mem_cons.2 ⟨D62_3_ok k, List.forall_mem_cons.2 ⟨D45_2_ok k, List.forall_mem_cons.2 ⟨D17_3_ok k, List.forall_mem_cons.2 ⟨D17_6_ok k, List.forall_mem_cons.2 ⟨D17_9_ok k, List.forall_mem_cons.2 ⟨D82_4_ok k, List.forall_mem_cons.2 ⟨D82_8_ok k, List.forall_mem_cons.2 ⟨D84_3_ok k, List.forall_mem_cons.2 ⟨D84_7_ok k, List.forall_mem_cons.2 ⟨D84_14_ok k, List.forall_mem_cons.2 ⟨D84_22_ok k, List.forall_mem_cons.2 ⟨D65_4_ok k, List.forall_mem_cons.2 ⟨D65_9_ok k, List.forall_mem_cons.2 ⟨D51_6_ok k, List.forall_mem_cons.2 ⟨D37_3_ok k, List.forall_mem_cons.2 ⟨D37_4_ok k, List.forall_mem_cons.2 ⟨D14_2_ok k, List.forall_mem_cons.2 ⟨D3_5_ok k, List.forall_mem_cons.2 ⟨D3_15_ok k, List.forall_mem_cons.2 ⟨D3_17_ok k, List.forall_mem_cons.2 ⟨D3_18_ok k, List.forall_mem_cons.2 ⟨D3_19_ok k, List.forall_mem_cons.2 ⟨D3_20_ok k, List.forall_mem_cons.2 ⟨D3_21_ok k, List.forall_mem_cons.2 ⟨D3_22_ok k, List.forall_mem_cons.2 ⟨D3_35_ok k, List.forall_mem_cons.2 ⟨D3_36_ok k, List.forall_mem_cons.2 ⟨D3_39_ok k, List.forall_mem_cons.2 ⟨D3_41_ok k, List.forall_mem_cons.2 ⟨D3_40_ok k, List.forall_mem_cons.2 ⟨D3_25_ok k, List.forall_mem_cons.2 ⟨D3_26_ok k, List.forall_mem_cons.2 ⟨D3_30_ok k, List.forall_mem_cons.2 ⟨D3_31_ok k, (fun _ h => nomatch h)⟩⟩⟩⟩⟩⟩⟩⟩⟩⟩⟩⟩⟩⟩⟩⟩⟩⟩⟩⟩⟩⟩⟩⟩⟩⟩⟩⟩⟩⟩⟩⟩⟩⟩⟩⟩⟩⟩⟩⟩⟩⟩⟩⟩⟩⟩⟩⟩⟩⟩⟩⟩⟩⟩⟩⟩⟩⟩⟩⟩⟩⟩⟩⟩) k
end Go.V
