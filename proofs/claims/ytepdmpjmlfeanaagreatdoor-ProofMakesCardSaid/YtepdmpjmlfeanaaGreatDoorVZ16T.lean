import Derived.Test.YtepdmpjmlfeanaaGreatDoorVZ16S
import Derived.Test.YtepdmpjmlfeanaaGreatDoorVZ16J
set_option maxHeartbeats 4000000
set_option linter.unusedVariables false
namespace Go.V
open Go
def T35 (k : Nat) : Fn PU := fun args boxes K => match args, boxes with
  | [.int .i64 r1], [] => Hold (F_smt_width k r1 (fun z0 => K (.bool z0) []))
  | _, _ => False
def T22 (k : Nat) : Fn PU := fun args boxes K => match args, boxes with
  | [.int .i64 r1], [] => Hold (F_smt_New k r1 (fun z0 => K (.tup [.nilp, .int .i64 z0]) []) (fun z0 z1 z2 z3 => K (.tup [.ptr 0 [], .int .i64 z0]) [.box (.agg [.int .i64 z1, .int .i64 z2, .tr 42 z3 []])]))
  | _, _ => False
def T23 (k : Nat) : Fn PU := fun args boxes K => match args, boxes with
  | [.nilp, .ro false 42 r1], [] => Hold (F_smt_Tree_Set k r1 (fun z0 => K (.int .i64 z0) []))
  | [.ptr 0 [], .ro false 42 r1], [.box (.agg [.int .i64 r2, .int .i64 r3, .tr 42 r4 []])] => Hold (F_smt_Tree_Set_s1 k r1 r2 r3 r4 (fun z0 z1 z2 z3 => K (.int .i64 z0) [.box (.agg [.int .i64 z1, .int .i64 z2, .tr 42 z3 []])]))
  | [.nilp, .ro true 42 r1], [] => Hold (F_smt_Tree_Set k r1 (fun z0 => K (.int .i64 z0) []))
  | [.ptr 0 [], .ro true 42 r1], [.box (.agg [.int .i64 r2, .int .i64 r3, .tr 42 r4 []])] => Hold (F_smt_Tree_Set_s1 k r1 r2 r3 r4 (fun z0 z1 z2 z3 => K (.int .i64 z0) [.box (.agg [.int .i64 z1, .int .i64 z2, .tr 42 z3 []])]))
  | _, _ => False
def T24 (k : Nat) : Fn PU := fun args boxes K => match args, boxes with
  | [.nilp], [] => Hold (F_smt_Tree_Root k (fun z0 => K (.arr 5 32 z0) []))
  | [.ptr 0 []], [.box (.agg [.int .i64 r1, .int .i64 r2, .tr 42 r3 []])] => Hold (F_smt_Tree_Root_s1 k r1 r2 r3 (fun z0 z1 z2 z3 => K (.arr 5 32 z0) [.box (.agg [.int .i64 z1, .int .i64 z2, .tr 42 z3 []])]))
  | _, _ => False
def T11 (k : Nat) : Fn PU := fun args boxes K => match args, boxes with
  | [.ro false 42 r1], [] => Hold (F_slices_Clone_api_Leaf_api_Leaf k r1 (fun z0 => K (.usl 42 z0) []))
  | [.ro true 42 r1], [] => Hold (F_slices_Clone_api_Leaf_api_Leaf k r1 (fun z0 => K (.usl 42 z0) []))
  | _, _ => False
def T76 (k : Nat) : Fn PU := fun args boxes K => match args, boxes with
  | [.int .u8 r1], [] => Hold (F_cmp_isNaN_byte k r1 (fun z0 => K (.bool z0) []))
  | _, _ => False
def T59 (k : Nat) : Fn PU := fun args boxes K => match args, boxes with
  | [.int .u8 r1, .int .u8 r2], [] => Hold (F_cmp_Compare_byte k r1 r2 (fun z0 => K (.int .i64 z0) []))
  | _, _ => False
def T50 (k : Nat) : Fn PU := fun args boxes K => match args, boxes with
  | [.ro true 5 r1, .ro true 5 r2], [] => Hold (F_slices_Compare_byte_byte k r1 r2 (fun z0 => K (.int .i64 z0) []))
  | _, _ => False
def T49 (k : Nat) : Fn PU := fun args boxes K => match args, boxes with
  | [.agg [.arr 5 32 r1, .arr 5 32 r2], .agg [.arr 5 32 r3, .arr 5 32 r4]], [] => Hold (F_smt_twice_1 k r1 r2 r3 r4 (fun z0 => K (.int .i64 z0) []))
  | _, _ => False
def T48 (k : Nat) : Fn PU := fun args boxes K => match args, boxes with
  | [.own 0, .clo 49 []], [.lst 42 r1] => Hold (F_slices_SortFunc_api_Leaf_api_Leaf k r1 (fun z0 => K (.tup []) [.lst 42 z0]))
  | _, _ => False
def T36 (k : Nat) : Fn PU := fun args boxes K => match args, boxes with
  | [.ro false 42 r1], [] => Hold (F_smt_twice k r1 (fun z0 => K (.bool z0) []))
  | [.ro true 42 r1], [] => Hold (F_smt_twice k r1 (fun z0 => K (.bool z0) []))
  | _, _ => False
def T51 (k : Nat) : Fn PU := fun args boxes K => match args, boxes with
  | [.tr 42 r1 []], [] => Hold (F_smt_knot_inner k r1 (fun z0 => K (.bool z0) []))
  | [.ptr 0 []], [.box (.agg [.agg [.agg [.int .u32 r1, .int .i32 r2, .int .u32 r3], .arr 5 32 r4], .agg [.arr 5 32 r5, .arr 5 32 r6], .tr 42 r7 [], .tr 42 r8 []])] => Hold (F_smt_knot_inner_s1 k r1 r2 r3 r4 r5 r6 r7 r8 (fun z0 z1 z2 z3 z4 z5 z6 z7 z8 => K (.bool z0) [.box (.agg [.agg [.agg [.int .u32 z1, .int .i32 z2, .int .u32 z3], .arr 5 32 z4], .agg [.arr 5 32 z5, .arr 5 32 z6], .tr 42 z7 [], .tr 42 z8 []])]))
  | _, _ => False
def T40 (k : Nat) : Fn PU := fun args boxes K => match args, boxes with
  | [.int .i64 r1], [] => Hold (F_path_mask k r1 (fun z0 => K (.int .u8 z0) []))
  | _, _ => False
def T25 (k : Nat) : Fn PU := fun args boxes K => match args, boxes with
  | [.arr 5 32 r1, .int .i64 r2], [] => Hold (F_path_Bit k r1 r2 (fun z0 z1 => K (.tup [.int .i64 z0, .int .i64 z1]) []))
  | _, _ => False
def T52 (k : Nat) : Fn PU := fun args boxes K => match args, boxes with
  | [.arr 5 32 r1, .int .i64 r2], [] => Hold (F_smt_right k r1 r2 (fun z0 => K (.bool z0) []))
  | _, _ => False
def T37 (k : Nat) : Fn PU := fun args boxes K => match args, boxes with
  | [.ptr 0 [], .arr 5 32 r1], [.box (.agg [.int .i64 r2, .int .i64 r3, .tr 42 r4 []])] => Hold (F_smt_Tree_Get k r1 r2 r3 r4 (fun z0 z1 z2 z3 z4 => K (.tup [.arr 5 32 z0, .bool z1]) [.box (.agg [.int .i64 z2, .int .i64 z3, .tr 42 z4 []])]))
  | _, _ => False
def T38 (k : Nat) : Fn PU := fun args boxes K => match args, boxes with
  | [.tr 42 r1 [], .agg [.arr 5 32 r2, .arr 5 32 r3], .int .i64 r4], [] => Hold (F_smt_knot_with k r1 r2 r3 r4 (fun z0 => K (.tr 42 z0 []) []))
  | _, _ => False
def T41 (k : Nat) : Fn PU := fun args boxes K => match args, boxes with
  | [], [] => Hold (F_sha_New k (fun z0 z1 z2 => K (.ptr 0 []) [.box (.agg [.arr 84 8 z0, .arr 5 64 z1, .int .i64 z2])]))
  | _, _ => False
def T62 (k : Nat) : Fn PU := fun args boxes K => match args, boxes with
  | [.int .u32 r1, .int .i64 r2], [] => Hold (F_math_bits_RotateLeft32 k r1 r2 (fun z0 => K (.int .u32 z0) []))
  | _, _ => False
def T55 (k : Nat) : Fn PU := fun args boxes K => match args, boxes with
  | [.ptr 0 []], [.box (.agg [.arr 84 8 r1, .arr 5 64 r2, .int .i64 r3])] => Hold (F_sha_Hash_mix k r1 r2 r3 (fun z0 z1 z2 => K (.tup []) [.box (.agg [.arr 84 8 z0, .arr 5 64 z1, .int .i64 z2])]))
  | _, _ => False
def T42 (k : Nat) : Fn PU := fun args boxes K => match args, boxes with
  | [.ptr 0 [], .ro false 5 r1], [.box (.agg [.arr 84 8 r2, .arr 5 64 r3, .int .i64 r4])] => Hold (F_sha_Hash_Write k r1 r2 r3 r4 (fun z0 z1 z2 z3 => K (.int .i64 z0) [.box (.agg [.arr 84 8 z1, .arr 5 64 z2, .int .i64 z3])]))
  | _, _ => False
def T44 (k : Nat) : Fn PU := fun args boxes K => match args, boxes with
  | [.ptr 0 []], [.box (.agg [.arr 84 8 r1, .arr 5 64 r2, .int .i64 r3])] => Hold (F_sha_Hash_Sum k r1 r2 r3 (fun z0 z1 z2 z3 => K (.arr 5 32 z0) [.box (.agg [.arr 84 8 z1, .arr 5 64 z2, .int .i64 z3])]))
  | _, _ => False
def T43 (k : Nat) : Fn PU := fun args boxes K => match args, boxes with
  | [.int .i64 r1, .arr 5 32 r2], [] => Hold (F_smt_short k r1 r2 (fun z0 => K (.arr 5 32 z0) []))
  | _, _ => False
def T30 (k : Nat) : Fn PU := fun args boxes K => match args, boxes with
  | [.int .i64 r1, .int .u8 r2, .ro true 24 r3], [] => Hold (F_smt_summed k r1 r2 r3 (fun z0 => K (.arr 5 32 z0) []))
  | [.int .i64 r1, .int .u8 r2, .ro false 24 r3], [] => Hold (F_smt_summed k r1 r2 r3 (fun z0 => K (.arr 5 32 z0) []))
  | _, _ => False
def T29 (k : Nat) : Fn PU := fun args boxes K => match args, boxes with
  | [.int .i64 r1, .arr 5 32 r2, .arr 5 32 r3], [] => Hold (F_smt_Node k r1 r2 r3 (fun z0 => K (.arr 5 32 z0) []))
  | _, _ => False
def T16 (k : Nat) : Fn PU := fun args boxes K => match args, boxes with
  | [.int .i64 r1, .agg [.arr 5 32 r2, .arr 5 32 r3]], [] => Hold (F_smt_Leaf k r1 r2 r3 (fun z0 => K (.arr 5 32 z0) []))
  | _, _ => False
def T54 (k : Nat) : Fn PU := fun args boxes K => match args, boxes with
  | [.ptr 0 [], .ptr 1 []], [.box (.ptr 2 []), .box (.int .i64 r1), .box (.agg [.agg [.agg [.int .u32 r2, .int .i32 r3, .int .u32 r4], .arr 5 32 r5], .agg [.arr 5 32 r6, .arr 5 32 r7], .tr 42 r8 [], .tr 42 r9 []])] => Hold (F_smt_knot_digest_1 k r1 r2 r3 r4 r5 r6 r7 r8 r9 (fun z0 z1 z2 z3 z4 z5 z6 z7 z8 => K (.tup []) [.box (.ptr 2 []), .box (.int .i64 z0), .box (.agg [.agg [.agg [.int .u32 z1, .int .i32 z2, .int .u32 z3], .arr 5 32 z4], .agg [.arr 5 32 z5, .arr 5 32 z6], .tr 42 z7 [], .tr 42 z8 []])]))
  | _, _ => False
def T26 (k : Nat) : Fn PU := fun args boxes K => match args, boxes with
  | [.int .i64 r1], [] => Hold (F_smt_Empty k r1 (fun z0 => K (.arr 5 32 z0) []))
  | _, _ => False
def T39 (k : Nat) : Fn PU := fun args boxes K => match args, boxes with
  | [.tr 42 r1 [], .int .i64 r2], [] => Hold (F_smt_knot_digest k r1 r2 (fun z0 => K (.arr 5 32 z0) []))
  | _, _ => False
def T10 (k : Nat) : Fn PU := fun args boxes K => match args, boxes with
  | [.int .i64 r1, .ro false 42 r2], [] => Hold (F_smt_Root k r1 r2 (fun z0 z1 => K (.tup [.arr 5 32 z0, .int .i64 z1]) []))
  | [.int .i64 r1, .ro true 42 r2], [] => Hold (F_smt_Root k r1 r2 (fun z0 z1 => K (.tup [.arr 5 32 z0, .int .i64 z1]) []))
  | _, _ => False
def T12 (k : Nat) : Fn PU := fun args boxes K => match args, boxes with
  | [.arr 5 32 r1, .int .i64 r2], [] => Hold (F_proof_right k r1 r2 (fun z0 => K (.bool z0) []))
  | _, _ => False
def T28 (k : Nat) : Fn PU := fun args boxes K => match args, boxes with
  | [.agg [.arr 5 32 r1, .arr 5 32 r2], .ptr 0 []], [.box (.int .i64 r3)] => Hold (F_proof_at_1 k r1 r2 r3 (fun z0 z1 => K (.bool z0) [.box (.int .i64 z1)]))
  | _, _ => False
def T27 (k : Nat) : Fn PU := fun args boxes K => match args, boxes with
  | [.ro true 42 r1, .clo 28 [.ptr 0 []]], [.box (.int .i64 r2)] => Hold (F_slices_IndexFunc_api_Leaf_api_Leaf k r1 r2 (fun z0 z1 => K (.int .i64 z0) [.box (.int .i64 z1)]))
  | _, _ => False
def T13 (k : Nat) : Fn PU := fun args boxes K => match args, boxes with
  | [.int .i64 r1, .ro true 42 r2, .int .i64 r3], [] => Hold (F_proof_at k r1 r2 r3 (fun z0 => K (.arr 5 32 z0) []))
  | _, _ => False
def T4 (k : Nat) : Fn PU := fun args boxes K => match args, boxes with
  | [.int .i64 r1, .ro false 42 r2, .arr 5 32 r3], [] => Hold (F_proof_Make k r1 r2 r3 (fun z0 z1 z2 z3 z4 z5 z6 => K (.tup [.agg [.bool z0, .arr 5 32 z1], .agg [.usl 24 z2, .bool z3, .arr 5 32 z4, .arr 5 32 z5], .int .i64 z6]) []))
  | [.int .i64 r1, .ro true 42 r2, .arr 5 32 r3], [] => Hold (F_proof_Make k r1 r2 r3 (fun z0 z1 z2 z3 z4 z5 z6 => K (.tup [.agg [.bool z0, .arr 5 32 z1], .agg [.usl 24 z2, .bool z3, .arr 5 32 z4, .arr 5 32 z5], .int .i64 z6]) []))
  | _, _ => False
def T5 (k : Nat) : Fn PU := fun args boxes K => match args, boxes with
  | [.int .i64 r1], [] => Hold (F_r05_Width k r1 (fun z0 => K (.bool z0) []))
  | _, _ => False
def T14 (k : Nat) : Fn PU := fun args boxes K => match args, boxes with
  | [], [] => Hold (F_l06_a k (fun z0 z1 => K (.agg [.arr 5 32 z0, .arr 5 32 z1]) []))
  | _, _ => False
def T15 (k : Nat) : Fn PU := fun args boxes K => match args, boxes with
  | [], [] => Hold (F_l06_b k (fun z0 z1 => K (.agg [.arr 5 32 z0, .arr 5 32 z1]) []))
  | _, _ => False
def T7 (k : Nat) : Fn PU := fun args boxes K => match args, boxes with
  | [], [] => Hold (F_l06_makes k (fun z0 => K (.bool z0) []))
  | _, _ => False
def T6 (k : Nat) : Fn PU := fun args boxes K => match args, boxes with
  | [.ro false 42 r1], [] => Hold (F_r05_Twice k r1 (fun z0 => K (.bool z0) []))
  | _, _ => False
def T63 (k : Nat) : Fn PU := fun args boxes K => match args, boxes with
  | [.ro true 5 r1], [] => Hold (F_r02_Padded k r1 (fun z0 => K (.usl 5 z0) []))
  | _, _ => False
def T64 (k : Nat) : Fn PU := fun args boxes K => match args, boxes with
  | [], [] => Hold (F_r02_begin k (fun z0 => K (.arr 84 8 z0) []))
  | _, _ => False
def T81 (k : Nat) : Fn PU := fun args boxes K => match args, boxes with
  | [.int .u32 r1, .int .i64 r2], [] => Hold (F_r02_turned k r1 r2 (fun z0 => K (.int .u32 z0) []))
  | _, _ => False
def T65 (k : Nat) : Fn PU := fun args boxes K => match args, boxes with
  | [.arr 84 8 r1, .ro true 5 r2], [] => Hold (F_r02_block k r1 r2 (fun z0 => K (.arr 84 8 z0) []))
  | _, _ => False
def T56 (k : Nat) : Fn PU := fun args boxes K => match args, boxes with
  | [.ro true 5 r1], [] => Hold (F_r02_Sum k r1 (fun z0 => K (.arr 5 32 z0) []))
  | _, _ => False
def T45 (k : Nat) : Fn PU := fun args boxes K => match args, boxes with
  | [.int .i64 r1, .ro true 5 r2], [] => Hold (F_r05_Short k r1 r2 (fun z0 z1 => K (.tup [.arr 5 32 z0, .int .i64 z1]) []))
  | _, _ => False
def T32 (k : Nat) : Fn PU := fun args boxes K => match args, boxes with
  | [.int .i64 r1], [] => Hold (F_r05_Empty k r1 (fun z0 => K (.arr 5 32 z0) []))
  | _, _ => False
def T46 (k : Nat) : Fn PU := fun args boxes K => match args, boxes with
  | [.agg [.arr 5 32 r1, .arr 5 32 r2]], [] => Hold (F_r05_LeafBytes k r1 r2 (fun z0 => K (.usl 5 z0) []))
  | _, _ => False
def T33 (k : Nat) : Fn PU := fun args boxes K => match args, boxes with
  | [.int .i64 r1, .agg [.arr 5 32 r2, .arr 5 32 r3]], [] => Hold (F_r05_Leaf k r1 r2 r3 (fun z0 => K (.arr 5 32 z0) []))
  | _, _ => False
def T31 (k : Nat) : Fn PU := fun args boxes K => match args, boxes with
  | [.int .i64 r1], [] => Hold (F_r04_weight k r1 (fun z0 => K (.int .i64 z0) []))
  | _, _ => False
def T19 (k : Nat) : Fn PU := fun args boxes K => match args, boxes with
  | [.arr 5 32 r1, .int .i64 r2], [] => Hold (F_r04_At k r1 r2 (fun z0 => K (.int .i64 z0) []))
  | _, _ => False
def T20 (k : Nat) : Fn PU := fun args boxes K => match args, boxes with
  | [.ro false 42 r1, .int .i64 r2, .int .i64 r3], [] => Hold (F_r05_Half k r1 r2 r3 (fun z0 => K (.usl 42 z0) []))
  | [.ro true 42 r1, .int .i64 r2, .int .i64 r3], [] => Hold (F_r05_Half k r1 r2 r3 (fun z0 => K (.usl 42 z0) []))
  | _, _ => False
def T47 (k : Nat) : Fn PU := fun args boxes K => match args, boxes with
  | [.arr 5 32 r1, .arr 5 32 r2], [] => Hold (F_r05_NodeBytes k r1 r2 (fun z0 => K (.usl 5 z0) []))
  | _, _ => False
def T34 (k : Nat) : Fn PU := fun args boxes K => match args, boxes with
  | [.int .i64 r1, .arr 5 32 r2, .arr 5 32 r3], [] => Hold (F_r05_Node k r1 r2 r3 (fun z0 => K (.arr 5 32 z0) []))
  | _, _ => False
def T21 (k : Nat) : Fn PU := fun args boxes K => match args, boxes with
  | [.int .i64 r1, .ro true 42 r2, .int .i64 r3], [] => Hold (F_r05_Digest_s1 k r1 r2 r3 (fun z0 => K (.arr 5 32 z0) []))
  | [.int .i64 r1, .ro false 42 r2, .int .i64 r3], [] => Hold (F_r05_Digest_s1 k r1 r2 r3 (fun z0 => K (.arr 5 32 z0) []))
  | _, _ => False
def T17 (k : Nat) : Fn PU := fun args boxes K => match args, boxes with
  | [.int .i64 r1, .ro false 42 r2], [] => Hold (F_r05_Root k r1 r2 (fun z0 z1 => K (.tup [.arr 5 32 z0, .int .i64 z1]) []))
  | _, _ => False
def T18 (k : Nat) : Fn PU := fun args boxes K => match args, boxes with
  | [.ro false 42 r1, .arr 5 32 r2], [] => Hold (F_r05_Get k r1 r2 (fun z0 z1 => K (.tup [.arr 5 32 z0, .bool z1]) []))
  | _, _ => False
def T8 (k : Nat) : Fn PU := fun args boxes K => match args, boxes with
  | [.int .i64 r1, .ro false 42 r2, .arr 5 32 r3], [] => Hold (F_r06_Make k r1 r2 r3 (fun z0 z1 z2 z3 z4 z5 z6 => K (.tup [.agg [.bool z0, .arr 5 32 z1], .agg [.usl 24 z2, .bool z3, .arr 5 32 z4, .arr 5 32 z5], .int .i64 z6]) []))
  | _, _ => False
def T9 (k : Nat) : Fn PU := fun args boxes K => match args, boxes with
  | [.agg [.ro true 24 r1, .bool r2, .arr 5 32 r3, .arr 5 32 r4], .agg [.ro true 24 r5, .bool r6, .arr 5 32 r7, .arr 5 32 r8]], [] => Hold (F_r06_Same k r1 r2 r3 r4 r5 r6 r7 r8 (fun z0 => K (.bool z0) []))
  | _, _ => False
def T3 (k : Nat) : Fn PU := fun args boxes K => match args, boxes with
  | [.int .i64 r1, .ro false 42 r2, .arr 5 32 r3], [] => Hold (F_l06_ProofMakes k r1 r2 r3 (fun z0 => K (.bool z0) []))
  | _, _ => False
def D50_2 (k : Nat) : Nat → List (A PU) → List (AObj PU) → (A PU → List (AObj PU) → Prop) → Prop := fun nb vals objs K => match nb, vals, objs with
  | 0, [.ro true 5 r3, .ro true 5 r4, .ro true 5 r5, .int .i64 r6, .int .i64 r7], [] => Hold (C_slices_Compare_byte_byte_2 k r3 r4 r5 r6 r7 (fun z0 => K (.int .i64 z0) []))
  | _, _, _ => False
def D36_4 (k : Nat) : Nat → List (A PU) → List (AObj PU) → (A PU → List (AObj PU) → Prop) → Prop := fun nb vals objs K => match nb, vals, objs with
  | 0, [.own 0, .int .i64 r4, .int .i64 r5], [.lst 42 r6] => Hold (C_smt_twice_4 k r4 r5 r6 (fun z0 => K (.bool z0) []))
  | _, _, _ => False
def D37_5 (k : Nat) : Nat → List (A PU) → List (AObj PU) → (A PU → List (AObj PU) → Prop) → Prop := fun nb vals objs K => match nb, vals, objs with
  | 1, [.ptr 1 [], .ptr 2 [], .tr 42 r5 [], .int .i64 r6], [.box (.agg [.int .i64 r7, .int .i64 r8, .tr 42 r9 []]), .box (.arr 5 32 r10), .box (.arr 5 32 r11)] => Hold (C_smt_Tree_Get_5 k r5 r6 r7 r8 r9 r10 r11 (fun z0 z1 z2 z3 z4 => K (.tup [.arr 5 32 z0, .bool z1]) [.box (.agg [.int .i64 z2, .int .i64 z3, .tr 42 z4 []])]))
  | _, _, _ => False
def D37_11 (k : Nat) : Nat → List (A PU) → List (AObj PU) → (A PU → List (AObj PU) → Prop) → Prop := fun nb vals objs K => match nb, vals, objs with
  | 1, [.ptr 1 []], [.box (.agg [.int .i64 r14, .int .i64 r15, .tr 42 r16 []]), .box (.arr 5 32 r17)] => Hold (C_smt_Tree_Get_11 k r14 r15 r16 r17 (fun z0 z1 z2 z3 z4 => K (.tup [.arr 5 32 z0, .bool z1]) [.box (.agg [.int .i64 z2, .int .i64 z3, .tr 42 z4 []])]))
  | _, _, _ => False
def D38_3 (k : Nat) : Nat → List (A PU) → List (AObj PU) → (A PU → List (AObj PU) → Prop) → Prop := fun nb vals objs K => match nb, vals, objs with
  | 0, [.tr 42 r8 [], .int .i64 r9, .ptr 0 []], [.box (.agg [.arr 5 32 r10, .arr 5 32 r11])] => Hold (C_smt_knot_with_3 k r8 r9 r10 r11 (fun z0 => K (.tr 42 z0 []) []))
  | _, _, _ => False
def D38_8 (k : Nat) : Nat → List (A PU) → List (AObj PU) → (A PU → List (AObj PU) → Prop) → Prop := fun nb vals objs K => match nb, vals, objs with
  | 0, [.ptr 0 [], .int .i64 r16, .ptr 1 []], [.box (.agg [.agg [.gh r17, .arr 5 32 r18], .agg [.arr 5 32 r19, .arr 5 32 r20], .tr 42 r21 [], .tr 42 r22 []]), .box (.agg [.arr 5 32 r23, .arr 5 32 r24])] => Hold (C_smt_knot_with_8 k r16 r17 r18 r19 r20 r21 r22 r23 r24 (fun z0 => K (.tr 42 z0 []) []))
  | 0, [.tr 42 r38 [], .int .i64 r39, .ptr 0 []], [.box (.agg [.arr 5 32 r40, .arr 5 32 r41])] => Hold (C_smt_knot_with_8_1 k r38 r39 r40 r41 (fun z0 => K (.tr 42 z0 []) []))
  | _, _, _ => False
def D38_9 (k : Nat) : Nat → List (A PU) → List (AObj PU) → (A PU → List (AObj PU) → Prop) → Prop := fun nb vals objs K => match nb, vals, objs with
  | 0, [.int .i64 r26, .ptr 0 [], .ptr 1 []], [.box (.agg [.arr 5 32 r27, .arr 5 32 r28]), .box (.agg [.agg [.gh r29, .arr 5 32 r30], .agg [.arr 5 32 r31, .arr 5 32 r32], .tr 42 r33 [], .tr 42 r34 []])] => Hold (C_smt_knot_with_9 k r26 r27 r28 r29 r30 r31 r32 r33 r34 (fun z0 => K (.tr 42 z0 []) []))
  | _, _, _ => False
def D23_9 (k : Nat) : Nat → List (A PU) → List (AObj PU) → (A PU → List (AObj PU) → Prop) → Prop := fun nb vals objs K => match nb, vals, objs with
  | 1, [.ptr 0 [], .tr 42 r6 [], .int .i64 r7, .ro false 42 r8, .int .i64 r9, .int .i64 r10], [.box (.agg [.int .i64 r11, .int .i64 r12, .tr 42 r13 []])] => Hold (C_smt_Tree_Set_9 k r6 r7 r8 r9 r10 r11 r12 r13 (fun z0 z1 z2 z3 => K (.int .i64 z0) [.box (.agg [.int .i64 z1, .int .i64 z2, .tr 42 z3 []])]))
  | 1, [.ptr 0 [], .tr 42 r6 [], .int .i64 r7, .ro true 42 r8, .int .i64 r9, .int .i64 r10], [.box (.agg [.int .i64 r11, .int .i64 r12, .tr 42 r13 []])] => Hold (C_smt_Tree_Set_9 k r6 r7 r8 r9 r10 r11 r12 r13 (fun z0 z1 z2 z3 => K (.int .i64 z0) [.box (.agg [.int .i64 z1, .int .i64 z2, .tr 42 z3 []])]))
  | _, _, _ => False
def D55_2 (k : Nat) : Nat → List (A PU) → List (AObj PU) → (A PU → List (AObj PU) → Prop) → Prop := fun nb vals objs K => match nb, vals, objs with
  | 1, [.ptr 0 [], .ptr 1 [], .int .i64 r4], [.box (.agg [.arr 84 8 r5, .arr 5 64 r6, .int .i64 r7]), .box (.arr 84 64 r8)] => Hold (C_sha_Hash_mix_2 k r4 r5 r6 r7 r8 (fun z0 z1 z2 => K (.tup []) [.box (.agg [.arr 84 8 z0, .arr 5 64 z1, .int .i64 z2])]))
  | _, _, _ => False
def D55_11 (k : Nat) : Nat → List (A PU) → List (AObj PU) → (A PU → List (AObj PU) → Prop) → Prop := fun nb vals objs K => match nb, vals, objs with
  | 1, [.ptr 0 [], .ptr 1 [], .int .i64 r9], [.box (.agg [.arr 84 8 r10, .arr 5 64 r11, .int .i64 r12]), .box (.arr 84 64 r13)] => Hold (C_sha_Hash_mix_11 k r9 r10 r11 r12 r13 (fun z0 z1 z2 => K (.tup []) [.box (.agg [.arr 84 8 z0, .arr 5 64 z1, .int .i64 z2])]))
  | _, _, _ => False
def D55_14 (k : Nat) : Nat → List (A PU) → List (AObj PU) → (A PU → List (AObj PU) → Prop) → Prop := fun nb vals objs K => match nb, vals, objs with
  | 1, [.ptr 0 [], .int .u32 r18, .int .u32 r19, .int .u32 r20, .int .u32 r21, .int .u32 r22, .int .u32 r23, .int .u32 r24, .int .u32 r25, .arr 84 64 r26, .int .i64 r27], [.box (.agg [.arr 84 8 r28, .arr 5 64 r29, .int .i64 r30])] => Hold (C_sha_Hash_mix_14 k r18 r19 r20 r21 r22 r23 r24 r25 r26 r27 r28 r29 r30 (fun z0 z1 z2 => K (.tup []) [.box (.agg [.arr 84 8 z0, .arr 5 64 z1, .int .i64 z2])]))
  | _, _, _ => False
def D55_23 (k : Nat) : Nat → List (A PU) → List (AObj PU) → (A PU → List (AObj PU) → Prop) → Prop := fun nb vals objs K => match nb, vals, objs with
  | 1, [.ptr 0 [], .arr 84 8 r37, .int .i64 r38], [.box (.agg [.arr 84 8 r39, .arr 5 64 r40, .int .i64 r41])] => Hold (C_sha_Hash_mix_23 k r37 r38 r39 r40 r41 (fun z0 z1 z2 => K (.tup []) [.box (.agg [.arr 84 8 z0, .arr 5 64 z1, .int .i64 z2])]))
  | _, _, _ => False
def D42_3 (k : Nat) : Nat → List (A PU) → List (AObj PU) → (A PU → List (AObj PU) → Prop) → Prop := fun nb vals objs K => match nb, vals, objs with
  | 1, [.ptr 0 [], .ro false 5 r5], [.box (.agg [.arr 84 8 r6, .arr 5 64 r7, .int .i64 r8])] => Hold (C_sha_Hash_Write_3 k r5 r6 r7 r8 (fun z0 z1 z2 z3 => K (.int .i64 z0) [.box (.agg [.arr 84 8 z1, .arr 5 64 z2, .int .i64 z3])]))
  | _, _, _ => False
def D44_9 (k : Nat) : Nat → List (A PU) → List (AObj PU) → (A PU → List (AObj PU) → Prop) → Prop := fun nb vals objs K => match nb, vals, objs with
  | 1, [.ptr 0 [], .ptr 1 [], .ptr 2 [], .ptr 3 [], .ptr 4 [], .int .i64 r8, .int .i64 r9], [.box (.agg [.arr 84 8 r10, .arr 5 64 r11, .int .i64 r12]), .box (.arr 5 32 r13), .box (.arr 5 32 r14), .box (.agg [.arr 84 8 r15, .arr 5 64 r16, .int .i64 r17]), .box (.arr 5 72 r18)] => Hold (C_sha_Hash_Sum_9 k r8 r9 r10 r11 r12 r13 r14 r15 r16 r17 r18 (fun z0 z1 z2 z3 => K (.arr 5 32 z0) [.box (.agg [.arr 84 8 z1, .arr 5 64 z2, .int .i64 z3])]))
  | _, _, _ => False
def D44_15 (k : Nat) : Nat → List (A PU) → List (AObj PU) → (A PU → List (AObj PU) → Prop) → Prop := fun nb vals objs K => match nb, vals, objs with
  | 1, [.ptr 1 [], .ptr 2 [], .ptr 3 [], .int .i64 r23], [.box (.agg [.arr 84 8 r24, .arr 5 64 r25, .int .i64 r26]), .box (.arr 5 32 r27), .box (.arr 5 32 r28), .box (.agg [.arr 84 8 r29, .arr 5 64 r30, .int .i64 r31])] => Hold (C_sha_Hash_Sum_15 k r23 r24 r25 r26 r27 r28 r29 r30 r31 (fun z0 z1 z2 z3 => K (.arr 5 32 z0) [.box (.agg [.arr 84 8 z1, .arr 5 64 z2, .int .i64 z3])]))
  | _, _, _ => False
def D43_4 (k : Nat) : Nat → List (A PU) → List (AObj PU) → (A PU → List (AObj PU) → Prop) → Prop := fun nb vals objs K => match nb, vals, objs with
  | 0, [.ptr 0 [], .ptr 1 []], [.box (.arr 5 32 r4), .box (.arr 5 32 r5)] => Hold (C_smt_short_4 k r4 r5 (fun z0 => K (.arr 5 32 z0) []))
  | _, _, _ => False
def D30_4 (k : Nat) : Nat → List (A PU) → List (AObj PU) → (A PU → List (AObj PU) → Prop) → Prop := fun nb vals objs K => match nb, vals, objs with
  | 0, [.int .i64 r11, .ptr 0 [], .ptr 1 [], .ro true 24 r12, .int .i64 r13, .int .i64 r14], [.box (.arr 5 32 r15), .box (.agg [.arr 84 8 r16, .arr 5 64 r17, .int .i64 r18])] => Hold (C_smt_summed_4 k r11 r12 r13 r14 r15 r16 r17 r18 (fun z0 => K (.arr 5 32 z0) []))
  | 0, [.int .i64 r11, .ptr 0 [], .ptr 1 [], .ro false 24 r12, .int .i64 r13, .int .i64 r14], [.box (.arr 5 32 r15), .box (.agg [.arr 84 8 r16, .arr 5 64 r17, .int .i64 r18])] => Hold (C_smt_summed_4 k r11 r12 r13 r14 r15 r16 r17 r18 (fun z0 => K (.arr 5 32 z0) []))
  | _, _, _ => False
def D10_2 (k : Nat) : Nat → List (A PU) → List (AObj PU) → (A PU → List (AObj PU) → Prop) → Prop := fun nb vals objs K => match nb, vals, objs with
  | 0, [.ro false 42 r4, .ptr 0 [], .nilp, .int .i64 r5], [.box (.arr 5 32 r6)] => Hold (C_smt_Root_2 k r4 r5 r6 (fun z0 z1 => K (.tup [.arr 5 32 z0, .int .i64 z1]) []))
  | 0, [.ro false 42 r21, .ptr 0 [], .ptr 1 [], .int .i64 r22], [.box (.arr 5 32 r23), .box (.agg [.int .i64 r24, .int .i64 r25, .tr 42 r26 []])] => Hold (C_smt_Root_2_1 k r21 r22 r23 r24 r25 r26 (fun z0 z1 => K (.tup [.arr 5 32 z0, .int .i64 z1]) []))
  | 0, [.ro true 42 r4, .ptr 0 [], .nilp, .int .i64 r5], [.box (.arr 5 32 r6)] => Hold (C_smt_Root_2 k r4 r5 r6 (fun z0 z1 => K (.tup [.arr 5 32 z0, .int .i64 z1]) []))
  | 0, [.ro true 42 r14, .ptr 0 [], .ptr 1 [], .int .i64 r15], [.box (.arr 5 32 r16), .box (.agg [.int .i64 r17, .int .i64 r18, .tr 42 r19 []])] => Hold (C_smt_Root_2_1 k r14 r15 r16 r17 r18 r19 (fun z0 z1 => K (.tup [.arr 5 32 z0, .int .i64 z1]) []))
  | _, _, _ => False
def D10_3 (k : Nat) : Nat → List (A PU) → List (AObj PU) → (A PU → List (AObj PU) → Prop) → Prop := fun nb vals objs K => match nb, vals, objs with
  | 0, [.ptr 0 [], .int .i64 r7], [.box (.arr 5 32 r8)] => Hold (C_smt_Root_3 k r7 r8 (fun z0 z1 => K (.tup [.arr 5 32 z0, .int .i64 z1]) []))
  | _, _, _ => False
def D10_4 (k : Nat) : Nat → List (A PU) → List (AObj PU) → (A PU → List (AObj PU) → Prop) → Prop := fun nb vals objs K => match nb, vals, objs with
  | 0, [.ro false 42 r9, .ptr 0 [], .nilp], [.box (.arr 5 32 r10)] => Hold (C_smt_Root_4 k r9 r10 (fun z0 z1 => K (.tup [.arr 5 32 z0, .int .i64 z1]) []))
  | 0, [.ro false 42 r27, .ptr 0 [], .ptr 1 []], [.box (.arr 5 32 r28), .box (.agg [.int .i64 r29, .int .i64 r30, .tr 42 r31 []])] => Hold (C_smt_Root_4_1 k r27 r28 r29 r30 r31 (fun z0 z1 => K (.tup [.arr 5 32 z0, .int .i64 z1]) []))
  | 0, [.ro true 42 r7, .ptr 0 [], .nilp], [.box (.arr 5 32 r8)] => Hold (C_smt_Root_4 k r7 r8 (fun z0 z1 => K (.tup [.arr 5 32 z0, .int .i64 z1]) []))
  | 0, [.ro true 42 r20, .ptr 0 [], .ptr 1 []], [.box (.arr 5 32 r21), .box (.agg [.int .i64 r22, .int .i64 r23, .tr 42 r24 []])] => Hold (C_smt_Root_4_1 k r20 r21 r22 r23 r24 (fun z0 z1 => K (.tup [.arr 5 32 z0, .int .i64 z1]) []))
  | _, _, _ => False
def D10_5 (k : Nat) : Nat → List (A PU) → List (AObj PU) → (A PU → List (AObj PU) → Prop) → Prop := fun nb vals objs K => match nb, vals, objs with
  | 0, [.ptr 0 [], .nilp, .int .i64 r12], [.box (.arr 5 32 r13)] => Hold (C_smt_Root_5 k r12 r13 (fun z0 z1 => K (.tup [.arr 5 32 z0, .int .i64 z1]) []))
  | 0, [.ptr 0 [], .ptr 1 [], .int .i64 r36], [.box (.arr 5 32 r37), .box (.agg [.int .i64 r38, .int .i64 r39, .tr 42 r40 []])] => Hold (C_smt_Root_5_1 k r36 r37 r38 r39 r40 (fun z0 z1 => K (.tup [.arr 5 32 z0, .int .i64 z1]) []))
  | _, _, _ => False
def D10_6 (k : Nat) : Nat → List (A PU) → List (AObj PU) → (A PU → List (AObj PU) → Prop) → Prop := fun nb vals objs K => match nb, vals, objs with
  | 0, [.ptr 0 [], .int .i64 r14], [.box (.arr 5 32 r15)] => Hold (C_smt_Root_6 k r14 r15 (fun z0 z1 => K (.tup [.arr 5 32 z0, .int .i64 z1]) []))
  | _, _, _ => False
def D27_2 (k : Nat) : Nat → List (A PU) → List (AObj PU) → (A PU → List (AObj PU) → Prop) → Prop := fun nb vals objs K => match nb, vals, objs with
  | 1, [.ro true 42 r3, .clo 28 [.ptr 0 []], .int .i64 r4, .int .i64 r5], [.box (.int .i64 r6)] => Hold (C_slices_IndexFunc_api_Leaf_api_Leaf_2 k r3 r4 r5 r6 (fun z0 z1 => K (.int .i64 z0) [.box (.int .i64 z1)]))
  | _, _, _ => False
def D13_11 (k : Nat) : Nat → List (A PU) → List (AObj PU) → (A PU → List (AObj PU) → Prop) → Prop := fun nb vals objs K => match nb, vals, objs with
  | 0, [.int .i64 r11, .ptr 0 [], .ptr 1 [], .own 2, .own 3, .ro true 42 r12, .int .i64 r13, .int .i64 r14], [.box (.int .i64 r15), .box (.arr 5 32 r16), .lst 42 r17, .lst 42 r18] => Hold (C_proof_at_11 k r11 r12 r13 r14 r15 r16 r17 r18 (fun z0 => K (.arr 5 32 z0) []))
  | _, _, _ => False
def D13_16 (k : Nat) : Nat → List (A PU) → List (AObj PU) → (A PU → List (AObj PU) → Prop) → Prop := fun nb vals objs K => match nb, vals, objs with
  | 0, [.int .i64 r20, .ptr 0 [], .ptr 1 [], .own 2, .own 3, .ro true 42 r21, .int .i64 r22, .int .i64 r23], [.box (.int .i64 r24), .box (.arr 5 32 r25), .lst 42 r26, .lst 42 r27] => Hold (C_proof_at_16 k r20 r21 r22 r23 r24 r25 r26 r27 (fun z0 => K (.arr 5 32 z0) []))
  | _, _, _ => False
def D4_6 (k : Nat) : Nat → List (A PU) → List (AObj PU) → (A PU → List (AObj PU) → Prop) → Prop := fun nb vals objs K => match nb, vals, objs with
  | 0, [.int .i64 r7, .ptr 0 [], .ptr 1 [], .ptr 2 [], .own 3, .int .i64 r8], [.box (.arr 5 32 r9), .box (.agg [.bool r10, .arr 5 32 r11]), .box (.agg [.own 4, .bool r12, .arr 5 32 r13, .arr 5 32 r14]), .lst 42 r15, .lst 24 r16] => Hold (C_proof_Make_6 k r7 r8 r9 r10 r11 r12 r13 r14 r15 r16 (fun z0 z1 z2 z3 z4 z5 z6 => K (.tup [.agg [.bool z0, .arr 5 32 z1], .agg [.usl 24 z2, .bool z3, .arr 5 32 z4, .arr 5 32 z5], .int .i64 z6]) []))
  | _, _, _ => False
def D4_10 (k : Nat) : Nat → List (A PU) → List (AObj PU) → (A PU → List (AObj PU) → Prop) → Prop := fun nb vals objs K => match nb, vals, objs with
  | 0, [.int .i64 r17, .ptr 0 [], .ptr 1 [], .ptr 2 [], .int .i64 r18, .own 3, .own 4, .own 5, .int .i64 r19, .int .i64 r20], [.box (.arr 5 32 r21), .box (.agg [.bool r22, .arr 5 32 r23]), .box (.agg [.own 6, .bool r24, .arr 5 32 r25, .arr 5 32 r26]), .lst 42 r27, .lst 42 r28, .lst 42 r29, .lst 24 r30] => Hold (C_proof_Make_10 k r17 r18 r19 r20 r21 r22 r23 r24 r25 r26 r27 r28 r29 r30 (fun z0 z1 z2 z3 z4 z5 z6 => K (.tup [.agg [.bool z0, .arr 5 32 z1], .agg [.usl 24 z2, .bool z3, .arr 5 32 z4, .arr 5 32 z5], .int .i64 z6]) []))
  | _, _, _ => False
def D4_15 (k : Nat) : Nat → List (A PU) → List (AObj PU) → (A PU → List (AObj PU) → Prop) → Prop := fun nb vals objs K => match nb, vals, objs with
  | 0, [.int .i64 r33, .ptr 0 [], .ptr 1 [], .ptr 2 [], .int .i64 r34, .own 3, .own 4, .own 5, .int .i64 r35, .int .i64 r36], [.box (.arr 5 32 r37), .box (.agg [.bool r38, .arr 5 32 r39]), .box (.agg [.own 6, .bool r40, .arr 5 32 r41, .arr 5 32 r42]), .lst 42 r43, .lst 42 r44, .lst 42 r45, .lst 24 r46] => Hold (C_proof_Make_15 k r33 r34 r35 r36 r37 r38 r39 r40 r41 r42 r43 r44 r45 r46 (fun z0 z1 z2 z3 z4 z5 z6 => K (.tup [.agg [.bool z0, .arr 5 32 z1], .agg [.usl 24 z2, .bool z3, .arr 5 32 z4, .arr 5 32 z5], .int .i64 z6]) []))
  | _, _, _ => False
def D4_22 (k : Nat) : Nat → List (A PU) → List (AObj PU) → (A PU → List (AObj PU) → Prop) → Prop := fun nb vals objs K => match nb, vals, objs with
  | 0, [.ptr 0 [], .ptr 1 []], [.box (.agg [.bool r48, .arr 5 32 r49]), .box (.agg [.own 2, .bool r50, .arr 5 32 r51, .arr 5 32 r52]), .lst 24 r53] => Hold (C_proof_Make_22 k r48 r49 r50 r51 r52 r53 (fun z0 z1 z2 z3 z4 z5 z6 => K (.tup [.agg [.bool z0, .arr 5 32 z1], .agg [.usl 24 z2, .bool z3, .arr 5 32 z4, .arr 5 32 z5], .int .i64 z6]) []))
  | _, _, _ => False
def D6_2 (k : Nat) : Nat → List (A PU) → List (AObj PU) → (A PU → List (AObj PU) → Prop) → Prop := fun nb vals objs K => match nb, vals, objs with
  | 0, [.ro false 42 r2, .int .i64 r3], [] => Hold (C_r05_Twice_2 k r2 r3 (fun z0 => K (.bool z0) []))
  | _, _, _ => False
def D6_5 (k : Nat) : Nat → List (A PU) → List (AObj PU) → (A PU → List (AObj PU) → Prop) → Prop := fun nb vals objs K => match nb, vals, objs with
  | 0, [.ro false 42 r4, .int .i64 r5, .int .i64 r6], [] => Hold (C_r05_Twice_5 k r4 r5 r6 (fun z0 => K (.bool z0) []))
  | _, _, _ => False
def D63_4 (k : Nat) : Nat → List (A PU) → List (AObj PU) → (A PU → List (AObj PU) → Prop) → Prop := fun nb vals objs K => match nb, vals, objs with
  | 0, [.ro true 5 r2, .own 0], [.lst 5 r3] => Hold (C_r02_Padded_4 k r2 r3 (fun z0 => K (.usl 5 z0) []))
  | _, _, _ => False
def D63_8 (k : Nat) : Nat → List (A PU) → List (AObj PU) → (A PU → List (AObj PU) → Prop) → Prop := fun nb vals objs K => match nb, vals, objs with
  | 0, [.own 0, .int .u64 r4, .int .i64 r5], [.lst 5 r6] => Hold (C_r02_Padded_8 k r4 r5 r6 (fun z0 => K (.usl 5 z0) []))
  | _, _, _ => False
def D65_3 (k : Nat) : Nat → List (A PU) → List (AObj PU) → (A PU → List (AObj PU) → Prop) → Prop := fun nb vals objs K => match nb, vals, objs with
  | 0, [.ro true 5 r3, .ptr 0 [], .ptr 1 [], .ptr 2 [], .int .i64 r4], [.box (.arr 84 8 r5), .box (.arr 84 8 r6), .box (.arr 84 64 r7)] => Hold (C_r02_block_3 k r3 r4 r5 r6 r7 (fun z0 => K (.arr 84 8 z0) []))
  | _, _, _ => False
def D65_7 (k : Nat) : Nat → List (A PU) → List (AObj PU) → (A PU → List (AObj PU) → Prop) → Prop := fun nb vals objs K => match nb, vals, objs with
  | 0, [.ptr 0 [], .ptr 1 [], .ptr 2 [], .int .i64 r8], [.box (.arr 84 8 r9), .box (.arr 84 8 r10), .box (.arr 84 64 r11)] => Hold (C_r02_block_7 k r8 r9 r10 r11 (fun z0 => K (.arr 84 8 z0) []))
  | _, _, _ => False
def D65_14 (k : Nat) : Nat → List (A PU) → List (AObj PU) → (A PU → List (AObj PU) → Prop) → Prop := fun nb vals objs K => match nb, vals, objs with
  | 0, [.ptr 0 [], .ptr 1 [], .ptr 2 [], .ptr 3 [], .int .i64 r16], [.box (.arr 84 8 r17), .box (.arr 84 8 r18), .box (.arr 84 64 r19), .box (.arr 84 8 r20)] => Hold (C_r02_block_14 k r16 r17 r18 r19 r20 (fun z0 => K (.arr 84 8 z0) []))
  | _, _, _ => False
def D65_22 (k : Nat) : Nat → List (A PU) → List (AObj PU) → (A PU → List (AObj PU) → Prop) → Prop := fun nb vals objs K => match nb, vals, objs with
  | 0, [.ptr 0 [], .ptr 1 [], .ptr 2 [], .int .i64 r27], [.box (.arr 84 8 r28), .box (.arr 84 8 r29), .box (.arr 84 8 r30)] => Hold (C_r02_block_22 k r27 r28 r29 r30 (fun z0 => K (.arr 84 8 z0) []))
  | _, _, _ => False
def D56_4 (k : Nat) : Nat → List (A PU) → List (AObj PU) → (A PU → List (AObj PU) → Prop) → Prop := fun nb vals objs K => match nb, vals, objs with
  | 0, [.ptr 0 [], .own 1, .ptr 2 [], .int .i64 r4], [.box (.arr 5 32 r5), .lst 5 r6, .box (.arr 84 8 r7)] => Hold (C_r02_Sum_4 k r4 r5 r6 r7 (fun z0 => K (.arr 5 32 z0) []))
  | _, _, _ => False
def D56_9 (k : Nat) : Nat → List (A PU) → List (AObj PU) → (A PU → List (AObj PU) → Prop) → Prop := fun nb vals objs K => match nb, vals, objs with
  | 0, [.ptr 0 [], .ptr 1 [], .ptr 2 [], .int .i64 r9], [.box (.arr 5 32 r10), .box (.arr 84 8 r11), .box (.arr 5 32 r12)] => Hold (C_r02_Sum_9 k r9 r10 r11 r12 (fun z0 => K (.arr 5 32 z0) []))
  | _, _, _ => False
def D45_6 (k : Nat) : Nat → List (A PU) → List (AObj PU) → (A PU → List (AObj PU) → Prop) → Prop := fun nb vals objs K => match nb, vals, objs with
  | 0, [.int .i64 r5, .ptr 0 [], .ptr 1 [], .ptr 2 [], .int .i64 r6], [.box (.arr 5 32 r7), .box (.arr 5 32 r8), .box (.arr 5 32 r9)] => Hold (C_r05_Short_6 k r5 r6 r7 r8 r9 (fun z0 z1 => K (.tup [.arr 5 32 z0, .int .i64 z1]) []))
  | _, _, _ => False
def D31_3 (k : Nat) : Nat → List (A PU) → List (AObj PU) → (A PU → List (AObj PU) → Prop) → Prop := fun nb vals objs K => match nb, vals, objs with
  | 0, [.int .i64 r2, .int .i64 r3, .int .i64 r4], [] => Hold (C_r04_weight_3 k r2 r3 r4 (fun z0 => K (.int .i64 z0) []))
  | _, _, _ => False
def D20_3 (k : Nat) : Nat → List (A PU) → List (AObj PU) → (A PU → List (AObj PU) → Prop) → Prop := fun nb vals objs K => match nb, vals, objs with
  | 0, [.ro false 42 r4, .int .i64 r5, .int .i64 r6, .own 0, .int .i64 r7], [.lst 42 r8] => Hold (C_r05_Half_3 k r4 r5 r6 r7 r8 (fun z0 => K (.usl 42 z0) []))
  | 0, [.ro true 42 r4, .int .i64 r5, .int .i64 r6, .own 0, .int .i64 r7], [.lst 42 r8] => Hold (C_r05_Half_3 k r4 r5 r6 r7 r8 (fun z0 => K (.usl 42 z0) []))
  | _, _, _ => False
def D20_4 (k : Nat) : Nat → List (A PU) → List (AObj PU) → (A PU → List (AObj PU) → Prop) → Prop := fun nb vals objs K => match nb, vals, objs with
  | 0, [.ro false 42 r10, .int .i64 r11, .int .i64 r12, .own 0, .int .i64 r13], [.lst 42 r14] => Hold (C_r05_Half_4 k r10 r11 r12 r13 r14 (fun z0 => K (.usl 42 z0) []))
  | 0, [.ro true 42 r10, .int .i64 r11, .int .i64 r12, .own 0, .int .i64 r13], [.lst 42 r14] => Hold (C_r05_Half_4 k r10 r11 r12 r13 r14 (fun z0 => K (.usl 42 z0) []))
  | _, _, _ => False
def D18_2 (k : Nat) : Nat → List (A PU) → List (AObj PU) → (A PU → List (AObj PU) → Prop) → Prop := fun nb vals objs K => match nb, vals, objs with
  | 0, [.ro false 42 r3, .ptr 0 [], .ptr 1 [], .int .i64 r4], [.box (.arr 5 32 r5), .box (.arr 5 32 r6)] => Hold (C_r05_Get_2 k r3 r4 r5 r6 (fun z0 z1 => K (.tup [.arr 5 32 z0, .bool z1]) []))
  | _, _, _ => False
def D8_9 (k : Nat) : Nat → List (A PU) → List (AObj PU) → (A PU → List (AObj PU) → Prop) → Prop := fun nb vals objs K => match nb, vals, objs with
  | 0, [.int .i64 r8, .ptr 0 [], .ptr 1 [], .ptr 2 [], .bool r9, .ptr 3 [], .ptr 4 [], .ro false 42 r10, .int .i64 r11], [.box (.arr 5 32 r12), .box (.agg [.bool r13, .arr 5 32 r14]), .box (.agg [.own 5, .bool r15, .arr 5 32 r16, .arr 5 32 r17]), .box (.agg [.bool r18, .arr 5 32 r19]), .box (.agg [.own 6, .bool r20, .arr 5 32 r21, .arr 5 32 r22]), .lst 24 r23, .lst 24 r24] => Hold (C_r06_Make_9 k r8 r9 r10 r11 r12 r13 r14 r15 r16 r17 r18 r19 r20 r21 r22 r23 r24 (fun z0 z1 z2 z3 z4 z5 z6 => K (.tup [.agg [.bool z0, .arr 5 32 z1], .agg [.usl 24 z2, .bool z3, .arr 5 32 z4, .arr 5 32 z5], .int .i64 z6]) []))
  | 0, [.int .i64 r83, .ptr 0 [], .ptr 1 [], .ptr 2 [], .bool r84, .ptr 3 [], .ptr 4 [], .own 5, .int .i64 r85], [.box (.arr 5 32 r86), .box (.agg [.bool r87, .arr 5 32 r88]), .box (.agg [.own 6, .bool r89, .arr 5 32 r90, .arr 5 32 r91]), .box (.agg [.bool r92, .arr 5 32 r93]), .box (.agg [.own 7, .bool r94, .arr 5 32 r95, .arr 5 32 r96]), .lst 42 r97, .lst 24 r98, .lst 24 r99] => Hold (C_r06_Make_9_1 k r83 r84 r85 r86 r87 r88 r89 r90 r91 r92 r93 r94 r95 r96 r97 r98 r99 (fun z0 z1 z2 z3 z4 z5 z6 => K (.tup [.agg [.bool z0, .arr 5 32 z1], .agg [.usl 24 z2, .bool z3, .arr 5 32 z4, .arr 5 32 z5], .int .i64 z6]) []))
  | _, _, _ => False
def D8_11 (k : Nat) : Nat → List (A PU) → List (AObj PU) → (A PU → List (AObj PU) → Prop) → Prop := fun nb vals objs K => match nb, vals, objs with
  | 0, [.int .i64 r25, .ptr 0 [], .ptr 1 [], .ptr 2 [], .bool r26, .ptr 3 [], .ptr 4 [], .ro false 42 r27, .int .i64 r28], [.box (.arr 5 32 r29), .box (.agg [.bool r30, .arr 5 32 r31]), .box (.agg [.own 5, .bool r32, .arr 5 32 r33, .arr 5 32 r34]), .box (.agg [.bool r35, .arr 5 32 r36]), .box (.agg [.own 6, .bool r37, .arr 5 32 r38, .arr 5 32 r39]), .lst 24 r40, .lst 24 r41] => Hold (C_r06_Make_11 k r25 r26 r27 r28 r29 r30 r31 r32 r33 r34 r35 r36 r37 r38 r39 r40 r41 (fun z0 z1 z2 z3 z4 z5 z6 => K (.tup [.agg [.bool z0, .arr 5 32 z1], .agg [.usl 24 z2, .bool z3, .arr 5 32 z4, .arr 5 32 z5], .int .i64 z6]) []))
  | 0, [.int .i64 r100, .ptr 0 [], .ptr 1 [], .ptr 2 [], .bool r101, .ptr 3 [], .ptr 4 [], .own 5, .int .i64 r102], [.box (.arr 5 32 r103), .box (.agg [.bool r104, .arr 5 32 r105]), .box (.agg [.own 6, .bool r106, .arr 5 32 r107, .arr 5 32 r108]), .box (.agg [.bool r109, .arr 5 32 r110]), .box (.agg [.own 7, .bool r111, .arr 5 32 r112, .arr 5 32 r113]), .lst 42 r114, .lst 24 r115, .lst 24 r116] => Hold (C_r06_Make_11_1 k r100 r101 r102 r103 r104 r105 r106 r107 r108 r109 r110 r111 r112 r113 r114 r115 r116 (fun z0 z1 z2 z3 z4 z5 z6 => K (.tup [.agg [.bool z0, .arr 5 32 z1], .agg [.usl 24 z2, .bool z3, .arr 5 32 z4, .arr 5 32 z5], .int .i64 z6]) []))
  | _, _, _ => False
def D8_12 (k : Nat) : Nat → List (A PU) → List (AObj PU) → (A PU → List (AObj PU) → Prop) → Prop := fun nb vals objs K => match nb, vals, objs with
  | 0, [.int .i64 r43, .ptr 0 [], .ptr 1 [], .ptr 2 [], .bool r44, .ptr 3 [], .ptr 4 [], .ro false 42 r45, .int .i64 r46, .int .i64 r47], [.box (.arr 5 32 r48), .box (.agg [.bool r49, .arr 5 32 r50]), .box (.agg [.own 5, .bool r51, .arr 5 32 r52, .arr 5 32 r53]), .box (.agg [.bool r54, .arr 5 32 r55]), .box (.agg [.own 6, .bool r56, .arr 5 32 r57, .arr 5 32 r58]), .lst 24 r59, .lst 24 r60] => Hold (C_r06_Make_12 k r43 r44 r45 r46 r47 r48 r49 r50 r51 r52 r53 r54 r55 r56 r57 r58 r59 r60 (fun z0 z1 z2 z3 z4 z5 z6 => K (.tup [.agg [.bool z0, .arr 5 32 z1], .agg [.usl 24 z2, .bool z3, .arr 5 32 z4, .arr 5 32 z5], .int .i64 z6]) []))
  | 0, [.int .i64 r118, .ptr 0 [], .ptr 1 [], .ptr 2 [], .bool r119, .ptr 3 [], .ptr 4 [], .own 5, .int .i64 r120, .int .i64 r121], [.box (.arr 5 32 r122), .box (.agg [.bool r123, .arr 5 32 r124]), .box (.agg [.own 6, .bool r125, .arr 5 32 r126, .arr 5 32 r127]), .box (.agg [.bool r128, .arr 5 32 r129]), .box (.agg [.own 7, .bool r130, .arr 5 32 r131, .arr 5 32 r132]), .lst 42 r133, .lst 24 r134, .lst 24 r135] => Hold (C_r06_Make_12_1 k r118 r119 r120 r121 r122 r123 r124 r125 r126 r127 r128 r129 r130 r131 r132 r133 r134 r135 (fun z0 z1 z2 z3 z4 z5 z6 => K (.tup [.agg [.bool z0, .arr 5 32 z1], .agg [.usl 24 z2, .bool z3, .arr 5 32 z4, .arr 5 32 z5], .int .i64 z6]) []))
  | _, _, _ => False
def D8_13 (k : Nat) : Nat → List (A PU) → List (AObj PU) → (A PU → List (AObj PU) → Prop) → Prop := fun nb vals objs K => match nb, vals, objs with
  | 0, [.int .i64 r62, .ptr 0 [], .ptr 1 [], .ptr 2 [], .bool r63, .ptr 3 [], .ptr 4 [], .ro false 42 r64, .int .i64 r65, .int .i64 r66, .own 5], [.box (.arr 5 32 r67), .box (.agg [.bool r68, .arr 5 32 r69]), .box (.agg [.own 6, .bool r70, .arr 5 32 r71, .arr 5 32 r72]), .box (.agg [.bool r73, .arr 5 32 r74]), .box (.agg [.own 7, .bool r75, .arr 5 32 r76, .arr 5 32 r77]), .lst 42 r78, .lst 24 r79, .lst 24 r80] => Hold (C_r06_Make_13 k r62 r63 r64 r65 r66 r67 r68 r69 r70 r71 r72 r73 r74 r75 r76 r77 r78 r79 r80 (fun z0 z1 z2 z3 z4 z5 z6 => K (.tup [.agg [.bool z0, .arr 5 32 z1], .agg [.usl 24 z2, .bool z3, .arr 5 32 z4, .arr 5 32 z5], .int .i64 z6]) []))
  | 0, [.int .i64 r137, .ptr 0 [], .ptr 1 [], .ptr 2 [], .bool r138, .ptr 3 [], .ptr 4 [], .own 5, .int .i64 r139, .int .i64 r140, .own 6], [.box (.arr 5 32 r141), .box (.agg [.bool r142, .arr 5 32 r143]), .box (.agg [.own 7, .bool r144, .arr 5 32 r145, .arr 5 32 r146]), .box (.agg [.bool r147, .arr 5 32 r148]), .box (.agg [.own 8, .bool r149, .arr 5 32 r150, .arr 5 32 r151]), .lst 42 r152, .lst 42 r153, .lst 24 r154, .lst 24 r155] => Hold (C_r06_Make_13_1 k r137 r138 r139 r140 r141 r142 r143 r144 r145 r146 r147 r148 r149 r150 r151 r152 r153 r154 r155 (fun z0 z1 z2 z3 z4 z5 z6 => K (.tup [.agg [.bool z0, .arr 5 32 z1], .agg [.usl 24 z2, .bool z3, .arr 5 32 z4, .arr 5 32 z5], .int .i64 z6]) []))
  | _, _, _ => False
def D8_15 (k : Nat) : Nat → List (A PU) → List (AObj PU) → (A PU → List (AObj PU) → Prop) → Prop := fun nb vals objs K => match nb, vals, objs with
  | 0, [.ptr 0 [], .ptr 1 [], .bool r158, .ptr 2 [], .ptr 3 [], .own 4], [.box (.agg [.bool r159, .arr 5 32 r160]), .box (.agg [.own 5, .bool r161, .arr 5 32 r162, .arr 5 32 r163]), .box (.agg [.bool r164, .arr 5 32 r165]), .box (.agg [.own 6, .bool r166, .arr 5 32 r167, .arr 5 32 r168]), .lst 42 r169, .lst 24 r170, .lst 24 r171] => Hold (C_r06_Make_15 k r158 r159 r160 r161 r162 r163 r164 r165 r166 r167 r168 r169 r170 r171 (fun z0 z1 z2 z3 z4 z5 z6 => K (.tup [.agg [.bool z0, .arr 5 32 z1], .agg [.usl 24 z2, .bool z3, .arr 5 32 z4, .arr 5 32 z5], .int .i64 z6]) []))
  | 0, [.ptr 0 [], .ptr 1 [], .bool r210, .ptr 2 [], .ptr 3 [], .ro false 42 r211], [.box (.agg [.bool r212, .arr 5 32 r213]), .box (.agg [.own 4, .bool r214, .arr 5 32 r215, .arr 5 32 r216]), .box (.agg [.bool r217, .arr 5 32 r218]), .box (.agg [.own 5, .bool r219, .arr 5 32 r220, .arr 5 32 r221]), .lst 24 r222, .lst 24 r223] => Hold (C_r06_Make_15_1 k r210 r211 r212 r213 r214 r215 r216 r217 r218 r219 r220 r221 r222 r223 (fun z0 z1 z2 z3 z4 z5 z6 => K (.tup [.agg [.bool z0, .arr 5 32 z1], .agg [.usl 24 z2, .bool z3, .arr 5 32 z4, .arr 5 32 z5], .int .i64 z6]) []))
  | _, _, _ => False
def D8_17 (k : Nat) : Nat → List (A PU) → List (AObj PU) → (A PU → List (AObj PU) → Prop) → Prop := fun nb vals objs K => match nb, vals, objs with
  | 0, [.ptr 0 [], .ptr 1 [], .ptr 2 [], .ptr 3 [], .own 4], [.box (.agg [.bool r172, .arr 5 32 r173]), .box (.agg [.own 5, .bool r174, .arr 5 32 r175, .arr 5 32 r176]), .box (.agg [.bool r177, .arr 5 32 r178]), .box (.agg [.own 6, .bool r179, .arr 5 32 r180, .arr 5 32 r181]), .lst 42 r182, .lst 24 r183, .lst 24 r184] => Hold (C_r06_Make_17 k r172 r173 r174 r175 r176 r177 r178 r179 r180 r181 r182 r183 r184 (fun z0 z1 z2 z3 z4 z5 z6 => K (.tup [.agg [.bool z0, .arr 5 32 z1], .agg [.usl 24 z2, .bool z3, .arr 5 32 z4, .arr 5 32 z5], .int .i64 z6]) []))
  | 0, [.ptr 0 [], .ptr 1 [], .ptr 2 [], .ptr 3 [], .ro false 42 r224], [.box (.agg [.bool r225, .arr 5 32 r226]), .box (.agg [.own 4, .bool r227, .arr 5 32 r228, .arr 5 32 r229]), .box (.agg [.bool r230, .arr 5 32 r231]), .box (.agg [.own 5, .bool r232, .arr 5 32 r233, .arr 5 32 r234]), .lst 24 r235, .lst 24 r236] => Hold (C_r06_Make_17_1 k r224 r225 r226 r227 r228 r229 r230 r231 r232 r233 r234 r235 r236 (fun z0 z1 z2 z3 z4 z5 z6 => K (.tup [.agg [.bool z0, .arr 5 32 z1], .agg [.usl 24 z2, .bool z3, .arr 5 32 z4, .arr 5 32 z5], .int .i64 z6]) []))
  | _, _, _ => False
def D8_18 (k : Nat) : Nat → List (A PU) → List (AObj PU) → (A PU → List (AObj PU) → Prop) → Prop := fun nb vals objs K => match nb, vals, objs with
  | 0, [.ptr 0 [], .ptr 1 [], .ptr 2 [], .ptr 3 [], .own 4], [.box (.agg [.bool r185, .arr 5 32 r186]), .box (.agg [.own 5, .bool r187, .arr 5 32 r188, .arr 5 32 r189]), .box (.agg [.bool r190, .arr 5 32 r191]), .box (.agg [.own 6, .bool r192, .arr 5 32 r193, .arr 5 32 r194]), .lst 42 r195, .lst 24 r196, .lst 24 r197] => Hold (C_r06_Make_18 k r185 r186 r187 r188 r189 r190 r191 r192 r193 r194 r195 r196 r197 (fun z0 z1 z2 z3 z4 z5 z6 => K (.tup [.agg [.bool z0, .arr 5 32 z1], .agg [.usl 24 z2, .bool z3, .arr 5 32 z4, .arr 5 32 z5], .int .i64 z6]) []))
  | 0, [.ptr 0 [], .ptr 1 [], .ptr 2 [], .ptr 3 [], .ro false 42 r237], [.box (.agg [.bool r238, .arr 5 32 r239]), .box (.agg [.own 4, .bool r240, .arr 5 32 r241, .arr 5 32 r242]), .box (.agg [.bool r243, .arr 5 32 r244]), .box (.agg [.own 5, .bool r245, .arr 5 32 r246, .arr 5 32 r247]), .lst 24 r248, .lst 24 r249] => Hold (C_r06_Make_18_1 k r237 r238 r239 r240 r241 r242 r243 r244 r245 r246 r247 r248 r249 (fun z0 z1 z2 z3 z4 z5 z6 => K (.tup [.agg [.bool z0, .arr 5 32 z1], .agg [.usl 24 z2, .bool z3, .arr 5 32 z4, .arr 5 32 z5], .int .i64 z6]) []))
  | _, _, _ => False
def D8_19 (k : Nat) : Nat → List (A PU) → List (AObj PU) → (A PU → List (AObj PU) → Prop) → Prop := fun nb vals objs K => match nb, vals, objs with
  | 0, [.ptr 0 [], .ptr 1 [], .ptr 2 [], .ptr 3 []], [.box (.agg [.bool r198, .arr 5 32 r199]), .box (.agg [.own 4, .bool r200, .arr 5 32 r201, .arr 5 32 r202]), .box (.agg [.bool r203, .arr 5 32 r204]), .box (.agg [.own 5, .bool r205, .arr 5 32 r206, .arr 5 32 r207]), .lst 24 r208, .lst 24 r209] => Hold (C_r06_Make_19 k r198 r199 r200 r201 r202 r203 r204 r205 r206 r207 r208 r209 (fun z0 z1 z2 z3 z4 z5 z6 => K (.tup [.agg [.bool z0, .arr 5 32 z1], .agg [.usl 24 z2, .bool z3, .arr 5 32 z4, .arr 5 32 z5], .int .i64 z6]) []))
  | _, _, _ => False
def D9_4 (k : Nat) : Nat → List (A PU) → List (AObj PU) → (A PU → List (AObj PU) → Prop) → Prop := fun nb vals objs K => match nb, vals, objs with
  | 0, [.ptr 0 [], .ptr 1 [], .int .i64 r9], [.box (.agg [.ro true 24 r10, .bool r11, .arr 5 32 r12, .arr 5 32 r13]), .box (.agg [.ro true 24 r14, .bool r15, .arr 5 32 r16, .arr 5 32 r17])] => Hold (C_r06_Same_4 k r9 r10 r11 r12 r13 r14 r15 r16 r17 (fun z0 => K (.bool z0) []))
  | _, _, _ => False
def D3_10 (k : Nat) : Nat → List (A PU) → List (AObj PU) → (A PU → List (AObj PU) → Prop) → Prop := fun nb vals objs K => match nb, vals, objs with
  | 0, [.int .i64 r12, .int .i64 r13], [] => Hold (C_l06_ProofMakes_10 k r12 r13 (fun z0 => K (.bool z0) []))
  | _, _, _ => False
def PTr (k : Nat) : List (Nat × Fn PU) := [(35, T35 k), (22, T22 k), (23, T23 k), (24, T24 k), (11, T11 k), (76, T76 k), (59, T59 k), (50, T50 k), (49, T49 k), (48, T48 k), (36, T36 k), (51, T51 k), (40, T40 k), (25, T25 k), (52, T52 k), (37, T37 k), (38, T38 k), (41, T41 k), (62, T62 k), (55, T55 k), (42, T42 k), (44, T44 k), (43, T43 k), (30, T30 k), (29, T29 k), (16, T16 k), (54, T54 k), (26, T26 k), (39, T39 k), (10, T10 k), (12, T12 k), (28, T28 k), (27, T27 k), (13, T13 k), (4, T4 k), (5, T5 k), (14, T14 k), (15, T15 k), (7, T7 k), (6, T6 k), (63, T63 k), (64, T64 k), (81, T81 k), (65, T65 k), (56, T56 k), (45, T45 k), (32, T32 k), (46, T46 k), (33, T33 k), (31, T31 k), (19, T19 k), (20, T20 k), (47, T47 k), (34, T34 k), (21, T21 k), (17, T17 k), (18, T18 k), (8, T8 k), (9, T9 k), (3, T3 k)]
def PCr (k : Nat) : List (Nat × Nat × (Nat → List (A PU) → List (AObj PU) → (A PU → List (AObj PU) → Prop) → Prop)) := [(50, 2, D50_2 k), (36, 4, D36_4 k), (37, 5, D37_5 k), (37, 11, D37_11 k), (38, 3, D38_3 k), (38, 8, D38_8 k), (38, 9, D38_9 k), (23, 9, D23_9 k), (55, 2, D55_2 k), (55, 11, D55_11 k), (55, 14, D55_14 k), (55, 23, D55_23 k), (42, 3, D42_3 k), (44, 9, D44_9 k), (44, 15, D44_15 k), (43, 4, D43_4 k), (30, 4, D30_4 k), (10, 2, D10_2 k), (10, 3, D10_3 k), (10, 4, D10_4 k), (10, 5, D10_5 k), (10, 6, D10_6 k), (27, 2, D27_2 k), (13, 11, D13_11 k), (13, 16, D13_16 k), (4, 6, D4_6 k), (4, 10, D4_10 k), (4, 15, D4_15 k), (4, 22, D4_22 k), (6, 2, D6_2 k), (6, 5, D6_5 k), (63, 4, D63_4 k), (63, 8, D63_8 k), (65, 3, D65_3 k), (65, 7, D65_7 k), (65, 14, D65_14 k), (65, 22, D65_22 k), (56, 4, D56_4 k), (56, 9, D56_9 k), (45, 6, D45_6 k), (31, 3, D31_3 k), (20, 3, D20_3 k), (20, 4, D20_4 k), (18, 2, D18_2 k), (8, 9, D8_9 k), (8, 11, D8_11 k), (8, 12, D8_12 k), (8, 13, D8_13 k), (8, 15, D8_15 k), (8, 17, D8_17 k), (8, 18, D8_18 k), (8, 19, D8_19 k), (9, 4, D9_4 k), (3, 10, D3_10 k)]
def PT (k : Nat) : Tab PU := fun f => lookT f (PTr k)
def PC (k : Nat) : Cut PU := fun f id => lookC f id (PCr k)
theorem hrow48 (k : Nat) (l : List S_api_Leaf) (K : A PU → List (AObj PU) → Prop) (h : (100 ≤ k ∧ List.length l < 4611686018427387904) ∧ ∀ l9 : (List S_api_Leaf), List.Perm l9 l ∧ SortedL l9 → K (.tup []) [.lst 42 l9]) (TS : TSound PE (PT k)) : RowSound PE 48 [.own 0, .clo 49 []] [.lst 42 l] K :=
  hand48 l K TS h.1.2 h.2 fun a b K' hab hK => (Hold.mp (p := Hold (F_smt_twice_1 k a.f0 a.f1 b.f0 b.f1 (fun z0 => K' (.int .i64 z0) []))) (by kernel_rfl) ⟨cmp_s k hab.1 hab.2 (by have := h.1.1; omega) hK⟩).out
theorem hrow39 (k : Nat) (x : KT S_api_Leaf) (w : Int) (K : A PU → List (AObj PU) → Prop) (h : (digBound x ≤ k ∧ (0 ≤ w ∧ w ≤ 32) ∧ allG w x) ∧ K (.arr 5 32 (digT w x)) []) (TS : TSound PE (PT k)) : RowSound PE 39 [.tr 42 x [], .int .i64 w] [] K :=
  hand39 x w K TS h.1.2.1 h.1.2.2 h.2
    (fun K' hK => (Hold.mp (p := Hold (F_smt_Empty k w (fun z0 => K' (.arr 5 32 z0) []))) (by kernel_rfl) ⟨Empty_i k h.1.2.1 (by have := h.1.1; unfold digBound at this; omega) hK⟩).out)
    (fun g v l r dl K' e hK => (Hold.mp (p := Hold (F_smt_knot_digest_1 k w 0 1 0 dl v.f0 v.f1 l r (fun z0 z1 z2 z3 z4 z5 z6 z7 z8 => K' (.tup []) [.box (.ptr 2 []), .box (.int .i64 z0), .box (.agg [.agg [.agg [.int .u32 z1, .int .i32 z2, .int .u32 z3], .arr 5 32 z4], .agg [.arr 5 32 z5, .arr 5 32 z6], .tr 42 z7 [], .tr 42 z8 []])]))) (by kernel_rfl) ⟨digest_1_s k h.1.2.1 (e ▸ h.1.2.2) (e ▸ h.1.1) (by subst e; exact hK)⟩).out)
theorem fnok35 : fnOk PE.P 35 = true := by kernel_rfl
theorem fnok22 : fnOk PE.P 22 = true := by kernel_rfl
theorem fnok23 : fnOk PE.P 23 = true := by kernel_rfl
theorem fnok24 : fnOk PE.P 24 = true := by kernel_rfl
theorem fnok11 : fnOk PE.P 11 = true := by kernel_rfl
theorem fnok76 : fnOk PE.P 76 = true := by kernel_rfl
theorem fnok59 : fnOk PE.P 59 = true := by kernel_rfl
theorem fnok50 : fnOk PE.P 50 = true := by kernel_rfl
theorem fnok49 : fnOk PE.P 49 = true := by kernel_rfl
theorem fnok36 : fnOk PE.P 36 = true := by kernel_rfl
theorem fnok51 : fnOk PE.P 51 = true := by kernel_rfl
theorem fnok40 : fnOk PE.P 40 = true := by kernel_rfl
theorem fnok25 : fnOk PE.P 25 = true := by kernel_rfl
theorem fnok52 : fnOk PE.P 52 = true := by kernel_rfl
theorem fnok37 : fnOk PE.P 37 = true := by kernel_rfl
theorem fnok38 : fnOk PE.P 38 = true := by kernel_rfl
theorem fnok41 : fnOk PE.P 41 = true := by kernel_rfl
theorem fnok62 : fnOk PE.P 62 = true := by kernel_rfl
theorem fnok55 : fnOk PE.P 55 = true := by kernel_rfl
theorem fnok42 : fnOk PE.P 42 = true := by kernel_rfl
theorem fnok44 : fnOk PE.P 44 = true := by kernel_rfl
theorem fnok43 : fnOk PE.P 43 = true := by kernel_rfl
theorem fnok30 : fnOk PE.P 30 = true := by kernel_rfl
theorem fnok29 : fnOk PE.P 29 = true := by kernel_rfl
theorem fnok16 : fnOk PE.P 16 = true := by kernel_rfl
theorem fnok54 : fnOk PE.P 54 = true := by kernel_rfl
theorem fnok26 : fnOk PE.P 26 = true := by kernel_rfl
theorem fnok10 : fnOk PE.P 10 = true := by kernel_rfl
theorem fnok12 : fnOk PE.P 12 = true := by kernel_rfl
theorem fnok28 : fnOk PE.P 28 = true := by kernel_rfl
theorem fnok27 : fnOk PE.P 27 = true := by kernel_rfl
theorem fnok13 : fnOk PE.P 13 = true := by kernel_rfl
theorem fnok4 : fnOk PE.P 4 = true := by kernel_rfl
theorem fnok5 : fnOk PE.P 5 = true := by kernel_rfl
theorem fnok14 : fnOk PE.P 14 = true := by kernel_rfl
theorem fnok15 : fnOk PE.P 15 = true := by kernel_rfl
theorem fnok7 : fnOk PE.P 7 = true := by kernel_rfl
theorem fnok6 : fnOk PE.P 6 = true := by kernel_rfl
theorem fnok63 : fnOk PE.P 63 = true := by kernel_rfl
theorem fnok64 : fnOk PE.P 64 = true := by kernel_rfl
theorem fnok81 : fnOk PE.P 81 = true := by kernel_rfl
theorem fnok65 : fnOk PE.P 65 = true := by kernel_rfl
theorem fnok56 : fnOk PE.P 56 = true := by kernel_rfl
theorem fnok45 : fnOk PE.P 45 = true := by kernel_rfl
theorem fnok32 : fnOk PE.P 32 = true := by kernel_rfl
theorem fnok46 : fnOk PE.P 46 = true := by kernel_rfl
theorem fnok33 : fnOk PE.P 33 = true := by kernel_rfl
theorem fnok31 : fnOk PE.P 31 = true := by kernel_rfl
theorem fnok19 : fnOk PE.P 19 = true := by kernel_rfl
theorem fnok20 : fnOk PE.P 20 = true := by kernel_rfl
theorem fnok47 : fnOk PE.P 47 = true := by kernel_rfl
theorem fnok34 : fnOk PE.P 34 = true := by kernel_rfl
theorem fnok21 : fnOk PE.P 21 = true := by kernel_rfl
theorem fnok17 : fnOk PE.P 17 = true := by kernel_rfl
theorem fnok18 : fnOk PE.P 18 = true := by kernel_rfl
theorem fnok8 : fnOk PE.P 8 = true := by kernel_rfl
theorem fnok9 : fnOk PE.P 9 = true := by kernel_rfl
theorem fnok3 : fnOk PE.P 3 = true := by kernel_rfl
theorem T35_z (args : List (A PU)) (objs : List (AObj PU)) (K : A PU → List (AObj PU) → Prop) : ¬ T35 0 args objs K := by
  intro h; unfold T35 at h; split at h <;> (first | exact h | exact h.out)
theorem T35_ok (k : Nat) (args : List (A PU)) (objs : List (AObj PU)) (K : A PU → List (AObj PU) → Prop) (h : T35 (k + 1) args objs K) : RowOk PE (PT k) (PC k) 35 args objs K := by
  unfold T35 at h; split at h
  · exact .fn fnok35 rfl (Hold.mp (by kernel_rfl) h.out)
  · exact h.elim
theorem T22_z (args : List (A PU)) (objs : List (AObj PU)) (K : A PU → List (AObj PU) → Prop) : ¬ T22 0 args objs K := by
  intro h; unfold T22 at h; split at h <;> (first | exact h | exact h.out)
theorem T22_ok (k : Nat) (args : List (A PU)) (objs : List (AObj PU)) (K : A PU → List (AObj PU) → Prop) (h : T22 (k + 1) args objs K) : RowOk PE (PT k) (PC k) 22 args objs K := by
  unfold T22 at h; split at h
  · exact .fn fnok22 rfl (Hold.mp (by kernel_rfl) h.out)
  · exact h.elim
theorem T23_z (args : List (A PU)) (objs : List (AObj PU)) (K : A PU → List (AObj PU) → Prop) : ¬ T23 0 args objs K := by
  intro h; unfold T23 at h; split at h <;> (first | exact h | exact h.out)
theorem T23_ok (k : Nat) (args : List (A PU)) (objs : List (AObj PU)) (K : A PU → List (AObj PU) → Prop) (h : T23 (k + 1) args objs K) : RowOk PE (PT k) (PC k) 23 args objs K := by
  unfold T23 at h; split at h
  · exact .fn fnok23 rfl (Hold.mp (by kernel_rfl) h.out)
  · exact .fn fnok23 rfl (Hold.mp (by kernel_rfl) h.out)
  · exact .fn fnok23 rfl (Hold.mp (by kernel_rfl) h.out)
  · exact .fn fnok23 rfl (Hold.mp (by kernel_rfl) h.out)
  · exact h.elim
theorem T24_z (args : List (A PU)) (objs : List (AObj PU)) (K : A PU → List (AObj PU) → Prop) : ¬ T24 0 args objs K := by
  intro h; unfold T24 at h; split at h <;> (first | exact h | exact h.out)
theorem T24_ok (k : Nat) (args : List (A PU)) (objs : List (AObj PU)) (K : A PU → List (AObj PU) → Prop) (h : T24 (k + 1) args objs K) : RowOk PE (PT k) (PC k) 24 args objs K := by
  unfold T24 at h; split at h
  · exact .fn fnok24 rfl (Hold.mp (by kernel_rfl) h.out)
  · exact .fn fnok24 rfl (Hold.mp (by kernel_rfl) h.out)
  · exact h.elim
theorem T11_z (args : List (A PU)) (objs : List (AObj PU)) (K : A PU → List (AObj PU) → Prop) : ¬ T11 0 args objs K := by
  intro h; unfold T11 at h; split at h <;> (first | exact h | exact h.out)
theorem T11_ok (k : Nat) (args : List (A PU)) (objs : List (AObj PU)) (K : A PU → List (AObj PU) → Prop) (h : T11 (k + 1) args objs K) : RowOk PE (PT k) (PC k) 11 args objs K := by
  unfold T11 at h; split at h
  · exact .fn fnok11 rfl (Hold.mp (by kernel_rfl) h.out)
  · exact .fn fnok11 rfl (Hold.mp (by kernel_rfl) h.out)
  · exact h.elim
theorem T76_z (args : List (A PU)) (objs : List (AObj PU)) (K : A PU → List (AObj PU) → Prop) : ¬ T76 0 args objs K := by
  intro h; unfold T76 at h; split at h <;> (first | exact h | exact h.out)
theorem T76_ok (k : Nat) (args : List (A PU)) (objs : List (AObj PU)) (K : A PU → List (AObj PU) → Prop) (h : T76 (k + 1) args objs K) : RowOk PE (PT k) (PC k) 76 args objs K := by
  unfold T76 at h; split at h
  · exact .fn fnok76 rfl (Hold.mp (by kernel_rfl) h.out)
  · exact h.elim
theorem T59_z (args : List (A PU)) (objs : List (AObj PU)) (K : A PU → List (AObj PU) → Prop) : ¬ T59 0 args objs K := by
  intro h; unfold T59 at h; split at h <;> (first | exact h | exact h.out)
theorem T59_ok (k : Nat) (args : List (A PU)) (objs : List (AObj PU)) (K : A PU → List (AObj PU) → Prop) (h : T59 (k + 1) args objs K) : RowOk PE (PT k) (PC k) 59 args objs K := by
  unfold T59 at h; split at h
  · exact .fn fnok59 rfl (Hold.mp (by kernel_rfl) h.out)
  · exact h.elim
theorem T50_z (args : List (A PU)) (objs : List (AObj PU)) (K : A PU → List (AObj PU) → Prop) : ¬ T50 0 args objs K := by
  intro h; unfold T50 at h; split at h <;> (first | exact h | exact h.out)
theorem T50_ok (k : Nat) (args : List (A PU)) (objs : List (AObj PU)) (K : A PU → List (AObj PU) → Prop) (h : T50 (k + 1) args objs K) : RowOk PE (PT k) (PC k) 50 args objs K := by
  unfold T50 at h; split at h
  · exact .fn fnok50 rfl (Hold.mp (by kernel_rfl) h.out)
  · exact h.elim
theorem T49_z (args : List (A PU)) (objs : List (AObj PU)) (K : A PU → List (AObj PU) → Prop) : ¬ T49 0 args objs K := by
  intro h; unfold T49 at h; split at h <;> (first | exact h | exact h.out)
theorem T49_ok (k : Nat) (args : List (A PU)) (objs : List (AObj PU)) (K : A PU → List (AObj PU) → Prop) (h : T49 (k + 1) args objs K) : RowOk PE (PT k) (PC k) 49 args objs K := by
  unfold T49 at h; split at h
  · exact .fn fnok49 rfl (Hold.mp (by kernel_rfl) h.out)
  · exact h.elim
theorem T48_z (args : List (A PU)) (objs : List (AObj PU)) (K : A PU → List (AObj PU) → Prop) : ¬ T48 0 args objs K := by
  intro h; unfold T48 at h; split at h <;> (first | exact h | exact h.out)
theorem T48_ok (k : Nat) (args : List (A PU)) (objs : List (AObj PU)) (K : A PU → List (AObj PU) → Prop) (h : T48 (k + 1) args objs K) : RowOk PE (PT k) (PC k) 48 args objs K := by
  unfold T48 at h; split at h
  · exact .row fun TS => hrow48 k _ _ (Hold.mp (by kernel_rfl) h.out).out TS
  · exact h.elim
theorem T36_z (args : List (A PU)) (objs : List (AObj PU)) (K : A PU → List (AObj PU) → Prop) : ¬ T36 0 args objs K := by
  intro h; unfold T36 at h; split at h <;> (first | exact h | exact h.out)
theorem T36_ok (k : Nat) (args : List (A PU)) (objs : List (AObj PU)) (K : A PU → List (AObj PU) → Prop) (h : T36 (k + 1) args objs K) : RowOk PE (PT k) (PC k) 36 args objs K := by
  unfold T36 at h; split at h
  · exact .fn fnok36 rfl (Hold.mp (by kernel_rfl) h.out)
  · exact .fn fnok36 rfl (Hold.mp (by kernel_rfl) h.out)
  · exact h.elim
theorem T51_z (args : List (A PU)) (objs : List (AObj PU)) (K : A PU → List (AObj PU) → Prop) : ¬ T51 0 args objs K := by
  intro h; unfold T51 at h; split at h <;> (first | exact h | exact h.out)
theorem T51_ok (k : Nat) (args : List (A PU)) (objs : List (AObj PU)) (K : A PU → List (AObj PU) → Prop) (h : T51 (k + 1) args objs K) : RowOk PE (PT k) (PC k) 51 args objs K := by
  unfold T51 at h; split at h
  · exact .fn fnok51 rfl (Hold.mp (by kernel_rfl) h.out)
  · exact .fn fnok51 rfl (Hold.mp (by kernel_rfl) h.out)
  · exact h.elim
theorem T40_z (args : List (A PU)) (objs : List (AObj PU)) (K : A PU → List (AObj PU) → Prop) : ¬ T40 0 args objs K := by
  intro h; unfold T40 at h; split at h <;> (first | exact h | exact h.out)
theorem T40_ok (k : Nat) (args : List (A PU)) (objs : List (AObj PU)) (K : A PU → List (AObj PU) → Prop) (h : T40 (k + 1) args objs K) : RowOk PE (PT k) (PC k) 40 args objs K := by
  unfold T40 at h; split at h
  · exact .fn fnok40 rfl (Hold.mp (by kernel_rfl) h.out)
  · exact h.elim
theorem T25_z (args : List (A PU)) (objs : List (AObj PU)) (K : A PU → List (AObj PU) → Prop) : ¬ T25 0 args objs K := by
  intro h; unfold T25 at h; split at h <;> (first | exact h | exact h.out)
theorem T25_ok (k : Nat) (args : List (A PU)) (objs : List (AObj PU)) (K : A PU → List (AObj PU) → Prop) (h : T25 (k + 1) args objs K) : RowOk PE (PT k) (PC k) 25 args objs K := by
  unfold T25 at h; split at h
  · exact .fn fnok25 rfl (Hold.mp (by kernel_rfl) h.out)
  · exact h.elim
theorem T52_z (args : List (A PU)) (objs : List (AObj PU)) (K : A PU → List (AObj PU) → Prop) : ¬ T52 0 args objs K := by
  intro h; unfold T52 at h; split at h <;> (first | exact h | exact h.out)
theorem T52_ok (k : Nat) (args : List (A PU)) (objs : List (AObj PU)) (K : A PU → List (AObj PU) → Prop) (h : T52 (k + 1) args objs K) : RowOk PE (PT k) (PC k) 52 args objs K := by
  unfold T52 at h; split at h
  · exact .fn fnok52 rfl (Hold.mp (by kernel_rfl) h.out)
  · exact h.elim
theorem T37_z (args : List (A PU)) (objs : List (AObj PU)) (K : A PU → List (AObj PU) → Prop) : ¬ T37 0 args objs K := by
  intro h; unfold T37 at h; split at h <;> (first | exact h | exact h.out)
theorem T37_ok (k : Nat) (args : List (A PU)) (objs : List (AObj PU)) (K : A PU → List (AObj PU) → Prop) (h : T37 (k + 1) args objs K) : RowOk PE (PT k) (PC k) 37 args objs K := by
  unfold T37 at h; split at h
  · exact .fn fnok37 rfl (Hold.mp (by kernel_rfl) h.out)
  · exact h.elim
theorem T38_z (args : List (A PU)) (objs : List (AObj PU)) (K : A PU → List (AObj PU) → Prop) : ¬ T38 0 args objs K := by
  intro h; unfold T38 at h; split at h <;> (first | exact h | exact h.out)
theorem T38_ok (k : Nat) (args : List (A PU)) (objs : List (AObj PU)) (K : A PU → List (AObj PU) → Prop) (h : T38 (k + 1) args objs K) : RowOk PE (PT k) (PC k) 38 args objs K := by
  unfold T38 at h; split at h
  · exact .fn fnok38 rfl (Hold.mp (by kernel_rfl) h.out)
  · exact h.elim
theorem T41_z (args : List (A PU)) (objs : List (AObj PU)) (K : A PU → List (AObj PU) → Prop) : ¬ T41 0 args objs K := by
  intro h; unfold T41 at h; split at h <;> (first | exact h | exact h.out)
theorem T41_ok (k : Nat) (args : List (A PU)) (objs : List (AObj PU)) (K : A PU → List (AObj PU) → Prop) (h : T41 (k + 1) args objs K) : RowOk PE (PT k) (PC k) 41 args objs K := by
  unfold T41 at h; split at h
  · exact .fn fnok41 rfl (Hold.mp (by kernel_rfl) h.out)
  · exact h.elim
theorem T62_z (args : List (A PU)) (objs : List (AObj PU)) (K : A PU → List (AObj PU) → Prop) : ¬ T62 0 args objs K := by
  intro h; unfold T62 at h; split at h <;> (first | exact h | exact h.out)
theorem T62_ok (k : Nat) (args : List (A PU)) (objs : List (AObj PU)) (K : A PU → List (AObj PU) → Prop) (h : T62 (k + 1) args objs K) : RowOk PE (PT k) (PC k) 62 args objs K := by
  unfold T62 at h; split at h
  · exact .fn fnok62 rfl (Hold.mp (by kernel_rfl) h.out)
  · exact h.elim
theorem T55_z (args : List (A PU)) (objs : List (AObj PU)) (K : A PU → List (AObj PU) → Prop) : ¬ T55 0 args objs K := by
  intro h; unfold T55 at h; split at h <;> (first | exact h | exact h.out)
theorem T55_ok (k : Nat) (args : List (A PU)) (objs : List (AObj PU)) (K : A PU → List (AObj PU) → Prop) (h : T55 (k + 1) args objs K) : RowOk PE (PT k) (PC k) 55 args objs K := by
  unfold T55 at h; split at h
  · exact .fn fnok55 rfl (Hold.mp (by kernel_rfl) h.out)
  · exact h.elim
theorem T42_z (args : List (A PU)) (objs : List (AObj PU)) (K : A PU → List (AObj PU) → Prop) : ¬ T42 0 args objs K := by
  intro h; unfold T42 at h; split at h <;> (first | exact h | exact h.out)
theorem T42_ok (k : Nat) (args : List (A PU)) (objs : List (AObj PU)) (K : A PU → List (AObj PU) → Prop) (h : T42 (k + 1) args objs K) : RowOk PE (PT k) (PC k) 42 args objs K := by
  unfold T42 at h; split at h
  · exact .fn fnok42 rfl (Hold.mp (by kernel_rfl) h.out)
  · exact h.elim
theorem T44_z (args : List (A PU)) (objs : List (AObj PU)) (K : A PU → List (AObj PU) → Prop) : ¬ T44 0 args objs K := by
  intro h; unfold T44 at h; split at h <;> (first | exact h | exact h.out)
theorem T44_ok (k : Nat) (args : List (A PU)) (objs : List (AObj PU)) (K : A PU → List (AObj PU) → Prop) (h : T44 (k + 1) args objs K) : RowOk PE (PT k) (PC k) 44 args objs K := by
  unfold T44 at h; split at h
  · exact .fn fnok44 rfl (Hold.mp (by kernel_rfl) h.out)
  · exact h.elim
theorem T43_z (args : List (A PU)) (objs : List (AObj PU)) (K : A PU → List (AObj PU) → Prop) : ¬ T43 0 args objs K := by
  intro h; unfold T43 at h; split at h <;> (first | exact h | exact h.out)
theorem T43_ok (k : Nat) (args : List (A PU)) (objs : List (AObj PU)) (K : A PU → List (AObj PU) → Prop) (h : T43 (k + 1) args objs K) : RowOk PE (PT k) (PC k) 43 args objs K := by
  unfold T43 at h; split at h
  · exact .fn fnok43 rfl (Hold.mp (by kernel_rfl) h.out)
  · exact h.elim
theorem T30_z (args : List (A PU)) (objs : List (AObj PU)) (K : A PU → List (AObj PU) → Prop) : ¬ T30 0 args objs K := by
  intro h; unfold T30 at h; split at h <;> (first | exact h | exact h.out)
theorem T30_ok (k : Nat) (args : List (A PU)) (objs : List (AObj PU)) (K : A PU → List (AObj PU) → Prop) (h : T30 (k + 1) args objs K) : RowOk PE (PT k) (PC k) 30 args objs K := by
  unfold T30 at h; split at h
  · exact .fn fnok30 rfl (Hold.mp (by kernel_rfl) h.out)
  · exact .fn fnok30 rfl (Hold.mp (by kernel_rfl) h.out)
  · exact h.elim
theorem T29_z (args : List (A PU)) (objs : List (AObj PU)) (K : A PU → List (AObj PU) → Prop) : ¬ T29 0 args objs K := by
  intro h; unfold T29 at h; split at h <;> (first | exact h | exact h.out)
theorem T29_ok (k : Nat) (args : List (A PU)) (objs : List (AObj PU)) (K : A PU → List (AObj PU) → Prop) (h : T29 (k + 1) args objs K) : RowOk PE (PT k) (PC k) 29 args objs K := by
  unfold T29 at h; split at h
  · exact .fn fnok29 rfl (Hold.mp (by kernel_rfl) h.out)
  · exact h.elim
theorem T16_z (args : List (A PU)) (objs : List (AObj PU)) (K : A PU → List (AObj PU) → Prop) : ¬ T16 0 args objs K := by
  intro h; unfold T16 at h; split at h <;> (first | exact h | exact h.out)
theorem T16_ok (k : Nat) (args : List (A PU)) (objs : List (AObj PU)) (K : A PU → List (AObj PU) → Prop) (h : T16 (k + 1) args objs K) : RowOk PE (PT k) (PC k) 16 args objs K := by
  unfold T16 at h; split at h
  · exact .fn fnok16 rfl (Hold.mp (by kernel_rfl) h.out)
  · exact h.elim
theorem T54_z (args : List (A PU)) (objs : List (AObj PU)) (K : A PU → List (AObj PU) → Prop) : ¬ T54 0 args objs K := by
  intro h; unfold T54 at h; split at h <;> (first | exact h | exact h.out)
theorem T54_ok (k : Nat) (args : List (A PU)) (objs : List (AObj PU)) (K : A PU → List (AObj PU) → Prop) (h : T54 (k + 1) args objs K) : RowOk PE (PT k) (PC k) 54 args objs K := by
  unfold T54 at h; split at h
  · exact .fn fnok54 rfl (Hold.mp (by kernel_rfl) h.out)
  · exact h.elim
theorem T26_z (args : List (A PU)) (objs : List (AObj PU)) (K : A PU → List (AObj PU) → Prop) : ¬ T26 0 args objs K := by
  intro h; unfold T26 at h; split at h <;> (first | exact h | exact h.out)
theorem T26_ok (k : Nat) (args : List (A PU)) (objs : List (AObj PU)) (K : A PU → List (AObj PU) → Prop) (h : T26 (k + 1) args objs K) : RowOk PE (PT k) (PC k) 26 args objs K := by
  unfold T26 at h; split at h
  · exact .fn fnok26 rfl (Hold.mp (by kernel_rfl) h.out)
  · exact h.elim
theorem T39_z (args : List (A PU)) (objs : List (AObj PU)) (K : A PU → List (AObj PU) → Prop) : ¬ T39 0 args objs K := by
  intro h; unfold T39 at h; split at h <;> (first | exact h | exact h.out)
theorem T39_ok (k : Nat) (args : List (A PU)) (objs : List (AObj PU)) (K : A PU → List (AObj PU) → Prop) (h : T39 (k + 1) args objs K) : RowOk PE (PT k) (PC k) 39 args objs K := by
  unfold T39 at h; split at h
  · exact .row fun TS => hrow39 k _ _ _ (Hold.mp (by kernel_rfl) h.out).out TS
  · exact h.elim
theorem T10_z (args : List (A PU)) (objs : List (AObj PU)) (K : A PU → List (AObj PU) → Prop) : ¬ T10 0 args objs K := by
  intro h; unfold T10 at h; split at h <;> (first | exact h | exact h.out)
theorem T10_ok (k : Nat) (args : List (A PU)) (objs : List (AObj PU)) (K : A PU → List (AObj PU) → Prop) (h : T10 (k + 1) args objs K) : RowOk PE (PT k) (PC k) 10 args objs K := by
  unfold T10 at h; split at h
  · exact .fn fnok10 rfl (Hold.mp (by kernel_rfl) h.out)
  · exact .fn fnok10 rfl (Hold.mp (by kernel_rfl) h.out)
  · exact h.elim
theorem T12_z (args : List (A PU)) (objs : List (AObj PU)) (K : A PU → List (AObj PU) → Prop) : ¬ T12 0 args objs K := by
  intro h; unfold T12 at h; split at h <;> (first | exact h | exact h.out)
theorem T12_ok (k : Nat) (args : List (A PU)) (objs : List (AObj PU)) (K : A PU → List (AObj PU) → Prop) (h : T12 (k + 1) args objs K) : RowOk PE (PT k) (PC k) 12 args objs K := by
  unfold T12 at h; split at h
  · exact .fn fnok12 rfl (Hold.mp (by kernel_rfl) h.out)
  · exact h.elim
theorem T28_z (args : List (A PU)) (objs : List (AObj PU)) (K : A PU → List (AObj PU) → Prop) : ¬ T28 0 args objs K := by
  intro h; unfold T28 at h; split at h <;> (first | exact h | exact h.out)
theorem T28_ok (k : Nat) (args : List (A PU)) (objs : List (AObj PU)) (K : A PU → List (AObj PU) → Prop) (h : T28 (k + 1) args objs K) : RowOk PE (PT k) (PC k) 28 args objs K := by
  unfold T28 at h; split at h
  · exact .fn fnok28 rfl (Hold.mp (by kernel_rfl) h.out)
  · exact h.elim
theorem T27_z (args : List (A PU)) (objs : List (AObj PU)) (K : A PU → List (AObj PU) → Prop) : ¬ T27 0 args objs K := by
  intro h; unfold T27 at h; split at h <;> (first | exact h | exact h.out)
theorem T27_ok (k : Nat) (args : List (A PU)) (objs : List (AObj PU)) (K : A PU → List (AObj PU) → Prop) (h : T27 (k + 1) args objs K) : RowOk PE (PT k) (PC k) 27 args objs K := by
  unfold T27 at h; split at h
  · exact .fn fnok27 rfl (Hold.mp (by kernel_rfl) h.out)
  · exact h.elim
theorem T13_z (args : List (A PU)) (objs : List (AObj PU)) (K : A PU → List (AObj PU) → Prop) : ¬ T13 0 args objs K := by
  intro h; unfold T13 at h; split at h <;> (first | exact h | exact h.out)
theorem T13_ok (k : Nat) (args : List (A PU)) (objs : List (AObj PU)) (K : A PU → List (AObj PU) → Prop) (h : T13 (k + 1) args objs K) : RowOk PE (PT k) (PC k) 13 args objs K := by
  unfold T13 at h; split at h
  · exact .fn fnok13 rfl (Hold.mp (by kernel_rfl) h.out)
  · exact h.elim
theorem T4_z (args : List (A PU)) (objs : List (AObj PU)) (K : A PU → List (AObj PU) → Prop) : ¬ T4 0 args objs K := by
  intro h; unfold T4 at h; split at h <;> (first | exact h | exact h.out)
theorem T4_ok (k : Nat) (args : List (A PU)) (objs : List (AObj PU)) (K : A PU → List (AObj PU) → Prop) (h : T4 (k + 1) args objs K) : RowOk PE (PT k) (PC k) 4 args objs K := by
  unfold T4 at h; split at h
  · exact .fn fnok4 rfl (Hold.mp (by kernel_rfl) h.out)
  · exact .fn fnok4 rfl (Hold.mp (by kernel_rfl) h.out)
  · exact h.elim
theorem T5_z (args : List (A PU)) (objs : List (AObj PU)) (K : A PU → List (AObj PU) → Prop) : ¬ T5 0 args objs K := by
  intro h; unfold T5 at h; split at h <;> (first | exact h | exact h.out)
theorem T5_ok (k : Nat) (args : List (A PU)) (objs : List (AObj PU)) (K : A PU → List (AObj PU) → Prop) (h : T5 (k + 1) args objs K) : RowOk PE (PT k) (PC k) 5 args objs K := by
  unfold T5 at h; split at h
  · exact .fn fnok5 rfl (Hold.mp (by kernel_rfl) h.out)
  · exact h.elim
theorem T14_z (args : List (A PU)) (objs : List (AObj PU)) (K : A PU → List (AObj PU) → Prop) : ¬ T14 0 args objs K := by
  intro h; unfold T14 at h; split at h <;> (first | exact h | exact h.out)
theorem T14_ok (k : Nat) (args : List (A PU)) (objs : List (AObj PU)) (K : A PU → List (AObj PU) → Prop) (h : T14 (k + 1) args objs K) : RowOk PE (PT k) (PC k) 14 args objs K := by
  unfold T14 at h; split at h
  · exact .fn fnok14 rfl (Hold.mp (by kernel_rfl) h.out)
  · exact h.elim
theorem T15_z (args : List (A PU)) (objs : List (AObj PU)) (K : A PU → List (AObj PU) → Prop) : ¬ T15 0 args objs K := by
  intro h; unfold T15 at h; split at h <;> (first | exact h | exact h.out)
theorem T15_ok (k : Nat) (args : List (A PU)) (objs : List (AObj PU)) (K : A PU → List (AObj PU) → Prop) (h : T15 (k + 1) args objs K) : RowOk PE (PT k) (PC k) 15 args objs K := by
  unfold T15 at h; split at h
  · exact .fn fnok15 rfl (Hold.mp (by kernel_rfl) h.out)
  · exact h.elim
theorem T7_z (args : List (A PU)) (objs : List (AObj PU)) (K : A PU → List (AObj PU) → Prop) : ¬ T7 0 args objs K := by
  intro h; unfold T7 at h; split at h <;> (first | exact h | exact h.out)
theorem T7_ok (k : Nat) (args : List (A PU)) (objs : List (AObj PU)) (K : A PU → List (AObj PU) → Prop) (h : T7 (k + 1) args objs K) : RowOk PE (PT k) (PC k) 7 args objs K := by
  unfold T7 at h; split at h
  · exact .fn fnok7 rfl (Hold.mp (by kernel_rfl) h.out)
  · exact h.elim
theorem T6_z (args : List (A PU)) (objs : List (AObj PU)) (K : A PU → List (AObj PU) → Prop) : ¬ T6 0 args objs K := by
  intro h; unfold T6 at h; split at h <;> (first | exact h | exact h.out)
theorem T6_ok (k : Nat) (args : List (A PU)) (objs : List (AObj PU)) (K : A PU → List (AObj PU) → Prop) (h : T6 (k + 1) args objs K) : RowOk PE (PT k) (PC k) 6 args objs K := by
  unfold T6 at h; split at h
  · exact .fn fnok6 rfl (Hold.mp (by kernel_rfl) h.out)
  · exact h.elim
theorem T63_z (args : List (A PU)) (objs : List (AObj PU)) (K : A PU → List (AObj PU) → Prop) : ¬ T63 0 args objs K := by
  intro h; unfold T63 at h; split at h <;> (first | exact h | exact h.out)
theorem T63_ok (k : Nat) (args : List (A PU)) (objs : List (AObj PU)) (K : A PU → List (AObj PU) → Prop) (h : T63 (k + 1) args objs K) : RowOk PE (PT k) (PC k) 63 args objs K := by
  unfold T63 at h; split at h
  · exact .fn fnok63 rfl (Hold.mp (by kernel_rfl) h.out)
  · exact h.elim
theorem T64_z (args : List (A PU)) (objs : List (AObj PU)) (K : A PU → List (AObj PU) → Prop) : ¬ T64 0 args objs K := by
  intro h; unfold T64 at h; split at h <;> (first | exact h | exact h.out)
theorem T64_ok (k : Nat) (args : List (A PU)) (objs : List (AObj PU)) (K : A PU → List (AObj PU) → Prop) (h : T64 (k + 1) args objs K) : RowOk PE (PT k) (PC k) 64 args objs K := by
  unfold T64 at h; split at h
  · exact .fn fnok64 rfl (Hold.mp (by kernel_rfl) h.out)
  · exact h.elim
theorem T81_z (args : List (A PU)) (objs : List (AObj PU)) (K : A PU → List (AObj PU) → Prop) : ¬ T81 0 args objs K := by
  intro h; unfold T81 at h; split at h <;> (first | exact h | exact h.out)
theorem T81_ok (k : Nat) (args : List (A PU)) (objs : List (AObj PU)) (K : A PU → List (AObj PU) → Prop) (h : T81 (k + 1) args objs K) : RowOk PE (PT k) (PC k) 81 args objs K := by
  unfold T81 at h; split at h
  · exact .fn fnok81 rfl (Hold.mp (by kernel_rfl) h.out)
  · exact h.elim
theorem T65_z (args : List (A PU)) (objs : List (AObj PU)) (K : A PU → List (AObj PU) → Prop) : ¬ T65 0 args objs K := by
  intro h; unfold T65 at h; split at h <;> (first | exact h | exact h.out)
theorem T65_ok (k : Nat) (args : List (A PU)) (objs : List (AObj PU)) (K : A PU → List (AObj PU) → Prop) (h : T65 (k + 1) args objs K) : RowOk PE (PT k) (PC k) 65 args objs K := by
  unfold T65 at h; split at h
  · exact .fn fnok65 rfl (Hold.mp (by kernel_rfl) h.out)
  · exact h.elim
theorem T56_z (args : List (A PU)) (objs : List (AObj PU)) (K : A PU → List (AObj PU) → Prop) : ¬ T56 0 args objs K := by
  intro h; unfold T56 at h; split at h <;> (first | exact h | exact h.out)
theorem T56_ok (k : Nat) (args : List (A PU)) (objs : List (AObj PU)) (K : A PU → List (AObj PU) → Prop) (h : T56 (k + 1) args objs K) : RowOk PE (PT k) (PC k) 56 args objs K := by
  unfold T56 at h; split at h
  · exact .fn fnok56 rfl (Hold.mp (by kernel_rfl) h.out)
  · exact h.elim
theorem T45_z (args : List (A PU)) (objs : List (AObj PU)) (K : A PU → List (AObj PU) → Prop) : ¬ T45 0 args objs K := by
  intro h; unfold T45 at h; split at h <;> (first | exact h | exact h.out)
theorem T45_ok (k : Nat) (args : List (A PU)) (objs : List (AObj PU)) (K : A PU → List (AObj PU) → Prop) (h : T45 (k + 1) args objs K) : RowOk PE (PT k) (PC k) 45 args objs K := by
  unfold T45 at h; split at h
  · exact .fn fnok45 rfl (Hold.mp (by kernel_rfl) h.out)
  · exact h.elim
theorem T32_z (args : List (A PU)) (objs : List (AObj PU)) (K : A PU → List (AObj PU) → Prop) : ¬ T32 0 args objs K := by
  intro h; unfold T32 at h; split at h <;> (first | exact h | exact h.out)
theorem T32_ok (k : Nat) (args : List (A PU)) (objs : List (AObj PU)) (K : A PU → List (AObj PU) → Prop) (h : T32 (k + 1) args objs K) : RowOk PE (PT k) (PC k) 32 args objs K := by
  unfold T32 at h; split at h
  · exact .fn fnok32 rfl (Hold.mp (by kernel_rfl) h.out)
  · exact h.elim
theorem T46_z (args : List (A PU)) (objs : List (AObj PU)) (K : A PU → List (AObj PU) → Prop) : ¬ T46 0 args objs K := by
  intro h; unfold T46 at h; split at h <;> (first | exact h | exact h.out)
theorem T46_ok (k : Nat) (args : List (A PU)) (objs : List (AObj PU)) (K : A PU → List (AObj PU) → Prop) (h : T46 (k + 1) args objs K) : RowOk PE (PT k) (PC k) 46 args objs K := by
  unfold T46 at h; split at h
  · exact .fn fnok46 rfl (Hold.mp (by kernel_rfl) h.out)
  · exact h.elim
theorem T33_z (args : List (A PU)) (objs : List (AObj PU)) (K : A PU → List (AObj PU) → Prop) : ¬ T33 0 args objs K := by
  intro h; unfold T33 at h; split at h <;> (first | exact h | exact h.out)
theorem T33_ok (k : Nat) (args : List (A PU)) (objs : List (AObj PU)) (K : A PU → List (AObj PU) → Prop) (h : T33 (k + 1) args objs K) : RowOk PE (PT k) (PC k) 33 args objs K := by
  unfold T33 at h; split at h
  · exact .fn fnok33 rfl (Hold.mp (by kernel_rfl) h.out)
  · exact h.elim
theorem T31_z (args : List (A PU)) (objs : List (AObj PU)) (K : A PU → List (AObj PU) → Prop) : ¬ T31 0 args objs K := by
  intro h; unfold T31 at h; split at h <;> (first | exact h | exact h.out)
theorem T31_ok (k : Nat) (args : List (A PU)) (objs : List (AObj PU)) (K : A PU → List (AObj PU) → Prop) (h : T31 (k + 1) args objs K) : RowOk PE (PT k) (PC k) 31 args objs K := by
  unfold T31 at h; split at h
  · exact .fn fnok31 rfl (Hold.mp (by kernel_rfl) h.out)
  · exact h.elim
theorem T19_z (args : List (A PU)) (objs : List (AObj PU)) (K : A PU → List (AObj PU) → Prop) : ¬ T19 0 args objs K := by
  intro h; unfold T19 at h; split at h <;> (first | exact h | exact h.out)
theorem T19_ok (k : Nat) (args : List (A PU)) (objs : List (AObj PU)) (K : A PU → List (AObj PU) → Prop) (h : T19 (k + 1) args objs K) : RowOk PE (PT k) (PC k) 19 args objs K := by
  unfold T19 at h; split at h
  · exact .fn fnok19 rfl (Hold.mp (by kernel_rfl) h.out)
  · exact h.elim
theorem T20_z (args : List (A PU)) (objs : List (AObj PU)) (K : A PU → List (AObj PU) → Prop) : ¬ T20 0 args objs K := by
  intro h; unfold T20 at h; split at h <;> (first | exact h | exact h.out)
theorem T20_ok (k : Nat) (args : List (A PU)) (objs : List (AObj PU)) (K : A PU → List (AObj PU) → Prop) (h : T20 (k + 1) args objs K) : RowOk PE (PT k) (PC k) 20 args objs K := by
  unfold T20 at h; split at h
  · exact .fn fnok20 rfl (Hold.mp (by kernel_rfl) h.out)
  · exact .fn fnok20 rfl (Hold.mp (by kernel_rfl) h.out)
  · exact h.elim
theorem T47_z (args : List (A PU)) (objs : List (AObj PU)) (K : A PU → List (AObj PU) → Prop) : ¬ T47 0 args objs K := by
  intro h; unfold T47 at h; split at h <;> (first | exact h | exact h.out)
theorem T47_ok (k : Nat) (args : List (A PU)) (objs : List (AObj PU)) (K : A PU → List (AObj PU) → Prop) (h : T47 (k + 1) args objs K) : RowOk PE (PT k) (PC k) 47 args objs K := by
  unfold T47 at h; split at h
  · exact .fn fnok47 rfl (Hold.mp (by kernel_rfl) h.out)
  · exact h.elim
theorem T34_z (args : List (A PU)) (objs : List (AObj PU)) (K : A PU → List (AObj PU) → Prop) : ¬ T34 0 args objs K := by
  intro h; unfold T34 at h; split at h <;> (first | exact h | exact h.out)
theorem T34_ok (k : Nat) (args : List (A PU)) (objs : List (AObj PU)) (K : A PU → List (AObj PU) → Prop) (h : T34 (k + 1) args objs K) : RowOk PE (PT k) (PC k) 34 args objs K := by
  unfold T34 at h; split at h
  · exact .fn fnok34 rfl (Hold.mp (by kernel_rfl) h.out)
  · exact h.elim
theorem T21_z (args : List (A PU)) (objs : List (AObj PU)) (K : A PU → List (AObj PU) → Prop) : ¬ T21 0 args objs K := by
  intro h; unfold T21 at h; split at h <;> (first | exact h | exact h.out)
theorem T21_ok (k : Nat) (args : List (A PU)) (objs : List (AObj PU)) (K : A PU → List (AObj PU) → Prop) (h : T21 (k + 1) args objs K) : RowOk PE (PT k) (PC k) 21 args objs K := by
  unfold T21 at h; split at h
  · exact .fn fnok21 rfl (Hold.mp (by kernel_rfl) h.out)
  · exact .fn fnok21 rfl (Hold.mp (by kernel_rfl) h.out)
  · exact h.elim
theorem T17_z (args : List (A PU)) (objs : List (AObj PU)) (K : A PU → List (AObj PU) → Prop) : ¬ T17 0 args objs K := by
  intro h; unfold T17 at h; split at h <;> (first | exact h | exact h.out)
theorem T17_ok (k : Nat) (args : List (A PU)) (objs : List (AObj PU)) (K : A PU → List (AObj PU) → Prop) (h : T17 (k + 1) args objs K) : RowOk PE (PT k) (PC k) 17 args objs K := by
  unfold T17 at h; split at h
  · exact .fn fnok17 rfl (Hold.mp (by kernel_rfl) h.out)
  · exact h.elim
theorem T18_z (args : List (A PU)) (objs : List (AObj PU)) (K : A PU → List (AObj PU) → Prop) : ¬ T18 0 args objs K := by
  intro h; unfold T18 at h; split at h <;> (first | exact h | exact h.out)
theorem T18_ok (k : Nat) (args : List (A PU)) (objs : List (AObj PU)) (K : A PU → List (AObj PU) → Prop) (h : T18 (k + 1) args objs K) : RowOk PE (PT k) (PC k) 18 args objs K := by
  unfold T18 at h; split at h
  · exact .fn fnok18 rfl (Hold.mp (by kernel_rfl) h.out)
  · exact h.elim
theorem T8_z (args : List (A PU)) (objs : List (AObj PU)) (K : A PU → List (AObj PU) → Prop) : ¬ T8 0 args objs K := by
  intro h; unfold T8 at h; split at h <;> (first | exact h | exact h.out)
theorem T8_ok (k : Nat) (args : List (A PU)) (objs : List (AObj PU)) (K : A PU → List (AObj PU) → Prop) (h : T8 (k + 1) args objs K) : RowOk PE (PT k) (PC k) 8 args objs K := by
  unfold T8 at h; split at h
  · exact .fn fnok8 rfl (Hold.mp (by kernel_rfl) h.out)
  · exact h.elim
theorem T9_z (args : List (A PU)) (objs : List (AObj PU)) (K : A PU → List (AObj PU) → Prop) : ¬ T9 0 args objs K := by
  intro h; unfold T9 at h; split at h <;> (first | exact h | exact h.out)
theorem T9_ok (k : Nat) (args : List (A PU)) (objs : List (AObj PU)) (K : A PU → List (AObj PU) → Prop) (h : T9 (k + 1) args objs K) : RowOk PE (PT k) (PC k) 9 args objs K := by
  unfold T9 at h; split at h
  · exact .fn fnok9 rfl (Hold.mp (by kernel_rfl) h.out)
  · exact h.elim
theorem T3_z (args : List (A PU)) (objs : List (AObj PU)) (K : A PU → List (AObj PU) → Prop) : ¬ T3 0 args objs K := by
  intro h; unfold T3 at h; split at h <;> (first | exact h | exact h.out)
theorem T3_ok (k : Nat) (args : List (A PU)) (objs : List (AObj PU)) (K : A PU → List (AObj PU) → Prop) (h : T3 (k + 1) args objs K) : RowOk PE (PT k) (PC k) 3 args objs K := by
  unfold T3 at h; split at h
  · exact .fn fnok3 rfl (Hold.mp (by kernel_rfl) h.out)
  · exact h.elim
theorem D50_2_z (nb : Nat) (vals : List (A PU)) (objs : List (AObj PU)) (K : A PU → List (AObj PU) → Prop) : ¬ D50_2 0 nb vals objs K := by
  intro h; unfold D50_2 at h; split at h <;> (first | exact h | exact h.out)
theorem D50_2_ok (k : Nat) (live : List Nat) (hl : cutOf 50 2 PE.cuts = some live) (nb : Nat) (vals : List (A PU)) (objs : List (AObj PU)) (K : A PU → List (AObj PU) → Prop) (h : D50_2 (k + 1) nb vals objs K) : fnOk PE.P 50 = true ∧ Hold (vcut PE (PT k) (PC k) 50 2 live nb vals objs K) := by
  obtain rfl : live = [0, 1, 9, 10, 11] := Option.some.inj (hl.symm.trans (by kernel_rfl : cutOf 50 2 PE.cuts = some [0, 1, 9, 10, 11]))
  refine ⟨fnok50, ?_⟩; unfold D50_2 at h; split at h
  · exact Hold.mp (by kernel_rfl) h.out
  · exact h.elim
theorem D36_4_z (nb : Nat) (vals : List (A PU)) (objs : List (AObj PU)) (K : A PU → List (AObj PU) → Prop) : ¬ D36_4 0 nb vals objs K := by
  intro h; unfold D36_4 at h; split at h <;> (first | exact h | exact h.out)
theorem D36_4_ok (k : Nat) (live : List Nat) (hl : cutOf 36 4 PE.cuts = some live) (nb : Nat) (vals : List (A PU)) (objs : List (AObj PU)) (K : A PU → List (AObj PU) → Prop) (h : D36_4 (k + 1) nb vals objs K) : fnOk PE.P 36 = true ∧ Hold (vcut PE (PT k) (PC k) 36 4 live nb vals objs K) := by
  obtain rfl : live = [0, 9, 10] := Option.some.inj (hl.symm.trans (by kernel_rfl : cutOf 36 4 PE.cuts = some [0, 9, 10]))
  refine ⟨fnok36, ?_⟩; unfold D36_4 at h; split at h
  · exact Hold.mp (by kernel_rfl) h.out
  · exact h.elim
theorem D37_5_z (nb : Nat) (vals : List (A PU)) (objs : List (AObj PU)) (K : A PU → List (AObj PU) → Prop) : ¬ D37_5 0 nb vals objs K := by
  intro h; unfold D37_5 at h; split at h <;> (first | exact h | exact h.out)
theorem D37_5_ok (k : Nat) (live : List Nat) (hl : cutOf 37 5 PE.cuts = some live) (nb : Nat) (vals : List (A PU)) (objs : List (AObj PU)) (K : A PU → List (AObj PU) → Prop) (h : D37_5 (k + 1) nb vals objs K) : fnOk PE.P 37 = true ∧ Hold (vcut PE (PT k) (PC k) 37 5 live nb vals objs K) := by
  obtain rfl : live = [3, 4, 6, 7] := Option.some.inj (hl.symm.trans (by kernel_rfl : cutOf 37 5 PE.cuts = some [3, 4, 6, 7]))
  refine ⟨fnok37, ?_⟩; unfold D37_5 at h; split at h
  · exact Hold.mp (by kernel_rfl) h.out
  · exact h.elim
theorem D37_11_z (nb : Nat) (vals : List (A PU)) (objs : List (AObj PU)) (K : A PU → List (AObj PU) → Prop) : ¬ D37_11 0 nb vals objs K := by
  intro h; unfold D37_11 at h; split at h <;> (first | exact h | exact h.out)
theorem D37_11_ok (k : Nat) (live : List Nat) (hl : cutOf 37 11 PE.cuts = some live) (nb : Nat) (vals : List (A PU)) (objs : List (AObj PU)) (K : A PU → List (AObj PU) → Prop) (h : D37_11 (k + 1) nb vals objs K) : fnOk PE.P 37 = true ∧ Hold (vcut PE (PT k) (PC k) 37 11 live nb vals objs K) := by
  obtain rfl : live = [4] := Option.some.inj (hl.symm.trans (by kernel_rfl : cutOf 37 11 PE.cuts = some [4]))
  refine ⟨fnok37, ?_⟩; unfold D37_11 at h; split at h
  · exact Hold.mp (by kernel_rfl) h.out
  · exact h.elim
theorem D38_3_z (nb : Nat) (vals : List (A PU)) (objs : List (AObj PU)) (K : A PU → List (AObj PU) → Prop) : ¬ D38_3 0 nb vals objs K := by
  intro h; unfold D38_3 at h; split at h <;> (first | exact h | exact h.out)
theorem D38_3_ok (k : Nat) (live : List Nat) (hl : cutOf 38 3 PE.cuts = some live) (nb : Nat) (vals : List (A PU)) (objs : List (AObj PU)) (K : A PU → List (AObj PU) → Prop) (h : D38_3 (k + 1) nb vals objs K) : fnOk PE.P 38 = true ∧ Hold (vcut PE (PT k) (PC k) 38 3 live nb vals objs K) := by
  obtain rfl : live = [0, 2, 4] := Option.some.inj (hl.symm.trans (by kernel_rfl : cutOf 38 3 PE.cuts = some [0, 2, 4]))
  refine ⟨fnok38, ?_⟩; unfold D38_3 at h; split at h
  · exact Hold.mp (by kernel_rfl) h.out
  · exact h.elim
theorem D38_8_z (nb : Nat) (vals : List (A PU)) (objs : List (AObj PU)) (K : A PU → List (AObj PU) → Prop) : ¬ D38_8 0 nb vals objs K := by
  intro h; unfold D38_8 at h; split at h <;> (first | exact h | exact h.out)
theorem D38_8_ok (k : Nat) (live : List Nat) (hl : cutOf 38 8 PE.cuts = some live) (nb : Nat) (vals : List (A PU)) (objs : List (AObj PU)) (K : A PU → List (AObj PU) → Prop) (h : D38_8 (k + 1) nb vals objs K) : fnOk PE.P 38 = true ∧ Hold (vcut PE (PT k) (PC k) 38 8 live nb vals objs K) := by
  obtain rfl : live = [0, 2, 4] := Option.some.inj (hl.symm.trans (by kernel_rfl : cutOf 38 8 PE.cuts = some [0, 2, 4]))
  refine ⟨fnok38, ?_⟩; unfold D38_8 at h; split at h
  · exact Hold.mp (by kernel_rfl) h.out
  · exact Hold.mp (by kernel_rfl) h.out
  · exact h.elim
theorem D38_9_z (nb : Nat) (vals : List (A PU)) (objs : List (AObj PU)) (K : A PU → List (AObj PU) → Prop) : ¬ D38_9 0 nb vals objs K := by
  intro h; unfold D38_9 at h; split at h <;> (first | exact h | exact h.out)
theorem D38_9_ok (k : Nat) (live : List Nat) (hl : cutOf 38 9 PE.cuts = some live) (nb : Nat) (vals : List (A PU)) (objs : List (AObj PU)) (K : A PU → List (AObj PU) → Prop) (h : D38_9 (k + 1) nb vals objs K) : fnOk PE.P 38 = true ∧ Hold (vcut PE (PT k) (PC k) 38 9 live nb vals objs K) := by
  obtain rfl : live = [2, 4, 8] := Option.some.inj (hl.symm.trans (by kernel_rfl : cutOf 38 9 PE.cuts = some [2, 4, 8]))
  refine ⟨fnok38, ?_⟩; unfold D38_9 at h; split at h
  · exact Hold.mp (by kernel_rfl) h.out
  · exact h.elim
theorem D23_9_z (nb : Nat) (vals : List (A PU)) (objs : List (AObj PU)) (K : A PU → List (AObj PU) → Prop) : ¬ D23_9 0 nb vals objs K := by
  intro h; unfold D23_9 at h; split at h <;> (first | exact h | exact h.out)
theorem D23_9_ok (k : Nat) (live : List Nat) (hl : cutOf 23 9 PE.cuts = some live) (nb : Nat) (vals : List (A PU)) (objs : List (AObj PU)) (K : A PU → List (AObj PU) → Prop) (h : D23_9 (k + 1) nb vals objs K) : fnOk PE.P 23 = true ∧ Hold (vcut PE (PT k) (PC k) 23 9 live nb vals objs K) := by
  obtain rfl : live = [0, 5, 6, 29, 30, 31] := Option.some.inj (hl.symm.trans (by kernel_rfl : cutOf 23 9 PE.cuts = some [0, 5, 6, 29, 30, 31]))
  refine ⟨fnok23, ?_⟩; unfold D23_9 at h; split at h
  · exact Hold.mp (by kernel_rfl) h.out
  · exact Hold.mp (by kernel_rfl) h.out
  · exact h.elim
theorem D55_2_z (nb : Nat) (vals : List (A PU)) (objs : List (AObj PU)) (K : A PU → List (AObj PU) → Prop) : ¬ D55_2 0 nb vals objs K := by
  intro h; unfold D55_2 at h; split at h <;> (first | exact h | exact h.out)
theorem D55_2_ok (k : Nat) (live : List Nat) (hl : cutOf 55 2 PE.cuts = some live) (nb : Nat) (vals : List (A PU)) (objs : List (AObj PU)) (K : A PU → List (AObj PU) → Prop) (h : D55_2 (k + 1) nb vals objs K) : fnOk PE.P 55 = true ∧ Hold (vcut PE (PT k) (PC k) 55 2 live nb vals objs K) := by
  obtain rfl : live = [0, 2, 25] := Option.some.inj (hl.symm.trans (by kernel_rfl : cutOf 55 2 PE.cuts = some [0, 2, 25]))
  refine ⟨fnok55, ?_⟩; unfold D55_2 at h; split at h
  · exact Hold.mp (by kernel_rfl) h.out
  · exact h.elim
theorem D55_11_z (nb : Nat) (vals : List (A PU)) (objs : List (AObj PU)) (K : A PU → List (AObj PU) → Prop) : ¬ D55_11 0 nb vals objs K := by
  intro h; unfold D55_11 at h; split at h <;> (first | exact h | exact h.out)
theorem D55_11_ok (k : Nat) (live : List Nat) (hl : cutOf 55 11 PE.cuts = some live) (nb : Nat) (vals : List (A PU)) (objs : List (AObj PU)) (K : A PU → List (AObj PU) → Prop) (h : D55_11 (k + 1) nb vals objs K) : fnOk PE.P 55 = true ∧ Hold (vcut PE (PT k) (PC k) 55 11 live nb vals objs K) := by
  obtain rfl : live = [0, 2, 25] := Option.some.inj (hl.symm.trans (by kernel_rfl : cutOf 55 11 PE.cuts = some [0, 2, 25]))
  refine ⟨fnok55, ?_⟩; unfold D55_11 at h; split at h
  · exact Hold.mp (by kernel_rfl) h.out
  · exact h.elim
theorem D55_14_z (nb : Nat) (vals : List (A PU)) (objs : List (AObj PU)) (K : A PU → List (AObj PU) → Prop) : ¬ D55_14 0 nb vals objs K := by
  intro h; unfold D55_14 at h; split at h <;> (first | exact h | exact h.out)
theorem D55_14_ok (k : Nat) (live : List Nat) (hl : cutOf 55 14 PE.cuts = some live) (nb : Nat) (vals : List (A PU)) (objs : List (AObj PU)) (K : A PU → List (AObj PU) → Prop) (h : D55_14 (k + 1) nb vals objs K) : fnOk PE.P 55 = true ∧ Hold (vcut PE (PT k) (PC k) 55 14 live nb vals objs K) := by
  obtain rfl : live = [0, 9, 10, 11, 12, 13, 14, 15, 16, 140, 141] := Option.some.inj (hl.symm.trans (by kernel_rfl : cutOf 55 14 PE.cuts = some [0, 9, 10, 11, 12, 13, 14, 15, 16, 140, 141]))
  refine ⟨fnok55, ?_⟩; unfold D55_14 at h; split at h
  · exact Hold.mp (by kernel_rfl) h.out
  · exact h.elim
theorem D55_23_z (nb : Nat) (vals : List (A PU)) (objs : List (AObj PU)) (K : A PU → List (AObj PU) → Prop) : ¬ D55_23 0 nb vals objs K := by
  intro h; unfold D55_23 at h; split at h <;> (first | exact h | exact h.out)
theorem D55_23_ok (k : Nat) (live : List Nat) (hl : cutOf 55 23 PE.cuts = some live) (nb : Nat) (vals : List (A PU)) (objs : List (AObj PU)) (K : A PU → List (AObj PU) → Prop) (h : D55_23 (k + 1) nb vals objs K) : fnOk PE.P 55 = true ∧ Hold (vcut PE (PT k) (PC k) 55 23 live nb vals objs K) := by
  obtain rfl : live = [0, 210, 211] := Option.some.inj (hl.symm.trans (by kernel_rfl : cutOf 55 23 PE.cuts = some [0, 210, 211]))
  refine ⟨fnok55, ?_⟩; unfold D55_23 at h; split at h
  · exact Hold.mp (by kernel_rfl) h.out
  · exact h.elim
theorem D42_3_z (nb : Nat) (vals : List (A PU)) (objs : List (AObj PU)) (K : A PU → List (AObj PU) → Prop) : ¬ D42_3 0 nb vals objs K := by
  intro h; unfold D42_3 at h; split at h <;> (first | exact h | exact h.out)
theorem D42_3_ok (k : Nat) (live : List Nat) (hl : cutOf 42 3 PE.cuts = some live) (nb : Nat) (vals : List (A PU)) (objs : List (AObj PU)) (K : A PU → List (AObj PU) → Prop) (h : D42_3 (k + 1) nb vals objs K) : fnOk PE.P 42 = true ∧ Hold (vcut PE (PT k) (PC k) 42 3 live nb vals objs K) := by
  obtain rfl : live = [0, 1] := Option.some.inj (hl.symm.trans (by kernel_rfl : cutOf 42 3 PE.cuts = some [0, 1]))
  refine ⟨fnok42, ?_⟩; unfold D42_3 at h; split at h
  · exact Hold.mp (by kernel_rfl) h.out
  · exact h.elim
theorem D44_9_z (nb : Nat) (vals : List (A PU)) (objs : List (AObj PU)) (K : A PU → List (AObj PU) → Prop) : ¬ D44_9 0 nb vals objs K := by
  intro h; unfold D44_9 at h; split at h <;> (first | exact h | exact h.out)
theorem D44_9_ok (k : Nat) (live : List Nat) (hl : cutOf 44 9 PE.cuts = some live) (nb : Nat) (vals : List (A PU)) (objs : List (AObj PU)) (K : A PU → List (AObj PU) → Prop) (h : D44_9 (k + 1) nb vals objs K) : fnOk PE.P 44 = true ∧ Hold (vcut PE (PT k) (PC k) 44 9 live nb vals objs K) := by
  obtain rfl : live = [0, 2, 3, 4, 5, 6, 22] := Option.some.inj (hl.symm.trans (by kernel_rfl : cutOf 44 9 PE.cuts = some [0, 2, 3, 4, 5, 6, 22]))
  refine ⟨fnok44, ?_⟩; unfold D44_9 at h; split at h
  · exact Hold.mp (by kernel_rfl) h.out
  · exact h.elim
theorem D44_15_z (nb : Nat) (vals : List (A PU)) (objs : List (AObj PU)) (K : A PU → List (AObj PU) → Prop) : ¬ D44_15 0 nb vals objs K := by
  intro h; unfold D44_15 at h; split at h <;> (first | exact h | exact h.out)
theorem D44_15_ok (k : Nat) (live : List Nat) (hl : cutOf 44 15 PE.cuts = some live) (nb : Nat) (vals : List (A PU)) (objs : List (AObj PU)) (K : A PU → List (AObj PU) → Prop) (h : D44_15 (k + 1) nb vals objs K) : fnOk PE.P 44 = true ∧ Hold (vcut PE (PT k) (PC k) 44 15 live nb vals objs K) := by
  obtain rfl : live = [2, 3, 4, 45] := Option.some.inj (hl.symm.trans (by kernel_rfl : cutOf 44 15 PE.cuts = some [2, 3, 4, 45]))
  refine ⟨fnok44, ?_⟩; unfold D44_15 at h; split at h
  · exact Hold.mp (by kernel_rfl) h.out
  · exact h.elim
theorem D43_4_z (nb : Nat) (vals : List (A PU)) (objs : List (AObj PU)) (K : A PU → List (AObj PU) → Prop) : ¬ D43_4 0 nb vals objs K := by
  intro h; unfold D43_4 at h; split at h <;> (first | exact h | exact h.out)
theorem D43_4_ok (k : Nat) (live : List Nat) (hl : cutOf 43 4 PE.cuts = some live) (nb : Nat) (vals : List (A PU)) (objs : List (AObj PU)) (K : A PU → List (AObj PU) → Prop) (h : D43_4 (k + 1) nb vals objs K) : fnOk PE.P 43 = true ∧ Hold (vcut PE (PT k) (PC k) 43 4 live nb vals objs K) := by
  obtain rfl : live = [4, 5] := Option.some.inj (hl.symm.trans (by kernel_rfl : cutOf 43 4 PE.cuts = some [4, 5]))
  refine ⟨fnok43, ?_⟩; unfold D43_4 at h; split at h
  · exact Hold.mp (by kernel_rfl) h.out
  · exact h.elim
theorem D30_4_z (nb : Nat) (vals : List (A PU)) (objs : List (AObj PU)) (K : A PU → List (AObj PU) → Prop) : ¬ D30_4 0 nb vals objs K := by
  intro h; unfold D30_4 at h; split at h <;> (first | exact h | exact h.out)
theorem D30_4_ok (k : Nat) (live : List Nat) (hl : cutOf 30 4 PE.cuts = some live) (nb : Nat) (vals : List (A PU)) (objs : List (AObj PU)) (K : A PU → List (AObj PU) → Prop) (h : D30_4 (k + 1) nb vals objs K) : fnOk PE.P 30 = true ∧ Hold (vcut PE (PT k) (PC k) 30 4 live nb vals objs K) := by
  obtain rfl : live = [0, 6, 7, 15, 16, 17] := Option.some.inj (hl.symm.trans (by kernel_rfl : cutOf 30 4 PE.cuts = some [0, 6, 7, 15, 16, 17]))
  refine ⟨fnok30, ?_⟩; unfold D30_4 at h; split at h
  · exact Hold.mp (by kernel_rfl) h.out
  · exact Hold.mp (by kernel_rfl) h.out
  · exact h.elim
theorem D10_2_z (nb : Nat) (vals : List (A PU)) (objs : List (AObj PU)) (K : A PU → List (AObj PU) → Prop) : ¬ D10_2 0 nb vals objs K := by
  intro h; unfold D10_2 at h; split at h <;> (first | exact h | exact h.out)
theorem D10_2_ok (k : Nat) (live : List Nat) (hl : cutOf 10 2 PE.cuts = some live) (nb : Nat) (vals : List (A PU)) (objs : List (AObj PU)) (K : A PU → List (AObj PU) → Prop) (h : D10_2 (k + 1) nb vals objs K) : fnOk PE.P 10 = true ∧ Hold (vcut PE (PT k) (PC k) 10 2 live nb vals objs K) := by
  obtain rfl : live = [1, 4, 6, 7] := Option.some.inj (hl.symm.trans (by kernel_rfl : cutOf 10 2 PE.cuts = some [1, 4, 6, 7]))
  refine ⟨fnok10, ?_⟩; unfold D10_2 at h; split at h
  · exact Hold.mp (by kernel_rfl) h.out
  · exact Hold.mp (by kernel_rfl) h.out
  · exact Hold.mp (by kernel_rfl) h.out
  · exact Hold.mp (by kernel_rfl) h.out
  · exact h.elim
theorem D10_3_z (nb : Nat) (vals : List (A PU)) (objs : List (AObj PU)) (K : A PU → List (AObj PU) → Prop) : ¬ D10_3 0 nb vals objs K := by
  intro h; unfold D10_3 at h; split at h <;> (first | exact h | exact h.out)
theorem D10_3_ok (k : Nat) (live : List Nat) (hl : cutOf 10 3 PE.cuts = some live) (nb : Nat) (vals : List (A PU)) (objs : List (AObj PU)) (K : A PU → List (AObj PU) → Prop) (h : D10_3 (k + 1) nb vals objs K) : fnOk PE.P 10 = true ∧ Hold (vcut PE (PT k) (PC k) 10 3 live nb vals objs K) := by
  obtain rfl : live = [4, 7] := Option.some.inj (hl.symm.trans (by kernel_rfl : cutOf 10 3 PE.cuts = some [4, 7]))
  refine ⟨fnok10, ?_⟩; unfold D10_3 at h; split at h
  · exact Hold.mp (by kernel_rfl) h.out
  · exact h.elim
theorem D10_4_z (nb : Nat) (vals : List (A PU)) (objs : List (AObj PU)) (K : A PU → List (AObj PU) → Prop) : ¬ D10_4 0 nb vals objs K := by
  intro h; unfold D10_4 at h; split at h <;> (first | exact h | exact h.out)
theorem D10_4_ok (k : Nat) (live : List Nat) (hl : cutOf 10 4 PE.cuts = some live) (nb : Nat) (vals : List (A PU)) (objs : List (AObj PU)) (K : A PU → List (AObj PU) → Prop) (h : D10_4 (k + 1) nb vals objs K) : fnOk PE.P 10 = true ∧ Hold (vcut PE (PT k) (PC k) 10 4 live nb vals objs K) := by
  obtain rfl : live = [1, 4, 6] := Option.some.inj (hl.symm.trans (by kernel_rfl : cutOf 10 4 PE.cuts = some [1, 4, 6]))
  refine ⟨fnok10, ?_⟩; unfold D10_4 at h; split at h
  · exact Hold.mp (by kernel_rfl) h.out
  · exact Hold.mp (by kernel_rfl) h.out
  · exact Hold.mp (by kernel_rfl) h.out
  · exact Hold.mp (by kernel_rfl) h.out
  · exact h.elim
theorem D10_5_z (nb : Nat) (vals : List (A PU)) (objs : List (AObj PU)) (K : A PU → List (AObj PU) → Prop) : ¬ D10_5 0 nb vals objs K := by
  intro h; unfold D10_5 at h; split at h <;> (first | exact h | exact h.out)
theorem D10_5_ok (k : Nat) (live : List Nat) (hl : cutOf 10 5 PE.cuts = some live) (nb : Nat) (vals : List (A PU)) (objs : List (AObj PU)) (K : A PU → List (AObj PU) → Prop) (h : D10_5 (k + 1) nb vals objs K) : fnOk PE.P 10 = true ∧ Hold (vcut PE (PT k) (PC k) 10 5 live nb vals objs K) := by
  obtain rfl : live = [4, 6, 8] := Option.some.inj (hl.symm.trans (by kernel_rfl : cutOf 10 5 PE.cuts = some [4, 6, 8]))
  refine ⟨fnok10, ?_⟩; unfold D10_5 at h; split at h
  · exact Hold.mp (by kernel_rfl) h.out
  · exact Hold.mp (by kernel_rfl) h.out
  · exact h.elim
theorem D10_6_z (nb : Nat) (vals : List (A PU)) (objs : List (AObj PU)) (K : A PU → List (AObj PU) → Prop) : ¬ D10_6 0 nb vals objs K := by
  intro h; unfold D10_6 at h; split at h <;> (first | exact h | exact h.out)
theorem D10_6_ok (k : Nat) (live : List Nat) (hl : cutOf 10 6 PE.cuts = some live) (nb : Nat) (vals : List (A PU)) (objs : List (AObj PU)) (K : A PU → List (AObj PU) → Prop) (h : D10_6 (k + 1) nb vals objs K) : fnOk PE.P 10 = true ∧ Hold (vcut PE (PT k) (PC k) 10 6 live nb vals objs K) := by
  obtain rfl : live = [4, 8] := Option.some.inj (hl.symm.trans (by kernel_rfl : cutOf 10 6 PE.cuts = some [4, 8]))
  refine ⟨fnok10, ?_⟩; unfold D10_6 at h; split at h
  · exact Hold.mp (by kernel_rfl) h.out
  · exact h.elim
theorem D27_2_z (nb : Nat) (vals : List (A PU)) (objs : List (AObj PU)) (K : A PU → List (AObj PU) → Prop) : ¬ D27_2 0 nb vals objs K := by
  intro h; unfold D27_2 at h; split at h <;> (first | exact h | exact h.out)
theorem D27_2_ok (k : Nat) (live : List Nat) (hl : cutOf 27 2 PE.cuts = some live) (nb : Nat) (vals : List (A PU)) (objs : List (AObj PU)) (K : A PU → List (AObj PU) → Prop) (h : D27_2 (k + 1) nb vals objs K) : fnOk PE.P 27 = true ∧ Hold (vcut PE (PT k) (PC k) 27 2 live nb vals objs K) := by
  obtain rfl : live = [0, 1, 7, 8] := Option.some.inj (hl.symm.trans (by kernel_rfl : cutOf 27 2 PE.cuts = some [0, 1, 7, 8]))
  refine ⟨fnok27, ?_⟩; unfold D27_2 at h; split at h
  · exact Hold.mp (by kernel_rfl) h.out
  · exact h.elim
theorem D13_11_z (nb : Nat) (vals : List (A PU)) (objs : List (AObj PU)) (K : A PU → List (AObj PU) → Prop) : ¬ D13_11 0 nb vals objs K := by
  intro h; unfold D13_11 at h; split at h <;> (first | exact h | exact h.out)
theorem D13_11_ok (k : Nat) (live : List Nat) (hl : cutOf 13 11 PE.cuts = some live) (nb : Nat) (vals : List (A PU)) (objs : List (AObj PU)) (K : A PU → List (AObj PU) → Prop) (h : D13_11 (k + 1) nb vals objs K) : fnOk PE.P 13 = true ∧ Hold (vcut PE (PT k) (PC k) 13 11 live nb vals objs K) := by
  obtain rfl : live = [0, 5, 6, 8, 9, 39, 40, 41] := Option.some.inj (hl.symm.trans (by kernel_rfl : cutOf 13 11 PE.cuts = some [0, 5, 6, 8, 9, 39, 40, 41]))
  refine ⟨fnok13, ?_⟩; unfold D13_11 at h; split at h
  · exact Hold.mp (by kernel_rfl) h.out
  · exact h.elim
theorem D13_16_z (nb : Nat) (vals : List (A PU)) (objs : List (AObj PU)) (K : A PU → List (AObj PU) → Prop) : ¬ D13_16 0 nb vals objs K := by
  intro h; unfold D13_16 at h; split at h <;> (first | exact h | exact h.out)
theorem D13_16_ok (k : Nat) (live : List Nat) (hl : cutOf 13 16 PE.cuts = some live) (nb : Nat) (vals : List (A PU)) (objs : List (AObj PU)) (K : A PU → List (AObj PU) → Prop) (h : D13_16 (k + 1) nb vals objs K) : fnOk PE.P 13 = true ∧ Hold (vcut PE (PT k) (PC k) 13 16 live nb vals objs K) := by
  obtain rfl : live = [0, 5, 6, 8, 9, 39, 40, 41] := Option.some.inj (hl.symm.trans (by kernel_rfl : cutOf 13 16 PE.cuts = some [0, 5, 6, 8, 9, 39, 40, 41]))
  refine ⟨fnok13, ?_⟩; unfold D13_16 at h; split at h
  · exact Hold.mp (by kernel_rfl) h.out
  · exact h.elim
theorem D4_6_z (nb : Nat) (vals : List (A PU)) (objs : List (AObj PU)) (K : A PU → List (AObj PU) → Prop) : ¬ D4_6 0 nb vals objs K := by
  intro h; unfold D4_6 at h; split at h <;> (first | exact h | exact h.out)
theorem D4_6_ok (k : Nat) (live : List Nat) (hl : cutOf 4 6 PE.cuts = some live) (nb : Nat) (vals : List (A PU)) (objs : List (AObj PU)) (K : A PU → List (AObj PU) → Prop) (h : D4_6 (k + 1) nb vals objs K) : fnOk PE.P 4 = true ∧ Hold (vcut PE (PT k) (PC k) 4 6 live nb vals objs K) := by
  obtain rfl : live = [0, 5, 6, 7, 11, 12] := Option.some.inj (hl.symm.trans (by kernel_rfl : cutOf 4 6 PE.cuts = some [0, 5, 6, 7, 11, 12]))
  refine ⟨fnok4, ?_⟩; unfold D4_6 at h; split at h
  · exact Hold.mp (by kernel_rfl) h.out
  · exact h.elim
theorem D4_10_z (nb : Nat) (vals : List (A PU)) (objs : List (AObj PU)) (K : A PU → List (AObj PU) → Prop) : ¬ D4_10 0 nb vals objs K := by
  intro h; unfold D4_10 at h; split at h <;> (first | exact h | exact h.out)
theorem D4_10_ok (k : Nat) (live : List Nat) (hl : cutOf 4 10 PE.cuts = some live) (nb : Nat) (vals : List (A PU)) (objs : List (AObj PU)) (K : A PU → List (AObj PU) → Prop) (h : D4_10 (k + 1) nb vals objs K) : fnOk PE.P 4 = true ∧ Hold (vcut PE (PT k) (PC k) 4 10 live nb vals objs K) := by
  obtain rfl : live = [0, 5, 6, 7, 12, 13, 14, 35, 36, 37] := Option.some.inj (hl.symm.trans (by kernel_rfl : cutOf 4 10 PE.cuts = some [0, 5, 6, 7, 12, 13, 14, 35, 36, 37]))
  refine ⟨fnok4, ?_⟩; unfold D4_10 at h; split at h
  · exact Hold.mp (by kernel_rfl) h.out
  · exact h.elim
theorem D4_15_z (nb : Nat) (vals : List (A PU)) (objs : List (AObj PU)) (K : A PU → List (AObj PU) → Prop) : ¬ D4_15 0 nb vals objs K := by
  intro h; unfold D4_15 at h; split at h <;> (first | exact h | exact h.out)
theorem D4_15_ok (k : Nat) (live : List Nat) (hl : cutOf 4 15 PE.cuts = some live) (nb : Nat) (vals : List (A PU)) (objs : List (AObj PU)) (K : A PU → List (AObj PU) → Prop) (h : D4_15 (k + 1) nb vals objs K) : fnOk PE.P 4 = true ∧ Hold (vcut PE (PT k) (PC k) 4 15 live nb vals objs K) := by
  obtain rfl : live = [0, 5, 6, 7, 12, 13, 14, 35, 36, 37] := Option.some.inj (hl.symm.trans (by kernel_rfl : cutOf 4 15 PE.cuts = some [0, 5, 6, 7, 12, 13, 14, 35, 36, 37]))
  refine ⟨fnok4, ?_⟩; unfold D4_15 at h; split at h
  · exact Hold.mp (by kernel_rfl) h.out
  · exact h.elim
theorem D4_22_z (nb : Nat) (vals : List (A PU)) (objs : List (AObj PU)) (K : A PU → List (AObj PU) → Prop) : ¬ D4_22 0 nb vals objs K := by
  intro h; unfold D4_22 at h; split at h <;> (first | exact h | exact h.out)
theorem D4_22_ok (k : Nat) (live : List Nat) (hl : cutOf 4 22 PE.cuts = some live) (nb : Nat) (vals : List (A PU)) (objs : List (AObj PU)) (K : A PU → List (AObj PU) → Prop) (h : D4_22 (k + 1) nb vals objs K) : fnOk PE.P 4 = true ∧ Hold (vcut PE (PT k) (PC k) 4 22 live nb vals objs K) := by
  obtain rfl : live = [6, 7] := Option.some.inj (hl.symm.trans (by kernel_rfl : cutOf 4 22 PE.cuts = some [6, 7]))
  refine ⟨fnok4, ?_⟩; unfold D4_22 at h; split at h
  · exact Hold.mp (by kernel_rfl) h.out
  · exact h.elim
theorem D6_2_z (nb : Nat) (vals : List (A PU)) (objs : List (AObj PU)) (K : A PU → List (AObj PU) → Prop) : ¬ D6_2 0 nb vals objs K := by
  intro h; unfold D6_2 at h; split at h <;> (first | exact h | exact h.out)
theorem D6_2_ok (k : Nat) (live : List Nat) (hl : cutOf 6 2 PE.cuts = some live) (nb : Nat) (vals : List (A PU)) (objs : List (AObj PU)) (K : A PU → List (AObj PU) → Prop) (h : D6_2 (k + 1) nb vals objs K) : fnOk PE.P 6 = true ∧ Hold (vcut PE (PT k) (PC k) 6 2 live nb vals objs K) := by
  obtain rfl : live = [0, 3] := Option.some.inj (hl.symm.trans (by kernel_rfl : cutOf 6 2 PE.cuts = some [0, 3]))
  refine ⟨fnok6, ?_⟩; unfold D6_2 at h; split at h
  · exact Hold.mp (by kernel_rfl) h.out
  · exact h.elim
theorem D6_5_z (nb : Nat) (vals : List (A PU)) (objs : List (AObj PU)) (K : A PU → List (AObj PU) → Prop) : ¬ D6_5 0 nb vals objs K := by
  intro h; unfold D6_5 at h; split at h <;> (first | exact h | exact h.out)
theorem D6_5_ok (k : Nat) (live : List Nat) (hl : cutOf 6 5 PE.cuts = some live) (nb : Nat) (vals : List (A PU)) (objs : List (AObj PU)) (K : A PU → List (AObj PU) → Prop) (h : D6_5 (k + 1) nb vals objs K) : fnOk PE.P 6 = true ∧ Hold (vcut PE (PT k) (PC k) 6 5 live nb vals objs K) := by
  obtain rfl : live = [0, 3, 4] := Option.some.inj (hl.symm.trans (by kernel_rfl : cutOf 6 5 PE.cuts = some [0, 3, 4]))
  refine ⟨fnok6, ?_⟩; unfold D6_5 at h; split at h
  · exact Hold.mp (by kernel_rfl) h.out
  · exact h.elim
theorem D63_4_z (nb : Nat) (vals : List (A PU)) (objs : List (AObj PU)) (K : A PU → List (AObj PU) → Prop) : ¬ D63_4 0 nb vals objs K := by
  intro h; unfold D63_4 at h; split at h <;> (first | exact h | exact h.out)
theorem D63_4_ok (k : Nat) (live : List Nat) (hl : cutOf 63 4 PE.cuts = some live) (nb : Nat) (vals : List (A PU)) (objs : List (AObj PU)) (K : A PU → List (AObj PU) → Prop) (h : D63_4 (k + 1) nb vals objs K) : fnOk PE.P 63 = true ∧ Hold (vcut PE (PT k) (PC k) 63 4 live nb vals objs K) := by
  obtain rfl : live = [0, 3] := Option.some.inj (hl.symm.trans (by kernel_rfl : cutOf 63 4 PE.cuts = some [0, 3]))
  refine ⟨fnok63, ?_⟩; unfold D63_4 at h; split at h
  · exact Hold.mp (by kernel_rfl) h.out
  · exact h.elim
theorem D63_8_z (nb : Nat) (vals : List (A PU)) (objs : List (AObj PU)) (K : A PU → List (AObj PU) → Prop) : ¬ D63_8 0 nb vals objs K := by
  intro h; unfold D63_8 at h; split at h <;> (first | exact h | exact h.out)
theorem D63_8_ok (k : Nat) (live : List Nat) (hl : cutOf 63 8 PE.cuts = some live) (nb : Nat) (vals : List (A PU)) (objs : List (AObj PU)) (K : A PU → List (AObj PU) → Prop) (h : D63_8 (k + 1) nb vals objs K) : fnOk PE.P 63 = true ∧ Hold (vcut PE (PT k) (PC k) 63 8 live nb vals objs K) := by
  obtain rfl : live = [3, 4, 5] := Option.some.inj (hl.symm.trans (by kernel_rfl : cutOf 63 8 PE.cuts = some [3, 4, 5]))
  refine ⟨fnok63, ?_⟩; unfold D63_8 at h; split at h
  · exact Hold.mp (by kernel_rfl) h.out
  · exact h.elim
theorem D65_3_z (nb : Nat) (vals : List (A PU)) (objs : List (AObj PU)) (K : A PU → List (AObj PU) → Prop) : ¬ D65_3 0 nb vals objs K := by
  intro h; unfold D65_3 at h; split at h <;> (first | exact h | exact h.out)
theorem D65_3_ok (k : Nat) (live : List Nat) (hl : cutOf 65 3 PE.cuts = some live) (nb : Nat) (vals : List (A PU)) (objs : List (AObj PU)) (K : A PU → List (AObj PU) → Prop) (h : D65_3 (k + 1) nb vals objs K) : fnOk PE.P 65 = true ∧ Hold (vcut PE (PT k) (PC k) 65 3 live nb vals objs K) := by
  obtain rfl : live = [1, 2, 4, 5, 6] := Option.some.inj (hl.symm.trans (by kernel_rfl : cutOf 65 3 PE.cuts = some [1, 2, 4, 5, 6]))
  refine ⟨fnok65, ?_⟩; unfold D65_3 at h; split at h
  · exact Hold.mp (by kernel_rfl) h.out
  · exact h.elim
theorem D65_7_z (nb : Nat) (vals : List (A PU)) (objs : List (AObj PU)) (K : A PU → List (AObj PU) → Prop) : ¬ D65_7 0 nb vals objs K := by
  intro h; unfold D65_7 at h; split at h <;> (first | exact h | exact h.out)
theorem D65_7_ok (k : Nat) (live : List Nat) (hl : cutOf 65 7 PE.cuts = some live) (nb : Nat) (vals : List (A PU)) (objs : List (AObj PU)) (K : A PU → List (AObj PU) → Prop) (h : D65_7 (k + 1) nb vals objs K) : fnOk PE.P 65 = true ∧ Hold (vcut PE (PT k) (PC k) 65 7 live nb vals objs K) := by
  obtain rfl : live = [2, 4, 5, 7] := Option.some.inj (hl.symm.trans (by kernel_rfl : cutOf 65 7 PE.cuts = some [2, 4, 5, 7]))
  refine ⟨fnok65, ?_⟩; unfold D65_7 at h; split at h
  · exact Hold.mp (by kernel_rfl) h.out
  · exact h.elim
theorem D65_14_z (nb : Nat) (vals : List (A PU)) (objs : List (AObj PU)) (K : A PU → List (AObj PU) → Prop) : ¬ D65_14 0 nb vals objs K := by
  intro h; unfold D65_14 at h; split at h <;> (first | exact h | exact h.out)
theorem D65_14_ok (k : Nat) (live : List Nat) (hl : cutOf 65 14 PE.cuts = some live) (nb : Nat) (vals : List (A PU)) (objs : List (AObj PU)) (K : A PU → List (AObj PU) → Prop) (h : D65_14 (k + 1) nb vals objs K) : fnOk PE.P 65 = true ∧ Hold (vcut PE (PT k) (PC k) 65 14 live nb vals objs K) := by
  obtain rfl : live = [2, 4, 5, 10, 11] := Option.some.inj (hl.symm.trans (by kernel_rfl : cutOf 65 14 PE.cuts = some [2, 4, 5, 10, 11]))
  refine ⟨fnok65, ?_⟩; unfold D65_14 at h; split at h
  · exact Hold.mp (by kernel_rfl) h.out
  · exact h.elim
theorem D65_22_z (nb : Nat) (vals : List (A PU)) (objs : List (AObj PU)) (K : A PU → List (AObj PU) → Prop) : ¬ D65_22 0 nb vals objs K := by
  intro h; unfold D65_22 at h; split at h <;> (first | exact h | exact h.out)
theorem D65_22_ok (k : Nat) (live : List Nat) (hl : cutOf 65 22 PE.cuts = some live) (nb : Nat) (vals : List (A PU)) (objs : List (AObj PU)) (K : A PU → List (AObj PU) → Prop) (h : D65_22 (k + 1) nb vals objs K) : fnOk PE.P 65 = true ∧ Hold (vcut PE (PT k) (PC k) 65 22 live nb vals objs K) := by
  obtain rfl : live = [2, 4, 10, 16] := Option.some.inj (hl.symm.trans (by kernel_rfl : cutOf 65 22 PE.cuts = some [2, 4, 10, 16]))
  refine ⟨fnok65, ?_⟩; unfold D65_22 at h; split at h
  · exact Hold.mp (by kernel_rfl) h.out
  · exact h.elim
theorem D56_4_z (nb : Nat) (vals : List (A PU)) (objs : List (AObj PU)) (K : A PU → List (AObj PU) → Prop) : ¬ D56_4 0 nb vals objs K := by
  intro h; unfold D56_4 at h; split at h <;> (first | exact h | exact h.out)
theorem D56_4_ok (k : Nat) (live : List Nat) (hl : cutOf 56 4 PE.cuts = some live) (nb : Nat) (vals : List (A PU)) (objs : List (AObj PU)) (K : A PU → List (AObj PU) → Prop) (h : D56_4 (k + 1) nb vals objs K) : fnOk PE.P 56 = true ∧ Hold (vcut PE (PT k) (PC k) 56 4 live nb vals objs K) := by
  obtain rfl : live = [2, 3, 4, 5] := Option.some.inj (hl.symm.trans (by kernel_rfl : cutOf 56 4 PE.cuts = some [2, 3, 4, 5]))
  refine ⟨fnok56, ?_⟩; unfold D56_4 at h; split at h
  · exact Hold.mp (by kernel_rfl) h.out
  · exact h.elim
theorem D56_9_z (nb : Nat) (vals : List (A PU)) (objs : List (AObj PU)) (K : A PU → List (AObj PU) → Prop) : ¬ D56_9 0 nb vals objs K := by
  intro h; unfold D56_9 at h; split at h <;> (first | exact h | exact h.out)
theorem D56_9_ok (k : Nat) (live : List Nat) (hl : cutOf 56 9 PE.cuts = some live) (nb : Nat) (vals : List (A PU)) (objs : List (AObj PU)) (K : A PU → List (AObj PU) → Prop) (h : D56_9 (k + 1) nb vals objs K) : fnOk PE.P 56 = true ∧ Hold (vcut PE (PT k) (PC k) 56 9 live nb vals objs K) := by
  obtain rfl : live = [2, 4, 6, 7] := Option.some.inj (hl.symm.trans (by kernel_rfl : cutOf 56 9 PE.cuts = some [2, 4, 6, 7]))
  refine ⟨fnok56, ?_⟩; unfold D56_9 at h; split at h
  · exact Hold.mp (by kernel_rfl) h.out
  · exact h.elim
theorem D45_6_z (nb : Nat) (vals : List (A PU)) (objs : List (AObj PU)) (K : A PU → List (AObj PU) → Prop) : ¬ D45_6 0 nb vals objs K := by
  intro h; unfold D45_6 at h; split at h <;> (first | exact h | exact h.out)
theorem D45_6_ok (k : Nat) (live : List Nat) (hl : cutOf 45 6 PE.cuts = some live) (nb : Nat) (vals : List (A PU)) (objs : List (AObj PU)) (K : A PU → List (AObj PU) → Prop) (h : D45_6 (k + 1) nb vals objs K) : fnOk PE.P 45 = true ∧ Hold (vcut PE (PT k) (PC k) 45 6 live nb vals objs K) := by
  obtain rfl : live = [0, 4, 6, 7, 8] := Option.some.inj (hl.symm.trans (by kernel_rfl : cutOf 45 6 PE.cuts = some [0, 4, 6, 7, 8]))
  refine ⟨fnok45, ?_⟩; unfold D45_6 at h; split at h
  · exact Hold.mp (by kernel_rfl) h.out
  · exact h.elim
theorem D31_3_z (nb : Nat) (vals : List (A PU)) (objs : List (AObj PU)) (K : A PU → List (AObj PU) → Prop) : ¬ D31_3 0 nb vals objs K := by
  intro h; unfold D31_3 at h; split at h <;> (first | exact h | exact h.out)
theorem D31_3_ok (k : Nat) (live : List Nat) (hl : cutOf 31 3 PE.cuts = some live) (nb : Nat) (vals : List (A PU)) (objs : List (AObj PU)) (K : A PU → List (AObj PU) → Prop) (h : D31_3 (k + 1) nb vals objs K) : fnOk PE.P 31 = true ∧ Hold (vcut PE (PT k) (PC k) 31 3 live nb vals objs K) := by
  obtain rfl : live = [0, 3, 4] := Option.some.inj (hl.symm.trans (by kernel_rfl : cutOf 31 3 PE.cuts = some [0, 3, 4]))
  refine ⟨fnok31, ?_⟩; unfold D31_3 at h; split at h
  · exact Hold.mp (by kernel_rfl) h.out
  · exact h.elim
theorem D20_3_z (nb : Nat) (vals : List (A PU)) (objs : List (AObj PU)) (K : A PU → List (AObj PU) → Prop) : ¬ D20_3 0 nb vals objs K := by
  intro h; unfold D20_3 at h; split at h <;> (first | exact h | exact h.out)
theorem D20_3_ok (k : Nat) (live : List Nat) (hl : cutOf 20 3 PE.cuts = some live) (nb : Nat) (vals : List (A PU)) (objs : List (AObj PU)) (K : A PU → List (AObj PU) → Prop) (h : D20_3 (k + 1) nb vals objs K) : fnOk PE.P 20 = true ∧ Hold (vcut PE (PT k) (PC k) 20 3 live nb vals objs K) := by
  obtain rfl : live = [0, 1, 2, 7, 8] := Option.some.inj (hl.symm.trans (by kernel_rfl : cutOf 20 3 PE.cuts = some [0, 1, 2, 7, 8]))
  refine ⟨fnok20, ?_⟩; unfold D20_3 at h; split at h
  · exact Hold.mp (by kernel_rfl) h.out
  · exact Hold.mp (by kernel_rfl) h.out
  · exact h.elim
theorem D20_4_z (nb : Nat) (vals : List (A PU)) (objs : List (AObj PU)) (K : A PU → List (AObj PU) → Prop) : ¬ D20_4 0 nb vals objs K := by
  intro h; unfold D20_4 at h; split at h <;> (first | exact h | exact h.out)
theorem D20_4_ok (k : Nat) (live : List Nat) (hl : cutOf 20 4 PE.cuts = some live) (nb : Nat) (vals : List (A PU)) (objs : List (AObj PU)) (K : A PU → List (AObj PU) → Prop) (h : D20_4 (k + 1) nb vals objs K) : fnOk PE.P 20 = true ∧ Hold (vcut PE (PT k) (PC k) 20 4 live nb vals objs K) := by
  obtain rfl : live = [0, 1, 2, 7, 8] := Option.some.inj (hl.symm.trans (by kernel_rfl : cutOf 20 4 PE.cuts = some [0, 1, 2, 7, 8]))
  refine ⟨fnok20, ?_⟩; unfold D20_4 at h; split at h
  · exact Hold.mp (by kernel_rfl) h.out
  · exact Hold.mp (by kernel_rfl) h.out
  · exact h.elim
theorem D18_2_z (nb : Nat) (vals : List (A PU)) (objs : List (AObj PU)) (K : A PU → List (AObj PU) → Prop) : ¬ D18_2 0 nb vals objs K := by
  intro h; unfold D18_2 at h; split at h <;> (first | exact h | exact h.out)
theorem D18_2_ok (k : Nat) (live : List Nat) (hl : cutOf 18 2 PE.cuts = some live) (nb : Nat) (vals : List (A PU)) (objs : List (AObj PU)) (K : A PU → List (AObj PU) → Prop) (h : D18_2 (k + 1) nb vals objs K) : fnOk PE.P 18 = true ∧ Hold (vcut PE (PT k) (PC k) 18 2 live nb vals objs K) := by
  obtain rfl : live = [0, 3, 4, 6] := Option.some.inj (hl.symm.trans (by kernel_rfl : cutOf 18 2 PE.cuts = some [0, 3, 4, 6]))
  refine ⟨fnok18, ?_⟩; unfold D18_2 at h; split at h
  · exact Hold.mp (by kernel_rfl) h.out
  · exact h.elim
theorem D8_9_z (nb : Nat) (vals : List (A PU)) (objs : List (AObj PU)) (K : A PU → List (AObj PU) → Prop) : ¬ D8_9 0 nb vals objs K := by
  intro h; unfold D8_9 at h; split at h <;> (first | exact h | exact h.out)
theorem D8_9_ok (k : Nat) (live : List Nat) (hl : cutOf 8 9 PE.cuts = some live) (nb : Nat) (vals : List (A PU)) (objs : List (AObj PU)) (K : A PU → List (AObj PU) → Prop) (h : D8_9 (k + 1) nb vals objs K) : fnOk PE.P 8 = true ∧ Hold (vcut PE (PT k) (PC k) 8 9 live nb vals objs K) := by
  obtain rfl : live = [0, 5, 6, 7, 12, 13, 14, 15, 16] := Option.some.inj (hl.symm.trans (by kernel_rfl : cutOf 8 9 PE.cuts = some [0, 5, 6, 7, 12, 13, 14, 15, 16]))
  refine ⟨fnok8, ?_⟩; unfold D8_9 at h; split at h
  · exact Hold.mp (by kernel_rfl) h.out
  · exact Hold.mp (by kernel_rfl) h.out
  · exact h.elim
theorem D8_11_z (nb : Nat) (vals : List (A PU)) (objs : List (AObj PU)) (K : A PU → List (AObj PU) → Prop) : ¬ D8_11 0 nb vals objs K := by
  intro h; unfold D8_11 at h; split at h <;> (first | exact h | exact h.out)
theorem D8_11_ok (k : Nat) (live : List Nat) (hl : cutOf 8 11 PE.cuts = some live) (nb : Nat) (vals : List (A PU)) (objs : List (AObj PU)) (K : A PU → List (AObj PU) → Prop) (h : D8_11 (k + 1) nb vals objs K) : fnOk PE.P 8 = true ∧ Hold (vcut PE (PT k) (PC k) 8 11 live nb vals objs K) := by
  obtain rfl : live = [0, 5, 6, 7, 12, 13, 14, 15, 16] := Option.some.inj (hl.symm.trans (by kernel_rfl : cutOf 8 11 PE.cuts = some [0, 5, 6, 7, 12, 13, 14, 15, 16]))
  refine ⟨fnok8, ?_⟩; unfold D8_11 at h; split at h
  · exact Hold.mp (by kernel_rfl) h.out
  · exact Hold.mp (by kernel_rfl) h.out
  · exact h.elim
theorem D8_12_z (nb : Nat) (vals : List (A PU)) (objs : List (AObj PU)) (K : A PU → List (AObj PU) → Prop) : ¬ D8_12 0 nb vals objs K := by
  intro h; unfold D8_12 at h; split at h <;> (first | exact h | exact h.out)
theorem D8_12_ok (k : Nat) (live : List Nat) (hl : cutOf 8 12 PE.cuts = some live) (nb : Nat) (vals : List (A PU)) (objs : List (AObj PU)) (K : A PU → List (AObj PU) → Prop) (h : D8_12 (k + 1) nb vals objs K) : fnOk PE.P 8 = true ∧ Hold (vcut PE (PT k) (PC k) 8 12 live nb vals objs K) := by
  obtain rfl : live = [0, 5, 6, 7, 12, 13, 14, 15, 16, 17] := Option.some.inj (hl.symm.trans (by kernel_rfl : cutOf 8 12 PE.cuts = some [0, 5, 6, 7, 12, 13, 14, 15, 16, 17]))
  refine ⟨fnok8, ?_⟩; unfold D8_12 at h; split at h
  · exact Hold.mp (by kernel_rfl) h.out
  · exact Hold.mp (by kernel_rfl) h.out
  · exact h.elim
theorem D8_13_z (nb : Nat) (vals : List (A PU)) (objs : List (AObj PU)) (K : A PU → List (AObj PU) → Prop) : ¬ D8_13 0 nb vals objs K := by
  intro h; unfold D8_13 at h; split at h <;> (first | exact h | exact h.out)
theorem D8_13_ok (k : Nat) (live : List Nat) (hl : cutOf 8 13 PE.cuts = some live) (nb : Nat) (vals : List (A PU)) (objs : List (AObj PU)) (K : A PU → List (AObj PU) → Prop) (h : D8_13 (k + 1) nb vals objs K) : fnOk PE.P 8 = true ∧ Hold (vcut PE (PT k) (PC k) 8 13 live nb vals objs K) := by
  obtain rfl : live = [0, 5, 6, 7, 12, 13, 14, 15, 16, 17, 18] := Option.some.inj (hl.symm.trans (by kernel_rfl : cutOf 8 13 PE.cuts = some [0, 5, 6, 7, 12, 13, 14, 15, 16, 17, 18]))
  refine ⟨fnok8, ?_⟩; unfold D8_13 at h; split at h
  · exact Hold.mp (by kernel_rfl) h.out
  · exact Hold.mp (by kernel_rfl) h.out
  · exact h.elim
theorem D8_15_z (nb : Nat) (vals : List (A PU)) (objs : List (AObj PU)) (K : A PU → List (AObj PU) → Prop) : ¬ D8_15 0 nb vals objs K := by
  intro h; unfold D8_15 at h; split at h <;> (first | exact h | exact h.out)
theorem D8_15_ok (k : Nat) (live : List Nat) (hl : cutOf 8 15 PE.cuts = some live) (nb : Nat) (vals : List (A PU)) (objs : List (AObj PU)) (K : A PU → List (AObj PU) → Prop) (h : D8_15 (k + 1) nb vals objs K) : fnOk PE.P 8 = true ∧ Hold (vcut PE (PT k) (PC k) 8 15 live nb vals objs K) := by
  obtain rfl : live = [6, 7, 12, 13, 14, 15] := Option.some.inj (hl.symm.trans (by kernel_rfl : cutOf 8 15 PE.cuts = some [6, 7, 12, 13, 14, 15]))
  refine ⟨fnok8, ?_⟩; unfold D8_15 at h; split at h
  · exact Hold.mp (by kernel_rfl) h.out
  · exact Hold.mp (by kernel_rfl) h.out
  · exact h.elim
theorem D8_17_z (nb : Nat) (vals : List (A PU)) (objs : List (AObj PU)) (K : A PU → List (AObj PU) → Prop) : ¬ D8_17 0 nb vals objs K := by
  intro h; unfold D8_17 at h; split at h <;> (first | exact h | exact h.out)
theorem D8_17_ok (k : Nat) (live : List Nat) (hl : cutOf 8 17 PE.cuts = some live) (nb : Nat) (vals : List (A PU)) (objs : List (AObj PU)) (K : A PU → List (AObj PU) → Prop) (h : D8_17 (k + 1) nb vals objs K) : fnOk PE.P 8 = true ∧ Hold (vcut PE (PT k) (PC k) 8 17 live nb vals objs K) := by
  obtain rfl : live = [6, 7, 13, 14, 15] := Option.some.inj (hl.symm.trans (by kernel_rfl : cutOf 8 17 PE.cuts = some [6, 7, 13, 14, 15]))
  refine ⟨fnok8, ?_⟩; unfold D8_17 at h; split at h
  · exact Hold.mp (by kernel_rfl) h.out
  · exact Hold.mp (by kernel_rfl) h.out
  · exact h.elim
theorem D8_18_z (nb : Nat) (vals : List (A PU)) (objs : List (AObj PU)) (K : A PU → List (AObj PU) → Prop) : ¬ D8_18 0 nb vals objs K := by
  intro h; unfold D8_18 at h; split at h <;> (first | exact h | exact h.out)
theorem D8_18_ok (k : Nat) (live : List Nat) (hl : cutOf 8 18 PE.cuts = some live) (nb : Nat) (vals : List (A PU)) (objs : List (AObj PU)) (K : A PU → List (AObj PU) → Prop) (h : D8_18 (k + 1) nb vals objs K) : fnOk PE.P 8 = true ∧ Hold (vcut PE (PT k) (PC k) 8 18 live nb vals objs K) := by
  obtain rfl : live = [6, 7, 13, 14, 15] := Option.some.inj (hl.symm.trans (by kernel_rfl : cutOf 8 18 PE.cuts = some [6, 7, 13, 14, 15]))
  refine ⟨fnok8, ?_⟩; unfold D8_18 at h; split at h
  · exact Hold.mp (by kernel_rfl) h.out
  · exact Hold.mp (by kernel_rfl) h.out
  · exact h.elim
theorem D8_19_z (nb : Nat) (vals : List (A PU)) (objs : List (AObj PU)) (K : A PU → List (AObj PU) → Prop) : ¬ D8_19 0 nb vals objs K := by
  intro h; unfold D8_19 at h; split at h <;> (first | exact h | exact h.out)
theorem D8_19_ok (k : Nat) (live : List Nat) (hl : cutOf 8 19 PE.cuts = some live) (nb : Nat) (vals : List (A PU)) (objs : List (AObj PU)) (K : A PU → List (AObj PU) → Prop) (h : D8_19 (k + 1) nb vals objs K) : fnOk PE.P 8 = true ∧ Hold (vcut PE (PT k) (PC k) 8 19 live nb vals objs K) := by
  obtain rfl : live = [6, 7, 13, 14] := Option.some.inj (hl.symm.trans (by kernel_rfl : cutOf 8 19 PE.cuts = some [6, 7, 13, 14]))
  refine ⟨fnok8, ?_⟩; unfold D8_19 at h; split at h
  · exact Hold.mp (by kernel_rfl) h.out
  · exact h.elim
theorem D9_4_z (nb : Nat) (vals : List (A PU)) (objs : List (AObj PU)) (K : A PU → List (AObj PU) → Prop) : ¬ D9_4 0 nb vals objs K := by
  intro h; unfold D9_4 at h; split at h <;> (first | exact h | exact h.out)
theorem D9_4_ok (k : Nat) (live : List Nat) (hl : cutOf 9 4 PE.cuts = some live) (nb : Nat) (vals : List (A PU)) (objs : List (AObj PU)) (K : A PU → List (AObj PU) → Prop) (h : D9_4 (k + 1) nb vals objs K) : fnOk PE.P 9 = true ∧ Hold (vcut PE (PT k) (PC k) 9 4 live nb vals objs K) := by
  obtain rfl : live = [2, 3, 5] := Option.some.inj (hl.symm.trans (by kernel_rfl : cutOf 9 4 PE.cuts = some [2, 3, 5]))
  refine ⟨fnok9, ?_⟩; unfold D9_4 at h; split at h
  · exact Hold.mp (by kernel_rfl) h.out
  · exact h.elim
theorem D3_10_z (nb : Nat) (vals : List (A PU)) (objs : List (AObj PU)) (K : A PU → List (AObj PU) → Prop) : ¬ D3_10 0 nb vals objs K := by
  intro h; unfold D3_10 at h; split at h <;> (first | exact h | exact h.out)
theorem D3_10_ok (k : Nat) (live : List Nat) (hl : cutOf 3 10 PE.cuts = some live) (nb : Nat) (vals : List (A PU)) (objs : List (AObj PU)) (K : A PU → List (AObj PU) → Prop) (h : D3_10 (k + 1) nb vals objs K) : fnOk PE.P 3 = true ∧ Hold (vcut PE (PT k) (PC k) 3 10 live nb vals objs K) := by
  obtain rfl : live = [9, 10] := Option.some.inj (hl.symm.trans (by kernel_rfl : cutOf 3 10 PE.cuts = some [9, 10]))
  refine ⟨fnok3, ?_⟩; unfold D3_10 at h; split at h
  · exact Hold.mp (by kernel_rfl) h.out
  · exact h.elim
theorem PSound (k : Nat) : TSound PE (PT k) ∧ CSound PE (PC k) :=
  tablesL PEok (by kernel_rfl) PTr PCr
    (List.forall_mem_cons.2 ⟨T35_z, List.forall_mem_cons.2 ⟨T22_z, List.forall_mem_cons.2 ⟨T23_z, List.forall_mem_cons.2 ⟨T24_z, List.forall_mem_cons.2 ⟨T11_z, List.forall_mem_cons.2 ⟨T76_z, List.forall_mem_cons.2 ⟨T59_z, List.forall_mem_cons.2 ⟨T50_z, List.forall_mem_cons.2 ⟨T49_z, List.forall_mem_cons.2 ⟨T48_z, List.forall_mem_cons.2 ⟨T36_z, List.forall_mem_cons.2 ⟨T51_z, List.forall_mem_cons.2 ⟨T40_z, List.forall_mem_cons.2 ⟨T25_z, List.forall_mem_cons.2 ⟨T52_z, List.forall_mem_cons.2 ⟨T37_z, List.forall_mem_cons.2 ⟨T38_z, List.forall_mem_cons.2 ⟨T41_z, List.forall_mem_cons.2 ⟨T62_z, List.forall_mem_cons.2 ⟨T55_z, List.forall_mem_cons.2 ⟨T42_z, List.forall_mem_cons.2 ⟨T44_z, List.forall_mem_cons.2 ⟨T43_z, List.forall_mem_cons.2 ⟨T30_z, List.forall_mem_cons.2 ⟨T29_z, List.forall_mem_cons.2 ⟨T16_z, List.forall_mem_cons.2 ⟨T54_z, List.forall_mem_cons.2 ⟨T26_z, List.forall_mem_cons.2 ⟨T39_z, List.forall_mem_cons.2 ⟨T10_z, List.forall_mem_cons.2 ⟨T12_z, List.forall_mem_cons.2 ⟨T28_z, List.forall_mem_cons.2 ⟨T27_z, List.forall_mem_cons.2 ⟨T13_z, List.forall_mem_cons.2 ⟨T4_z, List.forall_mem_cons.2 ⟨T5_z, List.forall_mem_cons.2 ⟨T14_z, List.forall_mem_cons.2 ⟨T15_z, List.forall_mem_cons.2 ⟨T7_z, List.forall_mem_cons.2 ⟨T6_z, List.forall_mem_cons.2 ⟨T63_z, List.forall_mem_cons.2 ⟨T64_z, List.forall_mem_cons.2 ⟨T81_z, List.forall_mem_cons.2 ⟨T65_z, List.forall_mem_cons.2 ⟨T56_z, List.forall_mem_cons.2 ⟨T45_z, List.forall_mem_cons.2 ⟨T32_z, List.forall_mem_cons.2 ⟨T46_z, List.forall_mem_cons.2 ⟨T33_z, List.forall_mem_cons.2 ⟨T31_z, List.forall_mem_cons.2 ⟨T19_z, List.forall_mem_cons.2 ⟨T20_z, List.forall_mem_cons.2 ⟨T47_z, List.forall_mem_cons.2 ⟨T34_z, List.forall_mem_cons.2 ⟨T21_z, List.forall_mem_cons.2 ⟨T17_z, List.forall_mem_cons.2 ⟨T18_z, List.forall_mem_cons.2 ⟨T8_z, List.forall_mem_cons.2 ⟨T9_z, List.forall_mem_cons.2 ⟨T3_z, (fun _ h => nomatch h)⟩⟩⟩⟩⟩⟩⟩⟩⟩⟩⟩⟩⟩⟩⟩⟩⟩⟩⟩⟩⟩⟩⟩⟩⟩⟩⟩⟩⟩⟩⟩⟩⟩⟩⟩⟩⟩⟩⟩⟩⟩⟩⟩⟩⟩⟩⟩⟩⟩⟩⟩⟩⟩⟩⟩⟩⟩⟩⟩⟩)
    (List.forall_mem_cons.2 ⟨D50_2_z, List.forall_mem_cons.2 ⟨D36_4_z, List.forall_mem_cons.2 ⟨D37_5_z, List.forall_mem_cons.2 ⟨D37_11_z, List.forall_mem_cons.2 ⟨D38_3_z, List.forall_mem_cons.2 ⟨D38_8_z, List.forall_mem_cons.2 ⟨D38_9_z, List.forall_mem_cons.2 ⟨D23_9_z, List.forall_mem_cons.2 ⟨D55_2_z, List.forall_mem_cons.2 ⟨D55_11_z, List.forall_mem_cons.2 ⟨D55_14_z, List.forall_mem_cons.2 ⟨D55_23_z, List.forall_mem_cons.2 ⟨D42_3_z, List.forall_mem_cons.2 ⟨D44_9_z, List.forall_mem_cons.2 ⟨D44_15_z, List.forall_mem_cons.2 ⟨D43_4_z, List.forall_mem_cons.2 ⟨D30_4_z, List.forall_mem_cons.2 ⟨D10_2_z, List.forall_mem_cons.2 ⟨D10_3_z, List.forall_mem_cons.2 ⟨D10_4_z, List.forall_mem_cons.2 ⟨D10_5_z, List.forall_mem_cons.2 ⟨D10_6_z, List.forall_mem_cons.2 ⟨D27_2_z, List.forall_mem_cons.2 ⟨D13_11_z, List.forall_mem_cons.2 ⟨D13_16_z, List.forall_mem_cons.2 ⟨D4_6_z, List.forall_mem_cons.2 ⟨D4_10_z, List.forall_mem_cons.2 ⟨D4_15_z, List.forall_mem_cons.2 ⟨D4_22_z, List.forall_mem_cons.2 ⟨D6_2_z, List.forall_mem_cons.2 ⟨D6_5_z, List.forall_mem_cons.2 ⟨D63_4_z, List.forall_mem_cons.2 ⟨D63_8_z, List.forall_mem_cons.2 ⟨D65_3_z, List.forall_mem_cons.2 ⟨D65_7_z, List.forall_mem_cons.2 ⟨D65_14_z, List.forall_mem_cons.2 ⟨D65_22_z, List.forall_mem_cons.2 ⟨D56_4_z, List.forall_mem_cons.2 ⟨D56_9_z, List.forall_mem_cons.2 ⟨D45_6_z, List.forall_mem_cons.2 ⟨D31_3_z, List.forall_mem_cons.2 ⟨D20_3_z, List.forall_mem_cons.2 ⟨D20_4_z, List.forall_mem_cons.2 ⟨D18_2_z, List.forall_mem_cons.2 ⟨D8_9_z, List.forall_mem_cons.2 ⟨D8_11_z, List.forall_mem_cons.2 ⟨D8_12_z, List.forall_mem_cons.2 ⟨D8_13_z, List.forall_mem_cons.2 ⟨D8_15_z, List.forall_mem_cons.2 ⟨D8_17_z, List.forall_mem_cons.2 ⟨D8_18_z, List.forall_mem_cons.2 ⟨D8_19_z, List.forall_mem_cons.2 ⟨D9_4_z, List.forall_mem_cons.2 ⟨D3_10_z, (fun _ h => nomatch h)⟩⟩⟩⟩⟩⟩⟩⟩⟩⟩⟩⟩⟩⟩⟩⟩⟩⟩⟩⟩⟩⟩⟩⟩⟩⟩⟩⟩⟩⟩⟩⟩⟩⟩⟩⟩⟩⟩⟩⟩⟩⟩⟩⟩⟩⟩⟩⟩⟩⟩⟩⟩⟩⟩)
    (fun k => List.forall_mem_cons.2 ⟨T35_ok k, List.forall_mem_cons.2 ⟨T22_ok k, List.forall_mem_cons.2 ⟨T23_ok k, List.forall_mem_cons.2 ⟨T24_ok k, List.forall_mem_cons.2 ⟨T11_ok k, List.forall_mem_cons.2 ⟨T76_ok k, List.forall_mem_cons.2 ⟨T59_ok k, List.forall_mem_cons.2 ⟨T50_ok k, List.forall_mem_cons.2 ⟨T49_ok k, List.forall_mem_cons.2 ⟨T48_ok k, List.forall_mem_cons.2 ⟨T36_ok k, List.forall_mem_cons.2 ⟨T51_ok k, List.forall_mem_cons.2 ⟨T40_ok k, List.forall_mem_cons.2 ⟨T25_ok k, List.forall_mem_cons.2 ⟨T52_ok k, List.forall_mem_cons.2 ⟨T37_ok k, List.forall_mem_cons.2 ⟨T38_ok k, List.forall_mem_cons.2 ⟨T41_ok k, List.forall_mem_cons.2 ⟨T62_ok k, List.forall_mem_cons.2 ⟨T55_ok k, List.forall_mem_cons.2 ⟨T42_ok k, List.forall_mem_cons.2 ⟨T44_ok k, List.forall_mem_cons.2 ⟨T43_ok k, List.forall_mem_cons.2 ⟨T30_ok k, List.forall_mem_cons.2 ⟨T29_ok k, List.forall_mem_cons.2 ⟨T16_ok k, List.forall_mem_cons.2 ⟨T54_ok k, List.forall_mem_cons.2 ⟨T26_ok k, List.forall_mem_cons.2 ⟨T39_ok k, List.forall_mem_cons.2 ⟨T10_ok k, List.forall_mem_cons.2 ⟨T12_ok k, List.forall_mem_cons.2 ⟨T28_ok k, List.forall_mem_cons.2 ⟨T27_ok k, List.forall_mem_cons.2 ⟨T13_ok k, List.forall_mem_cons.2 ⟨T4_ok k, List.forall_mem_cons.2 ⟨T5_ok k, List.forall_mem_cons.2 ⟨T14_ok k, List.forall_mem_cons.2 ⟨T15_ok k, List.forall_mem_cons.2 ⟨T7_ok k, List.forall_mem_cons.2 ⟨T6_ok k, List.forall_mem_cons.2 ⟨T63_ok k, List.forall_mem_cons.2 ⟨T64_ok k, List.forall_mem_cons.2 ⟨T81_ok k, List.forall_mem_cons.2 ⟨T65_ok k, List.forall_mem_cons.2 ⟨T56_ok k, List.forall_mem_cons.2 ⟨T45_ok k, List.forall_mem_cons.2 ⟨T32_ok k, List.forall_mem_cons.2 ⟨T46_ok k, List.forall_mem_cons.2 ⟨T33_ok k, List.forall_mem_cons.2 ⟨T31_ok k, List.forall_mem_cons.2 ⟨T19_ok k, List.forall_mem_cons.2 ⟨T20_ok k, List.forall_mem_cons.2 ⟨T47_ok k, List.forall_mem_cons.2 ⟨T34_ok k, List.forall_mem_cons.2 ⟨T21_ok k, List.forall_mem_cons.2 ⟨T17_ok k, List.forall_mem_cons.2 ⟨T18_ok k, List.forall_mem_cons.2 ⟨T8_ok k, List.forall_mem_cons.2 ⟨T9_ok k, List.forall_mem_cons.2 ⟨T3_ok k, (fun _ h => nomatch h)⟩⟩⟩⟩⟩⟩⟩⟩⟩⟩⟩⟩⟩⟩⟩⟩⟩⟩⟩⟩⟩⟩⟩⟩⟩⟩⟩⟩⟩⟩⟩⟩⟩⟩⟩⟩⟩⟩⟩⟩⟩⟩⟩⟩⟩⟩⟩⟩⟩⟩⟩⟩⟩⟩⟩⟩⟩⟩⟩⟩)
    (fun k => List.forall_mem_cons.2 ⟨D50_2_ok k, List.forall_mem_cons.2 ⟨D36_4_ok k, List.forall_mem_cons.2 ⟨D37_5_ok k, List.forall_mem_cons.2 ⟨D37_11_ok k, List.forall_mem_cons.2 ⟨D38_3_ok k, List.forall_mem_cons.2 ⟨D38_8_ok k, List.forall_mem_cons.2 ⟨D38_9_ok k, List.forall_mem_cons.2 ⟨D23_9_ok k, List.forall_mem_cons.2 ⟨D55_2_ok k, List.forall_mem_cons.2 ⟨D55_11_ok k, List.forall_mem_cons.2 ⟨D55_14_ok k, List.forall_mem_cons.2 ⟨D55_23_ok k, List.forall_mem_cons.2 ⟨D42_3_ok k, List.forall_mem_cons.2 ⟨D44_9_ok k, List.forall_mem_cons.2 ⟨D44_15_ok k, List.forall_mem_cons.2 ⟨D43_4_ok k, List.forall_mem_cons.2 ⟨D30_4_ok k, List.forall_mem_cons.2 ⟨D10_2_ok k, List.forall_mem_cons.2 ⟨D10_3_ok k, List.forall_mem_cons.2 ⟨D10_4_ok k, List.forall_mem_cons.2 ⟨D10_5_ok k, List.forall_mem_cons.2 ⟨D10_6_ok k, List.forall_mem_cons.2 ⟨D27_2_ok k, List.forall_mem_cons.2 ⟨D13_11_ok k, List.forall_mem_cons.2 ⟨D13_16_ok k, List.forall_mem_cons.2 ⟨D4_6_ok k, List.forall_mem_cons.2 ⟨D4_10_ok k, List.forall_mem_cons.2 ⟨D4_15_ok k, List.forall_mem_cons.2 ⟨D4_22_ok k, List.forall_mem_cons.2 ⟨D6_2_ok k, List.forall_mem_cons.2 ⟨D6_5_ok k, List.forall_mem_cons.2 ⟨D63_4_ok k, List.forall_mem_cons.2 ⟨D63_8_ok k, List.forall_mem_cons.2 ⟨D65_3_ok k, List.forall_mem_cons.2 ⟨D65_7_ok k, List.forall_mem_cons.2 ⟨D65_14_ok k, List.forall_mem_cons.2 ⟨D65_22_ok k, List.forall_mem_cons.2 ⟨D56_4_ok k, List.forall_mem_cons.2 ⟨D56_9_ok k, List.forall_mem_cons.2 ⟨D45_6_ok k, List.forall_mem_cons.2 ⟨D31_3_ok k, List.forall_mem_cons.2 ⟨D20_3_ok k, List.forall_mem_cons.2 ⟨D20_4_ok k, List.forall_mem_cons.2 ⟨D18_2_ok k, List.forall_mem_cons.2 ⟨D8_9_ok k, List.forall_mem_cons.2 ⟨D8_11_ok k, List.forall_mem_cons.2 ⟨D8_12_ok k, List.forall_mem_cons.2 ⟨D8_13_ok k, List.forall_mem_cons.2 ⟨D8_15_ok k, List.forall_mem_cons.2 ⟨D8_17_ok k, List.forall_mem_cons.2 ⟨D8_18_ok k, List.forall_mem_cons.2 ⟨D8_19_ok k, List.forall_mem_cons.2 ⟨D9_4_ok k, List.forall_mem_cons.2 ⟨D3_10_ok k, (fun _ h => nomatch h)⟩⟩⟩⟩⟩⟩⟩⟩⟩⟩⟩⟩⟩⟩⟩⟩⟩⟩⟩⟩⟩⟩⟩⟩⟩⟩⟩⟩⟩⟩⟩⟩⟩⟩⟩⟩⟩⟩⟩⟩⟩⟩⟩⟩⟩⟩⟩⟩⟩⟩⟩⟩⟩⟩) k
end Go.V
