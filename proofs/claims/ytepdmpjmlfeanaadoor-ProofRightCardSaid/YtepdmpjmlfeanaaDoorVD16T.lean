import Derived.Test.YtepdmpjmlfeanaaDoorVD16S
import Derived.Test.YtepdmpjmlfeanaaDoorVD16J
set_option maxHeartbeats 4000000
set_option linter.unusedVariables false
namespace Go.V
open Go
def T31 (k : Nat) : Fn PU := fun args boxes K => match args, boxes with
  | [.int .i64 r1], [] => Hold (F_smt_width k r1 (fun z0 => K (.bool z0) []))
  | _, _ => False
def T41 (k : Nat) : Fn PU := fun args boxes K => match args, boxes with
  | [.int .i64 r1], [] => Hold (F_smt_New k r1 (fun z0 => K (.tup [.nilp, .int .i64 z0]) []) (fun z0 z1 z2 z3 => K (.tup [.ptr 0 [], .int .i64 z0]) [.box (.agg [.int .i64 z1, .int .i64 z2, .tr 46 z3 []])]))
  | _, _ => False
def T42 (k : Nat) : Fn PU := fun args boxes K => match args, boxes with
  | [.nilp, .ro false 46 r1], [] => Hold (F_smt_Tree_Set k r1 (fun z0 => K (.int .i64 z0) []))
  | [.ptr 0 [], .ro false 46 r1], [.box (.agg [.int .i64 r2, .int .i64 r3, .tr 46 r4 []])] => Hold (F_smt_Tree_Set_s1 k r1 r2 r3 r4 (fun z0 z1 z2 z3 => K (.int .i64 z0) [.box (.agg [.int .i64 z1, .int .i64 z2, .tr 46 z3 []])]))
  | [.nilp, .ro true 46 r1], [] => Hold (F_smt_Tree_Set k r1 (fun z0 => K (.int .i64 z0) []))
  | [.ptr 0 [], .ro true 46 r1], [.box (.agg [.int .i64 r2, .int .i64 r3, .tr 46 r4 []])] => Hold (F_smt_Tree_Set_s1 k r1 r2 r3 r4 (fun z0 z1 z2 z3 => K (.int .i64 z0) [.box (.agg [.int .i64 z1, .int .i64 z2, .tr 46 z3 []])]))
  | _, _ => False
def T43 (k : Nat) : Fn PU := fun args boxes K => match args, boxes with
  | [.nilp], [] => Hold (F_smt_Tree_Root k (fun z0 => K (.arr 5 32 z0) []))
  | [.ptr 0 []], [.box (.agg [.int .i64 r1, .int .i64 r2, .tr 46 r3 []])] => Hold (F_smt_Tree_Root_s1 k r1 r2 r3 (fun z0 z1 z2 z3 => K (.arr 5 32 z0) [.box (.agg [.int .i64 z1, .int .i64 z2, .tr 46 z3 []])]))
  | _, _ => False
def T34 (k : Nat) : Fn PU := fun args boxes K => match args, boxes with
  | [.ro false 46 r1], [] => Hold (F_slices_Clone_api_Leaf_api_Leaf k r1 (fun z0 => K (.usl 46 z0) []))
  | [.ro true 46 r1], [] => Hold (F_slices_Clone_api_Leaf_api_Leaf k r1 (fun z0 => K (.usl 46 z0) []))
  | _, _ => False
def T101 (k : Nat) : Fn PU := fun args boxes K => match args, boxes with
  | [.int .u8 r1], [] => Hold (F_cmp_isNaN_byte k r1 (fun z0 => K (.bool z0) []))
  | _, _ => False
def T88 (k : Nat) : Fn PU := fun args boxes K => match args, boxes with
  | [.int .u8 r1, .int .u8 r2], [] => Hold (F_cmp_Compare_byte k r1 r2 (fun z0 => K (.int .i64 z0) []))
  | _, _ => False
def T79 (k : Nat) : Fn PU := fun args boxes K => match args, boxes with
  | [.ro true 5 r1, .ro true 5 r2], [] => Hold (F_slices_Compare_byte_byte k r1 r2 (fun z0 => K (.int .i64 z0) []))
  | _, _ => False
def T78 (k : Nat) : Fn PU := fun args boxes K => match args, boxes with
  | [.agg [.arr 5 32 r1, .arr 5 32 r2], .agg [.arr 5 32 r3, .arr 5 32 r4]], [] => Hold (F_smt_twice_1 k r1 r2 r3 r4 (fun z0 => K (.int .i64 z0) []))
  | _, _ => False
def T77 (k : Nat) : Fn PU := fun args boxes K => match args, boxes with
  | [.own 0, .clo 78 []], [.lst 46 r1] => Hold (F_slices_SortFunc_api_Leaf_api_Leaf k r1 (fun z0 => K (.tup []) [.lst 46 z0]))
  | _, _ => False
def T65 (k : Nat) : Fn PU := fun args boxes K => match args, boxes with
  | [.ro false 46 r1], [] => Hold (F_smt_twice k r1 (fun z0 => K (.bool z0) []))
  | [.ro true 46 r1], [] => Hold (F_smt_twice k r1 (fun z0 => K (.bool z0) []))
  | _, _ => False
def T80 (k : Nat) : Fn PU := fun args boxes K => match args, boxes with
  | [.tr 46 r1 []], [] => Hold (F_smt_knot_inner k r1 (fun z0 => K (.bool z0) []))
  | [.ptr 0 []], [.box (.agg [.agg [.agg [.int .u32 r1, .int .i32 r2, .int .u32 r3], .arr 5 32 r4], .agg [.arr 5 32 r5, .arr 5 32 r6], .tr 46 r7 [], .tr 46 r8 []])] => Hold (F_smt_knot_inner_s1 k r1 r2 r3 r4 r5 r6 r7 r8 (fun z0 z1 z2 z3 z4 z5 z6 z7 z8 => K (.bool z0) [.box (.agg [.agg [.agg [.int .u32 z1, .int .i32 z2, .int .u32 z3], .arr 5 32 z4], .agg [.arr 5 32 z5, .arr 5 32 z6], .tr 46 z7 [], .tr 46 z8 []])]))
  | _, _ => False
def T76 (k : Nat) : Fn PU := fun args boxes K => match args, boxes with
  | [.int .i64 r1], [] => Hold (F_path_mask k r1 (fun z0 => K (.int .u8 z0) []))
  | _, _ => False
def T60 (k : Nat) : Fn PU := fun args boxes K => match args, boxes with
  | [.arr 5 32 r1, .int .i64 r2], [] => Hold (F_path_Bit k r1 r2 (fun z0 z1 => K (.tup [.int .i64 z0, .int .i64 z1]) []))
  | _, _ => False
def T81 (k : Nat) : Fn PU := fun args boxes K => match args, boxes with
  | [.arr 5 32 r1, .int .i64 r2], [] => Hold (F_smt_right k r1 r2 (fun z0 => K (.bool z0) []))
  | _, _ => False
def T66 (k : Nat) : Fn PU := fun args boxes K => match args, boxes with
  | [.ptr 0 [], .arr 5 32 r1], [.box (.agg [.int .i64 r2, .int .i64 r3, .tr 46 r4 []])] => Hold (F_smt_Tree_Get k r1 r2 r3 r4 (fun z0 z1 z2 z3 z4 => K (.tup [.arr 5 32 z0, .bool z1]) [.box (.agg [.int .i64 z2, .int .i64 z3, .tr 46 z4 []])]))
  | _, _ => False
def T67 (k : Nat) : Fn PU := fun args boxes K => match args, boxes with
  | [.tr 46 r1 [], .agg [.arr 5 32 r2, .arr 5 32 r3], .int .i64 r4], [] => Hold (F_smt_knot_with k r1 r2 r3 r4 (fun z0 => K (.tr 46 z0 []) []))
  | _, _ => False
def T57 (k : Nat) : Fn PU := fun args boxes K => match args, boxes with
  | [], [] => Hold (F_sha_New k (fun z0 z1 z2 => K (.ptr 0 []) [.box (.agg [.arr 104 8 z0, .arr 5 64 z1, .int .i64 z2])]))
  | _, _ => False
def T85 (k : Nat) : Fn PU := fun args boxes K => match args, boxes with
  | [.int .u32 r1, .int .i64 r2], [] => Hold (F_math_bits_RotateLeft32 k r1 r2 (fun z0 => K (.int .u32 z0) []))
  | _, _ => False
def T75 (k : Nat) : Fn PU := fun args boxes K => match args, boxes with
  | [.ptr 0 []], [.box (.agg [.arr 104 8 r1, .arr 5 64 r2, .int .i64 r3])] => Hold (F_sha_Hash_mix k r1 r2 r3 (fun z0 z1 z2 => K (.tup []) [.box (.agg [.arr 104 8 z0, .arr 5 64 z1, .int .i64 z2])]))
  | _, _ => False
def T58 (k : Nat) : Fn PU := fun args boxes K => match args, boxes with
  | [.ptr 0 [], .ro false 5 r1], [.box (.agg [.arr 104 8 r2, .arr 5 64 r3, .int .i64 r4])] => Hold (F_sha_Hash_Write k r1 r2 r3 r4 (fun z0 z1 z2 z3 => K (.int .i64 z0) [.box (.agg [.arr 104 8 z1, .arr 5 64 z2, .int .i64 z3])]))
  | [.ptr 0 [], .ro true 5 r1], [.box (.agg [.arr 104 8 r2, .arr 5 64 r3, .int .i64 r4])] => Hold (F_sha_Hash_Write k r1 r2 r3 r4 (fun z0 z1 z2 z3 => K (.int .i64 z0) [.box (.agg [.arr 104 8 z1, .arr 5 64 z2, .int .i64 z3])]))
  | _, _ => False
def T59 (k : Nat) : Fn PU := fun args boxes K => match args, boxes with
  | [.ptr 0 []], [.box (.agg [.arr 104 8 r1, .arr 5 64 r2, .int .i64 r3])] => Hold (F_sha_Hash_Sum k r1 r2 r3 (fun z0 z1 z2 z3 => K (.arr 5 32 z0) [.box (.agg [.arr 104 8 z1, .arr 5 64 z2, .int .i64 z3])]))
  | _, _ => False
def T32 (k : Nat) : Fn PU := fun args boxes K => match args, boxes with
  | [.int .i64 r1, .arr 5 32 r2], [] => Hold (F_smt_short k r1 r2 (fun z0 => K (.arr 5 32 z0) []))
  | _, _ => False
def T45 (k : Nat) : Fn PU := fun args boxes K => match args, boxes with
  | [.int .i64 r1, .int .u8 r2, .ro true 23 r3], [] => Hold (F_smt_summed k r1 r2 r3 (fun z0 => K (.arr 5 32 z0) []))
  | [.int .i64 r1, .int .u8 r2, .ro false 23 r3], [] => Hold (F_smt_summed k r1 r2 r3 (fun z0 => K (.arr 5 32 z0) []))
  | _, _ => False
def T63 (k : Nat) : Fn PU := fun args boxes K => match args, boxes with
  | [.int .i64 r1, .arr 5 32 r2, .arr 5 32 r3], [] => Hold (F_smt_Node k r1 r2 r3 (fun z0 => K (.arr 5 32 z0) []))
  | _, _ => False
def T39 (k : Nat) : Fn PU := fun args boxes K => match args, boxes with
  | [.int .i64 r1, .agg [.arr 5 32 r2, .arr 5 32 r3]], [] => Hold (F_smt_Leaf k r1 r2 r3 (fun z0 => K (.arr 5 32 z0) []))
  | _, _ => False
def T83 (k : Nat) : Fn PU := fun args boxes K => match args, boxes with
  | [.ptr 0 [], .ptr 1 []], [.box (.ptr 2 []), .box (.int .i64 r1), .box (.agg [.agg [.agg [.int .u32 r2, .int .i32 r3, .int .u32 r4], .arr 5 32 r5], .agg [.arr 5 32 r6, .arr 5 32 r7], .tr 46 r8 [], .tr 46 r9 []])] => Hold (F_smt_knot_digest_1 k r1 r2 r3 r4 r5 r6 r7 r8 r9 (fun z0 z1 z2 z3 z4 z5 z6 z7 z8 => K (.tup []) [.box (.ptr 2 []), .box (.int .i64 z0), .box (.agg [.agg [.agg [.int .u32 z1, .int .i32 z2, .int .u32 z3], .arr 5 32 z4], .agg [.arr 5 32 z5, .arr 5 32 z6], .tr 46 z7 [], .tr 46 z8 []])]))
  | _, _ => False
def T22 (k : Nat) : Fn PU := fun args boxes K => match args, boxes with
  | [.int .i64 r1], [] => Hold (F_smt_Empty k r1 (fun z0 => K (.arr 5 32 z0) []))
  | _, _ => False
def T68 (k : Nat) : Fn PU := fun args boxes K => match args, boxes with
  | [.tr 46 r1 [], .int .i64 r2], [] => Hold (F_smt_knot_digest k r1 r2 (fun z0 => K (.arr 5 32 z0) []))
  | _, _ => False
def T20 (k : Nat) : Fn PU := fun args boxes K => match args, boxes with
  | [.int .i64 r1, .ro false 46 r2], [] => Hold (F_smt_Root k r1 r2 (fun z0 z1 => K (.tup [.arr 5 32 z0, .int .i64 z1]) []))
  | [.int .i64 r1, .ro true 46 r2], [] => Hold (F_smt_Root k r1 r2 (fun z0 z1 => K (.tup [.arr 5 32 z0, .int .i64 z1]) []))
  | _, _ => False
def T35 (k : Nat) : Fn PU := fun args boxes K => match args, boxes with
  | [.arr 5 32 r1, .int .i64 r2], [] => Hold (F_proof_right k r1 r2 (fun z0 => K (.bool z0) []))
  | _, _ => False
def T62 (k : Nat) : Fn PU := fun args boxes K => match args, boxes with
  | [.agg [.arr 5 32 r1, .arr 5 32 r2], .ptr 0 []], [.box (.int .i64 r3)] => Hold (F_proof_at_1 k r1 r2 r3 (fun z0 z1 => K (.bool z0) [.box (.int .i64 z1)]))
  | _, _ => False
def T61 (k : Nat) : Fn PU := fun args boxes K => match args, boxes with
  | [.ro true 46 r1, .clo 62 [.ptr 0 []]], [.box (.int .i64 r2)] => Hold (F_slices_IndexFunc_api_Leaf_api_Leaf k r1 r2 (fun z0 z1 => K (.int .i64 z0) [.box (.int .i64 z1)]))
  | _, _ => False
def T36 (k : Nat) : Fn PU := fun args boxes K => match args, boxes with
  | [.int .i64 r1, .ro true 46 r2, .int .i64 r3], [] => Hold (F_proof_at k r1 r2 r3 (fun z0 => K (.arr 5 32 z0) []))
  | _, _ => False
def T17 (k : Nat) : Fn PU := fun args boxes K => match args, boxes with
  | [.int .i64 r1, .ro false 46 r2, .arr 5 32 r3], [] => Hold (F_proof_Make k r1 r2 r3 (fun z0 z1 z2 z3 z4 z5 z6 => K (.tup [.agg [.bool z0, .arr 5 32 z1], .agg [.usl 23 z2, .bool z3, .arr 5 32 z4, .arr 5 32 z5], .int .i64 z6]) []))
  | [.int .i64 r1, .ro true 46 r2, .arr 5 32 r3], [] => Hold (F_proof_Make k r1 r2 r3 (fun z0 z1 z2 z3 z4 z5 z6 => K (.tup [.agg [.bool z0, .arr 5 32 z1], .agg [.usl 23 z2, .bool z3, .arr 5 32 z4, .arr 5 32 z5], .int .i64 z6]) []))
  | _, _ => False
def T37 (k : Nat) : Fn PU := fun args boxes K => match args, boxes with
  | [], [] => Hold (F_l06_a k (fun z0 z1 => K (.agg [.arr 5 32 z0, .arr 5 32 z1]) []))
  | _, _ => False
def T38 (k : Nat) : Fn PU := fun args boxes K => match args, boxes with
  | [], [] => Hold (F_l06_b k (fun z0 z1 => K (.agg [.arr 5 32 z0, .arr 5 32 z1]) []))
  | _, _ => False
def T18 (k : Nat) : Fn PU := fun args boxes K => match args, boxes with
  | [], [] => Hold (F_l06_makes k (fun z0 => K (.bool z0) []))
  | _, _ => False
def T64 (k : Nat) : Fn PU := fun args boxes K => match args, boxes with
  | [.int .u8 r1], [] => Hold (F_math_bits_Len8 k r1 (fun z0 => K (.int .i64 z0) []))
  | _, _ => False
def T40 (k : Nat) : Fn PU := fun args boxes K => match args, boxes with
  | [.int .u8 r1], [] => Hold (F_math_bits_LeadingZeros8 k r1 (fun z0 => K (.int .i64 z0) []))
  | _, _ => False
def T19 (k : Nat) : Fn PU := fun args boxes K => match args, boxes with
  | [.arr 5 32 r1, .arr 5 32 r2], [] => Hold (F_path_Common k r1 r2 (fun z0 => K (.int .i64 z0) []))
  | _, _ => False
def T6 (k : Nat) : Fn PU := fun args boxes K => match args, boxes with
  | [.int .i64 r1, .ro false 46 r2, .arr 5 32 r3], [] => Hold (F_l06_ProofDepth k r1 r2 r3 (fun z0 => K (.bool z0) []))
  | _, _ => False
def T44 (k : Nat) : Fn PU := fun args boxes K => match args, boxes with
  | [.agg [.int .i64 r1, .arr 5 32 r2, .agg [.bool r3, .arr 5 32 r4], .agg [.ro false 23 r5, .bool r6, .arr 5 32 r7, .arr 5 32 r8]]], [] => Hold (F_proof_said_may k r1 r2 r3 r4 r5 r6 r7 r8 (fun z0 => K (.bool z0) []))
  | [.agg [.int .i64 r1, .arr 5 32 r2, .agg [.bool r3, .arr 5 32 r4], .agg [.ro true 23 r5, .bool r6, .arr 5 32 r7, .arr 5 32 r8]]], [] => Hold (F_proof_said_may k r1 r2 r3 r4 r5 r6 r7 r8 (fun z0 => K (.bool z0) []))
  | _, _ => False
def T28 (k : Nat) : Fn PU := fun args boxes K => match args, boxes with
  | [.agg [.int .i64 r1, .arr 5 32 r2, .agg [.bool r3, .arr 5 32 r4], .agg [.ro false 23 r5, .bool r6, .arr 5 32 r7, .arr 5 32 r8]]], [] => Hold (F_proof_said_rungs k r1 r2 r3 r4 r5 r6 r7 r8 (fun z0 z1 z2 z3 z4 z5 z6 z7 => K (.clo 53 [.ptr 0 []]) [.box (.agg [.int .i64 z0, .arr 5 32 z1, .agg [.bool z2, .arr 5 32 z3], .agg [.ro false 23 z4, .bool z5, .arr 5 32 z6, .arr 5 32 z7]])]))
  | [.agg [.int .i64 r1, .arr 5 32 r2, .agg [.bool r3, .arr 5 32 r4], .agg [.ro true 23 r5, .bool r6, .arr 5 32 r7, .arr 5 32 r8]]], [] => Hold (F_proof_said_rungs k r1 r2 r3 r4 r5 r6 r7 r8 (fun z0 z1 z2 z3 z4 z5 z6 z7 => K (.clo 53 [.ptr 0 []]) [.box (.agg [.int .i64 z0, .arr 5 32 z1, .agg [.bool z2, .arr 5 32 z3], .agg [.ro true 23 z4, .bool z5, .arr 5 32 z6, .arr 5 32 z7]])]))
  | _, _ => False
def T56 (k : Nat) : Fn PU := fun args boxes K => match args, boxes with
  | [.int .u8 r1, .ro true 23 r2], [] => Hold (F_proof_bytes k r1 r2 (fun z0 => K (.usl 5 z0) []))
  | [.int .u8 r1, .ro false 23 r2], [] => Hold (F_proof_bytes k r1 r2 (fun z0 => K (.usl 5 z0) []))
  | _, _ => False
def T54 (k : Nat) : Fn PU := fun args boxes K => match args, boxes with
  | [.agg [.int .i64 r1, .arr 5 32 r2, .agg [.bool r3, .arr 5 32 r4], .agg [.ro false 23 r5, .bool r6, .arr 5 32 r7, .arr 5 32 r8]]], [] => Hold (F_proof_said_start k r1 r2 r3 r4 r5 r6 r7 r8 (fun z0 => K (.usl 5 z0) []))
  | [.agg [.int .i64 r1, .arr 5 32 r2, .agg [.bool r3, .arr 5 32 r4], .agg [.ro true 23 r5, .bool r6, .arr 5 32 r7, .arr 5 32 r8]]], [] => Hold (F_proof_said_start k r1 r2 r3 r4 r5 r6 r7 r8 (fun z0 => K (.usl 5 z0) []))
  | _, _ => False
def T55 (k : Nat) : Fn PU := fun args boxes K => match args, boxes with
  | [.ro false 23 r1], [] => Hold (F_slices_Backward_api_Digest_api_Digest k r1 (fun z0 => K (.clo 74 [.ptr 0 []]) [.box (.ro false 23 z0)]))
  | [.ro true 23 r1], [] => Hold (F_slices_Backward_api_Digest_api_Digest k r1 (fun z0 => K (.clo 74 [.ptr 0 []]) [.box (.ro true 23 z0)]))
  | _, _ => False
def T33 (k : Nat) : Fn PU := fun args boxes K => match args, boxes with
  | [.ro true 5 r1], [] => Hold (F_sha_Sum k r1 (fun z0 => K (.arr 5 32 z0) []))
  | _, _ => False
def T16 (k : Nat) : Fn PU := fun args boxes K => match args, boxes with
  | [.int .i64 r1, .ro true 5 r2], [] => Hold (F_smt_Short k r1 r2 (fun z0 z1 => K (.tup [.arr 5 32 z0, .int .i64 z1]) []))
  | _, _ => False
def T21y7 (k : Nat) : Fn PU := fun args boxes K => match args, boxes with
  | [.own 0, .ptr 1 [], .ptr 2 []], [.lst 5 r1, .box (.agg [.int .i64 r2, .arr 5 32 r3, .agg [.bool r4, .arr 5 32 r5], .agg [.ro false 23 r6, .bool r7, .arr 5 32 r8, .arr 5 32 r9]]), .box (.arr 5 32 r10)] => Hold (F_proof_said_check_y7 k r1 r2 r3 r4 r5 r6 r7 r8 r9 r10 (fun z0 z1 z2 z3 z4 z5 z6 z7 z8 z9 => K (.clo 0 []) [.lst 5 z0, .box (.agg [.int .i64 z1, .arr 5 32 z2, .agg [.bool z3, .arr 5 32 z4], .agg [.ro false 23 z5, .bool z6, .arr 5 32 z7, .arr 5 32 z8]]), .box (.arr 5 32 z9)]))
  | [.own 0, .ptr 1 [], .ptr 2 []], [.lst 5 r1, .box (.agg [.int .i64 r2, .arr 5 32 r3, .agg [.bool r4, .arr 5 32 r5], .agg [.ro true 23 r6, .bool r7, .arr 5 32 r8, .arr 5 32 r9]]), .box (.arr 5 32 r10)] => Hold (F_proof_said_check_y7 k r1 r2 r3 r4 r5 r6 r7 r8 r9 r10 (fun z0 z1 z2 z3 z4 z5 z6 z7 z8 z9 => K (.clo 0 []) [.lst 5 z0, .box (.agg [.int .i64 z1, .arr 5 32 z2, .agg [.bool z3, .arr 5 32 z4], .agg [.ro true 23 z5, .bool z6, .arr 5 32 z7, .arr 5 32 z8]]), .box (.arr 5 32 z9)]))
  | _, _ => False
def T53y3 (k : Nat) : Fn PU := fun args boxes K => match args, boxes with
  | [.int .i64 r1, .arr 5 32 r2, .ptr 0 [], .ptr 1 [], .ptr 2 []], [.box (.agg [.int .i64 r3, .arr 5 32 r4, .agg [.bool r5, .arr 5 32 r6], .agg [.ro false 23 r7, .bool r8, .arr 5 32 r9, .arr 5 32 r10]]), .box (.yld 3), .box (.own 4), .lp 21 7 [2, 5] [.ptr 5 [], .ptr 6 []] 0, .lst 5 r11, .box (.agg [.int .i64 r12, .arr 5 32 r13, .agg [.bool r14, .arr 5 32 r15], .agg [.ro false 23 r16, .bool r17, .arr 5 32 r18, .arr 5 32 r19]]), .box (.arr 5 32 r20)] => Hold (F_proof_said_rungs_1_y3 k r1 r2 r3 r4 r5 r6 r7 r8 r9 r10 r11 r12 r13 r14 r15 r16 r17 r18 r19 r20 (fun z0 z1 z2 z3 z4 z5 z6 z7 z8 z9 z10 z11 z12 z13 z14 z15 z16 z17 z18 => K (.clo 0 []) [.box (.agg [.int .i64 z0, .arr 5 32 z1, .agg [.bool z2, .arr 5 32 z3], .agg [.ro false 23 z4, .bool z5, .arr 5 32 z6, .arr 5 32 z7]]), .box (.yld 3), .box (.own 7), .lp 21 7 [2, 5] [.ptr 5 [], .ptr 6 []] 0, .lst 5 z8, .box (.agg [.int .i64 z9, .arr 5 32 z10, .agg [.bool z11, .arr 5 32 z12], .agg [.ro false 23 z13, .bool z14, .arr 5 32 z15, .arr 5 32 z16]]), .box (.arr 5 32 z17), .lst 5 z18]))
  | [.int .i64 r1, .arr 5 32 r2, .ptr 0 [], .ptr 1 [], .ptr 2 []], [.box (.agg [.int .i64 r3, .arr 5 32 r4, .agg [.bool r5, .arr 5 32 r6], .agg [.ro true 23 r7, .bool r8, .arr 5 32 r9, .arr 5 32 r10]]), .box (.yld 3), .box (.own 4), .lp 21 7 [2, 5] [.ptr 5 [], .ptr 6 []] 0, .lst 5 r11, .box (.agg [.int .i64 r12, .arr 5 32 r13, .agg [.bool r14, .arr 5 32 r15], .agg [.ro true 23 r16, .bool r17, .arr 5 32 r18, .arr 5 32 r19]]), .box (.arr 5 32 r20)] => Hold (F_proof_said_rungs_1_y3 k r1 r2 r3 r4 r5 r6 r7 r8 r9 r10 r11 r12 r13 r14 r15 r16 r17 r18 r19 r20 (fun z0 z1 z2 z3 z4 z5 z6 z7 z8 z9 z10 z11 z12 z13 z14 z15 z16 z17 z18 => K (.clo 0 []) [.box (.agg [.int .i64 z0, .arr 5 32 z1, .agg [.bool z2, .arr 5 32 z3], .agg [.ro true 23 z4, .bool z5, .arr 5 32 z6, .arr 5 32 z7]]), .box (.yld 3), .box (.own 7), .lp 21 7 [2, 5] [.ptr 5 [], .ptr 6 []] 0, .lst 5 z8, .box (.agg [.int .i64 z9, .arr 5 32 z10, .agg [.bool z11, .arr 5 32 z12], .agg [.ro true 23 z13, .bool z14, .arr 5 32 z15, .arr 5 32 z16]]), .box (.arr 5 32 z17), .lst 5 z18]))
  | _, _ => False
def T74 (k : Nat) : Fn PU := fun args boxes K => match args, boxes with
  | [.yld 0, .ptr 1 []], [.lp 53 3 [1, 2, 3] [.ptr 2 [], .ptr 3 [], .ptr 4 []] 0, .box (.ro false 23 r1), .box (.agg [.int .i64 r2, .arr 5 32 r3, .agg [.bool r4, .arr 5 32 r5], .agg [.ro false 23 r6, .bool r7, .arr 5 32 r8, .arr 5 32 r9]]), .box (.yld 5), .box (.own 6), .lp 21 7 [2, 5] [.ptr 7 [], .ptr 8 []] 0, .lst 5 r10, .box (.agg [.int .i64 r11, .arr 5 32 r12, .agg [.bool r13, .arr 5 32 r14], .agg [.ro false 23 r15, .bool r16, .arr 5 32 r17, .arr 5 32 r18]]), .box (.arr 5 32 r19)] => Hold (F_slices_Backward_api_Digest_api_Digest_1 k r1 r2 r3 r4 r5 r6 r7 r8 r9 r10 r11 r12 r13 r14 r15 r16 r17 r18 r19 (fun z0 z1 z2 z3 z4 z5 z6 z7 z8 z9 z10 z11 z12 z13 z14 z15 z16 z17 z18 z19 => K (.tup []) [.lp 53 3 [1, 2, 3] [.ptr 2 [], .ptr 3 [], .ptr 4 []] 0, .box (.ro false 23 z0), .box (.agg [.int .i64 z1, .arr 5 32 z2, .agg [.bool z3, .arr 5 32 z4], .agg [.ro false 23 z5, .bool z6, .arr 5 32 z7, .arr 5 32 z8]]), .box (.yld 5), .box (.own 9), .lp 21 7 [2, 5] [.ptr 7 [], .ptr 8 []] 0, .lst 5 z9, .box (.agg [.int .i64 z10, .arr 5 32 z11, .agg [.bool z12, .arr 5 32 z13], .agg [.ro false 23 z14, .bool z15, .arr 5 32 z16, .arr 5 32 z17]]), .box (.arr 5 32 z18), .lst 5 z19]) (fun z0 z1 z2 z3 z4 z5 z6 z7 z8 z9 z10 z11 z12 z13 z14 z15 z16 z17 z18 => K (.tup []) [.lp 53 3 [1, 2, 3] [.ptr 2 [], .ptr 3 [], .ptr 4 []] 0, .box (.ro false 23 z0), .box (.agg [.int .i64 z1, .arr 5 32 z2, .agg [.bool z3, .arr 5 32 z4], .agg [.ro false 23 z5, .bool z6, .arr 5 32 z7, .arr 5 32 z8]]), .box (.yld 5), .box (.own 6), .lp 21 7 [2, 5] [.ptr 7 [], .ptr 8 []] 0, .lst 5 z9, .box (.agg [.int .i64 z10, .arr 5 32 z11, .agg [.bool z12, .arr 5 32 z13], .agg [.ro false 23 z14, .bool z15, .arr 5 32 z16, .arr 5 32 z17]]), .box (.arr 5 32 z18)]))
  | [.yld 0, .ptr 1 []], [.lp 53 3 [1, 2, 3] [.ptr 2 [], .ptr 3 [], .ptr 4 []] 0, .box (.ro true 23 r1), .box (.agg [.int .i64 r2, .arr 5 32 r3, .agg [.bool r4, .arr 5 32 r5], .agg [.ro true 23 r6, .bool r7, .arr 5 32 r8, .arr 5 32 r9]]), .box (.yld 5), .box (.own 6), .lp 21 7 [2, 5] [.ptr 7 [], .ptr 8 []] 0, .lst 5 r10, .box (.agg [.int .i64 r11, .arr 5 32 r12, .agg [.bool r13, .arr 5 32 r14], .agg [.ro true 23 r15, .bool r16, .arr 5 32 r17, .arr 5 32 r18]]), .box (.arr 5 32 r19)] => Hold (F_slices_Backward_api_Digest_api_Digest_1 k r1 r2 r3 r4 r5 r6 r7 r8 r9 r10 r11 r12 r13 r14 r15 r16 r17 r18 r19 (fun z0 z1 z2 z3 z4 z5 z6 z7 z8 z9 z10 z11 z12 z13 z14 z15 z16 z17 z18 z19 => K (.tup []) [.lp 53 3 [1, 2, 3] [.ptr 2 [], .ptr 3 [], .ptr 4 []] 0, .box (.ro true 23 z0), .box (.agg [.int .i64 z1, .arr 5 32 z2, .agg [.bool z3, .arr 5 32 z4], .agg [.ro true 23 z5, .bool z6, .arr 5 32 z7, .arr 5 32 z8]]), .box (.yld 5), .box (.own 9), .lp 21 7 [2, 5] [.ptr 7 [], .ptr 8 []] 0, .lst 5 z9, .box (.agg [.int .i64 z10, .arr 5 32 z11, .agg [.bool z12, .arr 5 32 z13], .agg [.ro true 23 z14, .bool z15, .arr 5 32 z16, .arr 5 32 z17]]), .box (.arr 5 32 z18), .lst 5 z19]) (fun z0 z1 z2 z3 z4 z5 z6 z7 z8 z9 z10 z11 z12 z13 z14 z15 z16 z17 z18 => K (.tup []) [.lp 53 3 [1, 2, 3] [.ptr 2 [], .ptr 3 [], .ptr 4 []] 0, .box (.ro true 23 z0), .box (.agg [.int .i64 z1, .arr 5 32 z2, .agg [.bool z3, .arr 5 32 z4], .agg [.ro true 23 z5, .bool z6, .arr 5 32 z7, .arr 5 32 z8]]), .box (.yld 5), .box (.own 6), .lp 21 7 [2, 5] [.ptr 7 [], .ptr 8 []] 0, .lst 5 z9, .box (.agg [.int .i64 z10, .arr 5 32 z11, .agg [.bool z12, .arr 5 32 z13], .agg [.ro true 23 z14, .bool z15, .arr 5 32 z16, .arr 5 32 z17]]), .box (.arr 5 32 z18)]))
  | _, _ => False
def T53 (k : Nat) : Fn PU := fun args boxes K => match args, boxes with
  | [.yld 0, .ptr 1 []], [.lp 21 7 [2, 5] [.ptr 2 [], .ptr 3 []] 0, .box (.agg [.int .i64 r1, .arr 5 32 r2, .agg [.bool r3, .arr 5 32 r4], .agg [.ro false 23 r5, .bool r6, .arr 5 32 r7, .arr 5 32 r8]]), .box (.agg [.int .i64 r9, .arr 5 32 r10, .agg [.bool r11, .arr 5 32 r12], .agg [.ro false 23 r13, .bool r14, .arr 5 32 r15, .arr 5 32 r16]]), .box (.arr 5 32 r17)] => Hold (F_proof_said_rungs_1 k r1 r2 r3 r4 r5 r6 r7 r8 r9 r10 r11 r12 r13 r14 r15 r16 r17 (fun z0 z1 z2 z3 z4 z5 z6 z7 z8 z9 z10 z11 z12 z13 z14 z15 z16 => K (.tup []) [.lp 21 7 [2, 5] [.ptr 2 [], .ptr 3 []] 0, .box (.agg [.int .i64 z0, .arr 5 32 z1, .agg [.bool z2, .arr 5 32 z3], .agg [.ro false 23 z4, .bool z5, .arr 5 32 z6, .arr 5 32 z7]]), .box (.agg [.int .i64 z8, .arr 5 32 z9, .agg [.bool z10, .arr 5 32 z11], .agg [.ro false 23 z12, .bool z13, .arr 5 32 z14, .arr 5 32 z15]]), .box (.arr 5 32 z16)]))
  | [.yld 0, .ptr 1 []], [.lp 21 7 [2, 5] [.ptr 2 [], .ptr 3 []] 0, .box (.agg [.int .i64 r1, .arr 5 32 r2, .agg [.bool r3, .arr 5 32 r4], .agg [.ro true 23 r5, .bool r6, .arr 5 32 r7, .arr 5 32 r8]]), .box (.agg [.int .i64 r9, .arr 5 32 r10, .agg [.bool r11, .arr 5 32 r12], .agg [.ro true 23 r13, .bool r14, .arr 5 32 r15, .arr 5 32 r16]]), .box (.arr 5 32 r17)] => Hold (F_proof_said_rungs_1 k r1 r2 r3 r4 r5 r6 r7 r8 r9 r10 r11 r12 r13 r14 r15 r16 r17 (fun z0 z1 z2 z3 z4 z5 z6 z7 z8 z9 z10 z11 z12 z13 z14 z15 z16 => K (.tup []) [.lp 21 7 [2, 5] [.ptr 2 [], .ptr 3 []] 0, .box (.agg [.int .i64 z0, .arr 5 32 z1, .agg [.bool z2, .arr 5 32 z3], .agg [.ro true 23 z4, .bool z5, .arr 5 32 z6, .arr 5 32 z7]]), .box (.agg [.int .i64 z8, .arr 5 32 z9, .agg [.bool z10, .arr 5 32 z11], .agg [.ro true 23 z12, .bool z13, .arr 5 32 z14, .arr 5 32 z15]]), .box (.arr 5 32 z16)]))
  | _, _ => False
def T21 (k : Nat) : Fn PU := fun args boxes K => match args, boxes with
  | [.agg [.int .i64 r1, .arr 5 32 r2, .agg [.bool r3, .arr 5 32 r4], .agg [.ro false 23 r5, .bool r6, .arr 5 32 r7, .arr 5 32 r8]], .arr 5 32 r9], [] => Hold (F_proof_said_check k r1 r2 r3 r4 r5 r6 r7 r8 r9 (fun z0 => K (.int .i64 z0) []))
  | [.agg [.int .i64 r1, .arr 5 32 r2, .agg [.bool r3, .arr 5 32 r4], .agg [.ro true 23 r5, .bool r6, .arr 5 32 r7, .arr 5 32 r8]], .arr 5 32 r9], [] => Hold (F_proof_said_check k r1 r2 r3 r4 r5 r6 r7 r8 r9 (fun z0 => K (.int .i64 z0) []))
  | _, _ => False
def T9 (k : Nat) : Fn PU := fun args boxes K => match args, boxes with
  | [.int .i64 r1, .arr 5 32 r2, .arr 5 32 r3, .agg [.bool r4, .arr 5 32 r5], .agg [.ro false 23 r6, .bool r7, .arr 5 32 r8, .arr 5 32 r9]], [] => Hold (F_proof_Check k r1 r2 r3 r4 r5 r6 r7 r8 r9 (fun z0 => K (.int .i64 z0) []))
  | [.int .i64 r1, .arr 5 32 r2, .arr 5 32 r3, .agg [.bool r4, .arr 5 32 r5], .agg [.ro true 23 r6, .bool r7, .arr 5 32 r8, .arr 5 32 r9]], [] => Hold (F_proof_Check k r1 r2 r3 r4 r5 r6 r7 r8 r9 (fun z0 => K (.int .i64 z0) []))
  | _, _ => False
def T10 (k : Nat) : Fn PU := fun args boxes K => match args, boxes with
  | [], [] => Hold (F_l06_checks k (fun z0 => K (.bool z0) []))
  | _, _ => False
def T7 (k : Nat) : Fn PU := fun args boxes K => match args, boxes with
  | [.int .i64 r1, .ro false 46 r2, .arr 5 32 r3], [] => Hold (F_l06_ProofRight k r1 r2 r3 (fun z0 => K (.bool z0) []))
  | _, _ => False
def D79_2 (k : Nat) : Nat → List (A PU) → List (AObj PU) → (A PU → List (AObj PU) → Prop) → Prop := fun nb vals objs K => match nb, vals, objs with
  | 0, [.ro true 5 r3, .ro true 5 r4, .ro true 5 r5, .int .i64 r6, .int .i64 r7], [] => Hold (C_slices_Compare_byte_byte_2 k r3 r4 r5 r6 r7 (fun z0 => K (.int .i64 z0) []))
  | _, _, _ => False
def D65_4 (k : Nat) : Nat → List (A PU) → List (AObj PU) → (A PU → List (AObj PU) → Prop) → Prop := fun nb vals objs K => match nb, vals, objs with
  | 0, [.own 0, .int .i64 r4, .int .i64 r5], [.lst 46 r6] => Hold (C_smt_twice_4 k r4 r5 r6 (fun z0 => K (.bool z0) []))
  | _, _, _ => False
def D66_5 (k : Nat) : Nat → List (A PU) → List (AObj PU) → (A PU → List (AObj PU) → Prop) → Prop := fun nb vals objs K => match nb, vals, objs with
  | 1, [.ptr 1 [], .ptr 2 [], .tr 46 r5 [], .int .i64 r6], [.box (.agg [.int .i64 r7, .int .i64 r8, .tr 46 r9 []]), .box (.arr 5 32 r10), .box (.arr 5 32 r11)] => Hold (C_smt_Tree_Get_5 k r5 r6 r7 r8 r9 r10 r11 (fun z0 z1 z2 z3 z4 => K (.tup [.arr 5 32 z0, .bool z1]) [.box (.agg [.int .i64 z2, .int .i64 z3, .tr 46 z4 []])]))
  | _, _, _ => False
def D66_11 (k : Nat) : Nat → List (A PU) → List (AObj PU) → (A PU → List (AObj PU) → Prop) → Prop := fun nb vals objs K => match nb, vals, objs with
  | 1, [.ptr 1 []], [.box (.agg [.int .i64 r14, .int .i64 r15, .tr 46 r16 []]), .box (.arr 5 32 r17)] => Hold (C_smt_Tree_Get_11 k r14 r15 r16 r17 (fun z0 z1 z2 z3 z4 => K (.tup [.arr 5 32 z0, .bool z1]) [.box (.agg [.int .i64 z2, .int .i64 z3, .tr 46 z4 []])]))
  | _, _, _ => False
def D67_3 (k : Nat) : Nat → List (A PU) → List (AObj PU) → (A PU → List (AObj PU) → Prop) → Prop := fun nb vals objs K => match nb, vals, objs with
  | 0, [.tr 46 r8 [], .int .i64 r9, .ptr 0 []], [.box (.agg [.arr 5 32 r10, .arr 5 32 r11])] => Hold (C_smt_knot_with_3 k r8 r9 r10 r11 (fun z0 => K (.tr 46 z0 []) []))
  | _, _, _ => False
def D67_8 (k : Nat) : Nat → List (A PU) → List (AObj PU) → (A PU → List (AObj PU) → Prop) → Prop := fun nb vals objs K => match nb, vals, objs with
  | 0, [.ptr 0 [], .int .i64 r16, .ptr 1 []], [.box (.agg [.agg [.gh r17, .arr 5 32 r18], .agg [.arr 5 32 r19, .arr 5 32 r20], .tr 46 r21 [], .tr 46 r22 []]), .box (.agg [.arr 5 32 r23, .arr 5 32 r24])] => Hold (C_smt_knot_with_8 k r16 r17 r18 r19 r20 r21 r22 r23 r24 (fun z0 => K (.tr 46 z0 []) []))
  | 0, [.tr 46 r38 [], .int .i64 r39, .ptr 0 []], [.box (.agg [.arr 5 32 r40, .arr 5 32 r41])] => Hold (C_smt_knot_with_8_1 k r38 r39 r40 r41 (fun z0 => K (.tr 46 z0 []) []))
  | _, _, _ => False
def D67_9 (k : Nat) : Nat → List (A PU) → List (AObj PU) → (A PU → List (AObj PU) → Prop) → Prop := fun nb vals objs K => match nb, vals, objs with
  | 0, [.int .i64 r26, .ptr 0 [], .ptr 1 []], [.box (.agg [.arr 5 32 r27, .arr 5 32 r28]), .box (.agg [.agg [.gh r29, .arr 5 32 r30], .agg [.arr 5 32 r31, .arr 5 32 r32], .tr 46 r33 [], .tr 46 r34 []])] => Hold (C_smt_knot_with_9 k r26 r27 r28 r29 r30 r31 r32 r33 r34 (fun z0 => K (.tr 46 z0 []) []))
  | _, _, _ => False
def D42_9 (k : Nat) : Nat → List (A PU) → List (AObj PU) → (A PU → List (AObj PU) → Prop) → Prop := fun nb vals objs K => match nb, vals, objs with
  | 1, [.ptr 0 [], .tr 46 r6 [], .int .i64 r7, .ro false 46 r8, .int .i64 r9, .int .i64 r10], [.box (.agg [.int .i64 r11, .int .i64 r12, .tr 46 r13 []])] => Hold (C_smt_Tree_Set_9 k r6 r7 r8 r9 r10 r11 r12 r13 (fun z0 z1 z2 z3 => K (.int .i64 z0) [.box (.agg [.int .i64 z1, .int .i64 z2, .tr 46 z3 []])]))
  | 1, [.ptr 0 [], .tr 46 r6 [], .int .i64 r7, .ro true 46 r8, .int .i64 r9, .int .i64 r10], [.box (.agg [.int .i64 r11, .int .i64 r12, .tr 46 r13 []])] => Hold (C_smt_Tree_Set_9 k r6 r7 r8 r9 r10 r11 r12 r13 (fun z0 z1 z2 z3 => K (.int .i64 z0) [.box (.agg [.int .i64 z1, .int .i64 z2, .tr 46 z3 []])]))
  | _, _, _ => False
def D75_2 (k : Nat) : Nat → List (A PU) → List (AObj PU) → (A PU → List (AObj PU) → Prop) → Prop := fun nb vals objs K => match nb, vals, objs with
  | 1, [.ptr 0 [], .ptr 1 [], .int .i64 r4], [.box (.agg [.arr 104 8 r5, .arr 5 64 r6, .int .i64 r7]), .box (.arr 104 64 r8)] => Hold (C_sha_Hash_mix_2 k r4 r5 r6 r7 r8 (fun z0 z1 z2 => K (.tup []) [.box (.agg [.arr 104 8 z0, .arr 5 64 z1, .int .i64 z2])]))
  | _, _, _ => False
def D75_11 (k : Nat) : Nat → List (A PU) → List (AObj PU) → (A PU → List (AObj PU) → Prop) → Prop := fun nb vals objs K => match nb, vals, objs with
  | 1, [.ptr 0 [], .ptr 1 [], .int .i64 r9], [.box (.agg [.arr 104 8 r10, .arr 5 64 r11, .int .i64 r12]), .box (.arr 104 64 r13)] => Hold (C_sha_Hash_mix_11 k r9 r10 r11 r12 r13 (fun z0 z1 z2 => K (.tup []) [.box (.agg [.arr 104 8 z0, .arr 5 64 z1, .int .i64 z2])]))
  | _, _, _ => False
def D75_14 (k : Nat) : Nat → List (A PU) → List (AObj PU) → (A PU → List (AObj PU) → Prop) → Prop := fun nb vals objs K => match nb, vals, objs with
  | 1, [.ptr 0 [], .int .u32 r18, .int .u32 r19, .int .u32 r20, .int .u32 r21, .int .u32 r22, .int .u32 r23, .int .u32 r24, .int .u32 r25, .arr 104 64 r26, .int .i64 r27], [.box (.agg [.arr 104 8 r28, .arr 5 64 r29, .int .i64 r30])] => Hold (C_sha_Hash_mix_14 k r18 r19 r20 r21 r22 r23 r24 r25 r26 r27 r28 r29 r30 (fun z0 z1 z2 => K (.tup []) [.box (.agg [.arr 104 8 z0, .arr 5 64 z1, .int .i64 z2])]))
  | _, _, _ => False
def D75_23 (k : Nat) : Nat → List (A PU) → List (AObj PU) → (A PU → List (AObj PU) → Prop) → Prop := fun nb vals objs K => match nb, vals, objs with
  | 1, [.ptr 0 [], .arr 104 8 r37, .int .i64 r38], [.box (.agg [.arr 104 8 r39, .arr 5 64 r40, .int .i64 r41])] => Hold (C_sha_Hash_mix_23 k r37 r38 r39 r40 r41 (fun z0 z1 z2 => K (.tup []) [.box (.agg [.arr 104 8 z0, .arr 5 64 z1, .int .i64 z2])]))
  | _, _, _ => False
def D58_3 (k : Nat) : Nat → List (A PU) → List (AObj PU) → (A PU → List (AObj PU) → Prop) → Prop := fun nb vals objs K => match nb, vals, objs with
  | 1, [.ptr 0 [], .ro false 5 r5], [.box (.agg [.arr 104 8 r6, .arr 5 64 r7, .int .i64 r8])] => Hold (C_sha_Hash_Write_3 k r5 r6 r7 r8 (fun z0 z1 z2 z3 => K (.int .i64 z0) [.box (.agg [.arr 104 8 z1, .arr 5 64 z2, .int .i64 z3])]))
  | 1, [.ptr 0 [], .ro true 5 r5], [.box (.agg [.arr 104 8 r6, .arr 5 64 r7, .int .i64 r8])] => Hold (C_sha_Hash_Write_3 k r5 r6 r7 r8 (fun z0 z1 z2 z3 => K (.int .i64 z0) [.box (.agg [.arr 104 8 z1, .arr 5 64 z2, .int .i64 z3])]))
  | _, _, _ => False
def D59_9 (k : Nat) : Nat → List (A PU) → List (AObj PU) → (A PU → List (AObj PU) → Prop) → Prop := fun nb vals objs K => match nb, vals, objs with
  | 1, [.ptr 0 [], .ptr 1 [], .ptr 2 [], .ptr 3 [], .ptr 4 [], .int .i64 r8, .int .i64 r9], [.box (.agg [.arr 104 8 r10, .arr 5 64 r11, .int .i64 r12]), .box (.arr 5 32 r13), .box (.arr 5 32 r14), .box (.agg [.arr 104 8 r15, .arr 5 64 r16, .int .i64 r17]), .box (.arr 5 72 r18)] => Hold (C_sha_Hash_Sum_9 k r8 r9 r10 r11 r12 r13 r14 r15 r16 r17 r18 (fun z0 z1 z2 z3 => K (.arr 5 32 z0) [.box (.agg [.arr 104 8 z1, .arr 5 64 z2, .int .i64 z3])]))
  | _, _, _ => False
def D59_15 (k : Nat) : Nat → List (A PU) → List (AObj PU) → (A PU → List (AObj PU) → Prop) → Prop := fun nb vals objs K => match nb, vals, objs with
  | 1, [.ptr 1 [], .ptr 2 [], .ptr 3 [], .int .i64 r23], [.box (.agg [.arr 104 8 r24, .arr 5 64 r25, .int .i64 r26]), .box (.arr 5 32 r27), .box (.arr 5 32 r28), .box (.agg [.arr 104 8 r29, .arr 5 64 r30, .int .i64 r31])] => Hold (C_sha_Hash_Sum_15 k r23 r24 r25 r26 r27 r28 r29 r30 r31 (fun z0 z1 z2 z3 => K (.arr 5 32 z0) [.box (.agg [.arr 104 8 z1, .arr 5 64 z2, .int .i64 z3])]))
  | _, _, _ => False
def D32_4 (k : Nat) : Nat → List (A PU) → List (AObj PU) → (A PU → List (AObj PU) → Prop) → Prop := fun nb vals objs K => match nb, vals, objs with
  | 0, [.ptr 0 [], .ptr 1 []], [.box (.arr 5 32 r4), .box (.arr 5 32 r5)] => Hold (C_smt_short_4 k r4 r5 (fun z0 => K (.arr 5 32 z0) []))
  | _, _, _ => False
def D45_4 (k : Nat) : Nat → List (A PU) → List (AObj PU) → (A PU → List (AObj PU) → Prop) → Prop := fun nb vals objs K => match nb, vals, objs with
  | 0, [.int .i64 r11, .ptr 0 [], .ptr 1 [], .ro true 23 r12, .int .i64 r13, .int .i64 r14], [.box (.arr 5 32 r15), .box (.agg [.arr 104 8 r16, .arr 5 64 r17, .int .i64 r18])] => Hold (C_smt_summed_4 k r11 r12 r13 r14 r15 r16 r17 r18 (fun z0 => K (.arr 5 32 z0) []))
  | 0, [.int .i64 r11, .ptr 0 [], .ptr 1 [], .ro false 23 r12, .int .i64 r13, .int .i64 r14], [.box (.arr 5 32 r15), .box (.agg [.arr 104 8 r16, .arr 5 64 r17, .int .i64 r18])] => Hold (C_smt_summed_4 k r11 r12 r13 r14 r15 r16 r17 r18 (fun z0 => K (.arr 5 32 z0) []))
  | _, _, _ => False
def D20_2 (k : Nat) : Nat → List (A PU) → List (AObj PU) → (A PU → List (AObj PU) → Prop) → Prop := fun nb vals objs K => match nb, vals, objs with
  | 0, [.ro false 46 r4, .ptr 0 [], .nilp, .int .i64 r5], [.box (.arr 5 32 r6)] => Hold (C_smt_Root_2 k r4 r5 r6 (fun z0 z1 => K (.tup [.arr 5 32 z0, .int .i64 z1]) []))
  | 0, [.ro false 46 r21, .ptr 0 [], .ptr 1 [], .int .i64 r22], [.box (.arr 5 32 r23), .box (.agg [.int .i64 r24, .int .i64 r25, .tr 46 r26 []])] => Hold (C_smt_Root_2_1 k r21 r22 r23 r24 r25 r26 (fun z0 z1 => K (.tup [.arr 5 32 z0, .int .i64 z1]) []))
  | 0, [.ro true 46 r4, .ptr 0 [], .nilp, .int .i64 r5], [.box (.arr 5 32 r6)] => Hold (C_smt_Root_2 k r4 r5 r6 (fun z0 z1 => K (.tup [.arr 5 32 z0, .int .i64 z1]) []))
  | 0, [.ro true 46 r14, .ptr 0 [], .ptr 1 [], .int .i64 r15], [.box (.arr 5 32 r16), .box (.agg [.int .i64 r17, .int .i64 r18, .tr 46 r19 []])] => Hold (C_smt_Root_2_1 k r14 r15 r16 r17 r18 r19 (fun z0 z1 => K (.tup [.arr 5 32 z0, .int .i64 z1]) []))
  | _, _, _ => False
def D20_3 (k : Nat) : Nat → List (A PU) → List (AObj PU) → (A PU → List (AObj PU) → Prop) → Prop := fun nb vals objs K => match nb, vals, objs with
  | 0, [.ptr 0 [], .int .i64 r7], [.box (.arr 5 32 r8)] => Hold (C_smt_Root_3 k r7 r8 (fun z0 z1 => K (.tup [.arr 5 32 z0, .int .i64 z1]) []))
  | _, _, _ => False
def D20_4 (k : Nat) : Nat → List (A PU) → List (AObj PU) → (A PU → List (AObj PU) → Prop) → Prop := fun nb vals objs K => match nb, vals, objs with
  | 0, [.ro false 46 r9, .ptr 0 [], .nilp], [.box (.arr 5 32 r10)] => Hold (C_smt_Root_4 k r9 r10 (fun z0 z1 => K (.tup [.arr 5 32 z0, .int .i64 z1]) []))
  | 0, [.ro false 46 r27, .ptr 0 [], .ptr 1 []], [.box (.arr 5 32 r28), .box (.agg [.int .i64 r29, .int .i64 r30, .tr 46 r31 []])] => Hold (C_smt_Root_4_1 k r27 r28 r29 r30 r31 (fun z0 z1 => K (.tup [.arr 5 32 z0, .int .i64 z1]) []))
  | 0, [.ro true 46 r7, .ptr 0 [], .nilp], [.box (.arr 5 32 r8)] => Hold (C_smt_Root_4 k r7 r8 (fun z0 z1 => K (.tup [.arr 5 32 z0, .int .i64 z1]) []))
  | 0, [.ro true 46 r20, .ptr 0 [], .ptr 1 []], [.box (.arr 5 32 r21), .box (.agg [.int .i64 r22, .int .i64 r23, .tr 46 r24 []])] => Hold (C_smt_Root_4_1 k r20 r21 r22 r23 r24 (fun z0 z1 => K (.tup [.arr 5 32 z0, .int .i64 z1]) []))
  | _, _, _ => False
def D20_5 (k : Nat) : Nat → List (A PU) → List (AObj PU) → (A PU → List (AObj PU) → Prop) → Prop := fun nb vals objs K => match nb, vals, objs with
  | 0, [.ptr 0 [], .nilp, .int .i64 r12], [.box (.arr 5 32 r13)] => Hold (C_smt_Root_5 k r12 r13 (fun z0 z1 => K (.tup [.arr 5 32 z0, .int .i64 z1]) []))
  | 0, [.ptr 0 [], .ptr 1 [], .int .i64 r36], [.box (.arr 5 32 r37), .box (.agg [.int .i64 r38, .int .i64 r39, .tr 46 r40 []])] => Hold (C_smt_Root_5_1 k r36 r37 r38 r39 r40 (fun z0 z1 => K (.tup [.arr 5 32 z0, .int .i64 z1]) []))
  | _, _, _ => False
def D20_6 (k : Nat) : Nat → List (A PU) → List (AObj PU) → (A PU → List (AObj PU) → Prop) → Prop := fun nb vals objs K => match nb, vals, objs with
  | 0, [.ptr 0 [], .int .i64 r14], [.box (.arr 5 32 r15)] => Hold (C_smt_Root_6 k r14 r15 (fun z0 z1 => K (.tup [.arr 5 32 z0, .int .i64 z1]) []))
  | _, _, _ => False
def D61_2 (k : Nat) : Nat → List (A PU) → List (AObj PU) → (A PU → List (AObj PU) → Prop) → Prop := fun nb vals objs K => match nb, vals, objs with
  | 1, [.ro true 46 r3, .clo 62 [.ptr 0 []], .int .i64 r4, .int .i64 r5], [.box (.int .i64 r6)] => Hold (C_slices_IndexFunc_api_Leaf_api_Leaf_2 k r3 r4 r5 r6 (fun z0 z1 => K (.int .i64 z0) [.box (.int .i64 z1)]))
  | _, _, _ => False
def D36_11 (k : Nat) : Nat → List (A PU) → List (AObj PU) → (A PU → List (AObj PU) → Prop) → Prop := fun nb vals objs K => match nb, vals, objs with
  | 0, [.int .i64 r11, .ptr 0 [], .ptr 1 [], .own 2, .own 3, .ro true 46 r12, .int .i64 r13, .int .i64 r14], [.box (.int .i64 r15), .box (.arr 5 32 r16), .lst 46 r17, .lst 46 r18] => Hold (C_proof_at_11 k r11 r12 r13 r14 r15 r16 r17 r18 (fun z0 => K (.arr 5 32 z0) []))
  | _, _, _ => False
def D36_16 (k : Nat) : Nat → List (A PU) → List (AObj PU) → (A PU → List (AObj PU) → Prop) → Prop := fun nb vals objs K => match nb, vals, objs with
  | 0, [.int .i64 r20, .ptr 0 [], .ptr 1 [], .own 2, .own 3, .ro true 46 r21, .int .i64 r22, .int .i64 r23], [.box (.int .i64 r24), .box (.arr 5 32 r25), .lst 46 r26, .lst 46 r27] => Hold (C_proof_at_16 k r20 r21 r22 r23 r24 r25 r26 r27 (fun z0 => K (.arr 5 32 z0) []))
  | _, _, _ => False
def D17_6 (k : Nat) : Nat → List (A PU) → List (AObj PU) → (A PU → List (AObj PU) → Prop) → Prop := fun nb vals objs K => match nb, vals, objs with
  | 0, [.int .i64 r7, .ptr 0 [], .ptr 1 [], .ptr 2 [], .own 3, .int .i64 r8], [.box (.arr 5 32 r9), .box (.agg [.bool r10, .arr 5 32 r11]), .box (.agg [.own 4, .bool r12, .arr 5 32 r13, .arr 5 32 r14]), .lst 46 r15, .lst 23 r16] => Hold (C_proof_Make_6 k r7 r8 r9 r10 r11 r12 r13 r14 r15 r16 (fun z0 z1 z2 z3 z4 z5 z6 => K (.tup [.agg [.bool z0, .arr 5 32 z1], .agg [.usl 23 z2, .bool z3, .arr 5 32 z4, .arr 5 32 z5], .int .i64 z6]) []))
  | _, _, _ => False
def D17_10 (k : Nat) : Nat → List (A PU) → List (AObj PU) → (A PU → List (AObj PU) → Prop) → Prop := fun nb vals objs K => match nb, vals, objs with
  | 0, [.int .i64 r17, .ptr 0 [], .ptr 1 [], .ptr 2 [], .int .i64 r18, .own 3, .own 4, .own 5, .int .i64 r19, .int .i64 r20], [.box (.arr 5 32 r21), .box (.agg [.bool r22, .arr 5 32 r23]), .box (.agg [.own 6, .bool r24, .arr 5 32 r25, .arr 5 32 r26]), .lst 46 r27, .lst 46 r28, .lst 46 r29, .lst 23 r30] => Hold (C_proof_Make_10 k r17 r18 r19 r20 r21 r22 r23 r24 r25 r26 r27 r28 r29 r30 (fun z0 z1 z2 z3 z4 z5 z6 => K (.tup [.agg [.bool z0, .arr 5 32 z1], .agg [.usl 23 z2, .bool z3, .arr 5 32 z4, .arr 5 32 z5], .int .i64 z6]) []))
  | _, _, _ => False
def D17_15 (k : Nat) : Nat → List (A PU) → List (AObj PU) → (A PU → List (AObj PU) → Prop) → Prop := fun nb vals objs K => match nb, vals, objs with
  | 0, [.int .i64 r33, .ptr 0 [], .ptr 1 [], .ptr 2 [], .int .i64 r34, .own 3, .own 4, .own 5, .int .i64 r35, .int .i64 r36], [.box (.arr 5 32 r37), .box (.agg [.bool r38, .arr 5 32 r39]), .box (.agg [.own 6, .bool r40, .arr 5 32 r41, .arr 5 32 r42]), .lst 46 r43, .lst 46 r44, .lst 46 r45, .lst 23 r46] => Hold (C_proof_Make_15 k r33 r34 r35 r36 r37 r38 r39 r40 r41 r42 r43 r44 r45 r46 (fun z0 z1 z2 z3 z4 z5 z6 => K (.tup [.agg [.bool z0, .arr 5 32 z1], .agg [.usl 23 z2, .bool z3, .arr 5 32 z4, .arr 5 32 z5], .int .i64 z6]) []))
  | _, _, _ => False
def D17_22 (k : Nat) : Nat → List (A PU) → List (AObj PU) → (A PU → List (AObj PU) → Prop) → Prop := fun nb vals objs K => match nb, vals, objs with
  | 0, [.ptr 0 [], .ptr 1 []], [.box (.agg [.bool r48, .arr 5 32 r49]), .box (.agg [.own 2, .bool r50, .arr 5 32 r51, .arr 5 32 r52]), .lst 23 r53] => Hold (C_proof_Make_22 k r48 r49 r50 r51 r52 r53 (fun z0 z1 z2 z3 z4 z5 z6 => K (.tup [.agg [.bool z0, .arr 5 32 z1], .agg [.usl 23 z2, .bool z3, .arr 5 32 z4, .arr 5 32 z5], .int .i64 z6]) []))
  | _, _, _ => False
def D19_2 (k : Nat) : Nat → List (A PU) → List (AObj PU) → (A PU → List (AObj PU) → Prop) → Prop := fun nb vals objs K => match nb, vals, objs with
  | 0, [.ptr 0 [], .ptr 1 [], .int .i64 r3], [.box (.arr 5 32 r4), .box (.arr 5 32 r5)] => Hold (C_path_Common_2 k r3 r4 r5 (fun z0 => K (.int .i64 z0) []))
  | _, _, _ => False
def D6_9 (k : Nat) : Nat → List (A PU) → List (AObj PU) → (A PU → List (AObj PU) → Prop) → Prop := fun nb vals objs K => match nb, vals, objs with
  | 0, [.ro false 46 r12, .ptr 0 [], .ptr 1 [], .int .i64 r13, .int .i64 r14, .int .i64 r15], [.box (.arr 5 32 r16), .box (.agg [.own 2, .bool r17, .arr 5 32 r18, .arr 5 32 r19]), .lst 23 r20] => Hold (C_l06_ProofDepth_9 k r12 r13 r14 r15 r16 r17 r18 r19 r20 (fun z0 => K (.bool z0) []))
  | _, _, _ => False
def D44_4 (k : Nat) : Nat → List (A PU) → List (AObj PU) → (A PU → List (AObj PU) → Prop) → Prop := fun nb vals objs K => match nb, vals, objs with
  | 0, [.ptr 0 [], .ptr 1 []], [.box (.agg [.int .i64 r9, .arr 5 32 r10, .agg [.bool r11, .arr 5 32 r12], .agg [.ro false 23 r13, .bool r14, .arr 5 32 r15, .arr 5 32 r16]]), .box (.agg [.ro false 23 r17, .bool r18, .arr 5 32 r19, .arr 5 32 r20])] => Hold (C_proof_said_may_4 k r9 r10 r11 r12 r13 r14 r15 r16 r17 r18 r19 r20 (fun z0 => K (.bool z0) []))
  | 0, [.ptr 0 [], .ptr 1 []], [.box (.agg [.int .i64 r9, .arr 5 32 r10, .agg [.bool r11, .arr 5 32 r12], .agg [.ro true 23 r13, .bool r14, .arr 5 32 r15, .arr 5 32 r16]]), .box (.agg [.ro true 23 r17, .bool r18, .arr 5 32 r19, .arr 5 32 r20])] => Hold (C_proof_said_may_4 k r9 r10 r11 r12 r13 r14 r15 r16 r17 r18 r19 r20 (fun z0 => K (.bool z0) []))
  | _, _, _ => False
def D56_3 (k : Nat) : Nat → List (A PU) → List (AObj PU) → (A PU → List (AObj PU) → Prop) → Prop := fun nb vals objs K => match nb, vals, objs with
  | 0, [.own 0, .ro true 23 r3, .int .i64 r4, .int .i64 r5], [.lst 5 r6] => Hold (C_proof_bytes_3 k r3 r4 r5 r6 (fun z0 => K (.usl 5 z0) []))
  | 0, [.own 0, .ro false 23 r3, .int .i64 r4, .int .i64 r5], [.lst 5 r6] => Hold (C_proof_bytes_3 k r3 r4 r5 r6 (fun z0 => K (.usl 5 z0) []))
  | _, _, _ => False
def D74_1 (k : Nat) : Nat → List (A PU) → List (AObj PU) → (A PU → List (AObj PU) → Prop) → Prop := fun nb vals objs K => match nb, vals, objs with
  | 9, [.yld 0, .ptr 1 [], .int .i64 r20], [.lp 53 3 [1, 2, 3] [.ptr 2 [], .ptr 3 [], .ptr 4 []] 0, .box (.ro false 23 r21), .box (.agg [.int .i64 r22, .arr 5 32 r23, .agg [.bool r24, .arr 5 32 r25], .agg [.ro false 23 r26, .bool r27, .arr 5 32 r28, .arr 5 32 r29]]), .box (.yld 5), .box (.own 6), .lp 21 7 [2, 5] [.ptr 7 [], .ptr 8 []] 0, .lst 5 r30, .box (.agg [.int .i64 r31, .arr 5 32 r32, .agg [.bool r33, .arr 5 32 r34], .agg [.ro false 23 r35, .bool r36, .arr 5 32 r37, .arr 5 32 r38]]), .box (.arr 5 32 r39)] => Hold (C_slices_Backward_api_Digest_api_Digest_1_1 k r20 r21 r22 r23 r24 r25 r26 r27 r28 r29 r30 r31 r32 r33 r34 r35 r36 r37 r38 r39 (fun z0 z1 z2 z3 z4 z5 z6 z7 z8 z9 z10 z11 z12 z13 z14 z15 z16 z17 z18 z19 => K (.tup []) [.lp 53 3 [1, 2, 3] [.ptr 2 [], .ptr 3 [], .ptr 4 []] 0, .box (.ro false 23 z0), .box (.agg [.int .i64 z1, .arr 5 32 z2, .agg [.bool z3, .arr 5 32 z4], .agg [.ro false 23 z5, .bool z6, .arr 5 32 z7, .arr 5 32 z8]]), .box (.yld 5), .box (.own 9), .lp 21 7 [2, 5] [.ptr 7 [], .ptr 8 []] 0, .lst 5 z9, .box (.agg [.int .i64 z10, .arr 5 32 z11, .agg [.bool z12, .arr 5 32 z13], .agg [.ro false 23 z14, .bool z15, .arr 5 32 z16, .arr 5 32 z17]]), .box (.arr 5 32 z18), .lst 5 z19]) (fun z0 z1 z2 z3 z4 z5 z6 z7 z8 z9 z10 z11 z12 z13 z14 z15 z16 z17 z18 => K (.tup []) [.lp 53 3 [1, 2, 3] [.ptr 2 [], .ptr 3 [], .ptr 4 []] 0, .box (.ro false 23 z0), .box (.agg [.int .i64 z1, .arr 5 32 z2, .agg [.bool z3, .arr 5 32 z4], .agg [.ro false 23 z5, .bool z6, .arr 5 32 z7, .arr 5 32 z8]]), .box (.yld 5), .box (.own 6), .lp 21 7 [2, 5] [.ptr 7 [], .ptr 8 []] 0, .lst 5 z9, .box (.agg [.int .i64 z10, .arr 5 32 z11, .agg [.bool z12, .arr 5 32 z13], .agg [.ro false 23 z14, .bool z15, .arr 5 32 z16, .arr 5 32 z17]]), .box (.arr 5 32 z18)]))
  | 9, [.yld 0, .ptr 1 [], .int .i64 r79], [.lp 53 3 [1, 2, 3] [.ptr 2 [], .ptr 3 [], .ptr 4 []] 0, .box (.ro false 23 r80), .box (.agg [.int .i64 r81, .arr 5 32 r82, .agg [.bool r83, .arr 5 32 r84], .agg [.ro false 23 r85, .bool r86, .arr 5 32 r87, .arr 5 32 r88]]), .box (.yld 5), .box (.own 9), .lp 21 7 [2, 5] [.ptr 7 [], .ptr 8 []] 0, .lst 5 r89, .box (.agg [.int .i64 r90, .arr 5 32 r91, .agg [.bool r92, .arr 5 32 r93], .agg [.ro false 23 r94, .bool r95, .arr 5 32 r96, .arr 5 32 r97]]), .box (.arr 5 32 r98), .lst 5 r99] => Hold (C_slices_Backward_api_Digest_api_Digest_1_1_1 k r79 r80 r81 r82 r83 r84 r85 r86 r87 r88 r89 r90 r91 r92 r93 r94 r95 r96 r97 r98 r99 (fun z0 z1 z2 z3 z4 z5 z6 z7 z8 z9 z10 z11 z12 z13 z14 z15 z16 z17 z18 z19 => K (.tup []) [.lp 53 3 [1, 2, 3] [.ptr 2 [], .ptr 3 [], .ptr 4 []] 0, .box (.ro false 23 z0), .box (.agg [.int .i64 z1, .arr 5 32 z2, .agg [.bool z3, .arr 5 32 z4], .agg [.ro false 23 z5, .bool z6, .arr 5 32 z7, .arr 5 32 z8]]), .box (.yld 5), .box (.own 9), .lp 21 7 [2, 5] [.ptr 7 [], .ptr 8 []] 0, .lst 5 z9, .box (.agg [.int .i64 z10, .arr 5 32 z11, .agg [.bool z12, .arr 5 32 z13], .agg [.ro false 23 z14, .bool z15, .arr 5 32 z16, .arr 5 32 z17]]), .box (.arr 5 32 z18), .lst 5 z19]))
  | 9, [.yld 0, .ptr 1 [], .int .i64 r20], [.lp 53 3 [1, 2, 3] [.ptr 2 [], .ptr 3 [], .ptr 4 []] 0, .box (.ro true 23 r21), .box (.agg [.int .i64 r22, .arr 5 32 r23, .agg [.bool r24, .arr 5 32 r25], .agg [.ro true 23 r26, .bool r27, .arr 5 32 r28, .arr 5 32 r29]]), .box (.yld 5), .box (.own 6), .lp 21 7 [2, 5] [.ptr 7 [], .ptr 8 []] 0, .lst 5 r30, .box (.agg [.int .i64 r31, .arr 5 32 r32, .agg [.bool r33, .arr 5 32 r34], .agg [.ro true 23 r35, .bool r36, .arr 5 32 r37, .arr 5 32 r38]]), .box (.arr 5 32 r39)] => Hold (C_slices_Backward_api_Digest_api_Digest_1_1 k r20 r21 r22 r23 r24 r25 r26 r27 r28 r29 r30 r31 r32 r33 r34 r35 r36 r37 r38 r39 (fun z0 z1 z2 z3 z4 z5 z6 z7 z8 z9 z10 z11 z12 z13 z14 z15 z16 z17 z18 z19 => K (.tup []) [.lp 53 3 [1, 2, 3] [.ptr 2 [], .ptr 3 [], .ptr 4 []] 0, .box (.ro true 23 z0), .box (.agg [.int .i64 z1, .arr 5 32 z2, .agg [.bool z3, .arr 5 32 z4], .agg [.ro true 23 z5, .bool z6, .arr 5 32 z7, .arr 5 32 z8]]), .box (.yld 5), .box (.own 9), .lp 21 7 [2, 5] [.ptr 7 [], .ptr 8 []] 0, .lst 5 z9, .box (.agg [.int .i64 z10, .arr 5 32 z11, .agg [.bool z12, .arr 5 32 z13], .agg [.ro true 23 z14, .bool z15, .arr 5 32 z16, .arr 5 32 z17]]), .box (.arr 5 32 z18), .lst 5 z19]) (fun z0 z1 z2 z3 z4 z5 z6 z7 z8 z9 z10 z11 z12 z13 z14 z15 z16 z17 z18 => K (.tup []) [.lp 53 3 [1, 2, 3] [.ptr 2 [], .ptr 3 [], .ptr 4 []] 0, .box (.ro true 23 z0), .box (.agg [.int .i64 z1, .arr 5 32 z2, .agg [.bool z3, .arr 5 32 z4], .agg [.ro true 23 z5, .bool z6, .arr 5 32 z7, .arr 5 32 z8]]), .box (.yld 5), .box (.own 6), .lp 21 7 [2, 5] [.ptr 7 [], .ptr 8 []] 0, .lst 5 z9, .box (.agg [.int .i64 z10, .arr 5 32 z11, .agg [.bool z12, .arr 5 32 z13], .agg [.ro true 23 z14, .bool z15, .arr 5 32 z16, .arr 5 32 z17]]), .box (.arr 5 32 z18)]))
  | 9, [.yld 0, .ptr 1 [], .int .i64 r79], [.lp 53 3 [1, 2, 3] [.ptr 2 [], .ptr 3 [], .ptr 4 []] 0, .box (.ro true 23 r80), .box (.agg [.int .i64 r81, .arr 5 32 r82, .agg [.bool r83, .arr 5 32 r84], .agg [.ro true 23 r85, .bool r86, .arr 5 32 r87, .arr 5 32 r88]]), .box (.yld 5), .box (.own 9), .lp 21 7 [2, 5] [.ptr 7 [], .ptr 8 []] 0, .lst 5 r89, .box (.agg [.int .i64 r90, .arr 5 32 r91, .agg [.bool r92, .arr 5 32 r93], .agg [.ro true 23 r94, .bool r95, .arr 5 32 r96, .arr 5 32 r97]]), .box (.arr 5 32 r98), .lst 5 r99] => Hold (C_slices_Backward_api_Digest_api_Digest_1_1_1 k r79 r80 r81 r82 r83 r84 r85 r86 r87 r88 r89 r90 r91 r92 r93 r94 r95 r96 r97 r98 r99 (fun z0 z1 z2 z3 z4 z5 z6 z7 z8 z9 z10 z11 z12 z13 z14 z15 z16 z17 z18 z19 => K (.tup []) [.lp 53 3 [1, 2, 3] [.ptr 2 [], .ptr 3 [], .ptr 4 []] 0, .box (.ro true 23 z0), .box (.agg [.int .i64 z1, .arr 5 32 z2, .agg [.bool z3, .arr 5 32 z4], .agg [.ro true 23 z5, .bool z6, .arr 5 32 z7, .arr 5 32 z8]]), .box (.yld 5), .box (.own 9), .lp 21 7 [2, 5] [.ptr 7 [], .ptr 8 []] 0, .lst 5 z9, .box (.agg [.int .i64 z10, .arr 5 32 z11, .agg [.bool z12, .arr 5 32 z13], .agg [.ro true 23 z14, .bool z15, .arr 5 32 z16, .arr 5 32 z17]]), .box (.arr 5 32 z18), .lst 5 z19]))
  | _, _, _ => False
def D74_3 (k : Nat) : Nat → List (A PU) → List (AObj PU) → (A PU → List (AObj PU) → Prop) → Prop := fun nb vals objs K => match nb, vals, objs with
  | 9, [.yld 0, .ptr 1 [], .int .i64 r40], [.lp 53 3 [1, 2, 3] [.ptr 2 [], .ptr 3 [], .ptr 4 []] 0, .box (.ro false 23 r41), .box (.agg [.int .i64 r42, .arr 5 32 r43, .agg [.bool r44, .arr 5 32 r45], .agg [.ro false 23 r46, .bool r47, .arr 5 32 r48, .arr 5 32 r49]]), .box (.yld 5), .box (.own 6), .lp 21 7 [2, 5] [.ptr 7 [], .ptr 8 []] 0, .lst 5 r50, .box (.agg [.int .i64 r51, .arr 5 32 r52, .agg [.bool r53, .arr 5 32 r54], .agg [.ro false 23 r55, .bool r56, .arr 5 32 r57, .arr 5 32 r58]]), .box (.arr 5 32 r59)] => Hold (C_slices_Backward_api_Digest_api_Digest_1_3 k r40 r41 r42 r43 r44 r45 r46 r47 r48 r49 r50 r51 r52 r53 r54 r55 r56 r57 r58 r59 (fun z0 z1 z2 z3 z4 z5 z6 z7 z8 z9 z10 z11 z12 z13 z14 z15 z16 z17 z18 z19 => K (.tup []) [.lp 53 3 [1, 2, 3] [.ptr 2 [], .ptr 3 [], .ptr 4 []] 0, .box (.ro false 23 z0), .box (.agg [.int .i64 z1, .arr 5 32 z2, .agg [.bool z3, .arr 5 32 z4], .agg [.ro false 23 z5, .bool z6, .arr 5 32 z7, .arr 5 32 z8]]), .box (.yld 5), .box (.own 9), .lp 21 7 [2, 5] [.ptr 7 [], .ptr 8 []] 0, .lst 5 z9, .box (.agg [.int .i64 z10, .arr 5 32 z11, .agg [.bool z12, .arr 5 32 z13], .agg [.ro false 23 z14, .bool z15, .arr 5 32 z16, .arr 5 32 z17]]), .box (.arr 5 32 z18), .lst 5 z19]))
  | 9, [.yld 0, .ptr 1 [], .int .i64 r100], [.lp 53 3 [1, 2, 3] [.ptr 2 [], .ptr 3 [], .ptr 4 []] 0, .box (.ro false 23 r101), .box (.agg [.int .i64 r102, .arr 5 32 r103, .agg [.bool r104, .arr 5 32 r105], .agg [.ro false 23 r106, .bool r107, .arr 5 32 r108, .arr 5 32 r109]]), .box (.yld 5), .box (.own 9), .lp 21 7 [2, 5] [.ptr 7 [], .ptr 8 []] 0, .lst 5 r110, .box (.agg [.int .i64 r111, .arr 5 32 r112, .agg [.bool r113, .arr 5 32 r114], .agg [.ro false 23 r115, .bool r116, .arr 5 32 r117, .arr 5 32 r118]]), .box (.arr 5 32 r119), .lst 5 r120] => Hold (C_slices_Backward_api_Digest_api_Digest_1_3_1 k r100 r101 r102 r103 r104 r105 r106 r107 r108 r109 r110 r111 r112 r113 r114 r115 r116 r117 r118 r119 r120 (fun z0 z1 z2 z3 z4 z5 z6 z7 z8 z9 z10 z11 z12 z13 z14 z15 z16 z17 z18 z19 => K (.tup []) [.lp 53 3 [1, 2, 3] [.ptr 2 [], .ptr 3 [], .ptr 4 []] 0, .box (.ro false 23 z0), .box (.agg [.int .i64 z1, .arr 5 32 z2, .agg [.bool z3, .arr 5 32 z4], .agg [.ro false 23 z5, .bool z6, .arr 5 32 z7, .arr 5 32 z8]]), .box (.yld 5), .box (.own 9), .lp 21 7 [2, 5] [.ptr 7 [], .ptr 8 []] 0, .lst 5 z9, .box (.agg [.int .i64 z10, .arr 5 32 z11, .agg [.bool z12, .arr 5 32 z13], .agg [.ro false 23 z14, .bool z15, .arr 5 32 z16, .arr 5 32 z17]]), .box (.arr 5 32 z18), .lst 5 z19]))
  | 9, [.yld 0, .ptr 1 [], .int .i64 r40], [.lp 53 3 [1, 2, 3] [.ptr 2 [], .ptr 3 [], .ptr 4 []] 0, .box (.ro true 23 r41), .box (.agg [.int .i64 r42, .arr 5 32 r43, .agg [.bool r44, .arr 5 32 r45], .agg [.ro true 23 r46, .bool r47, .arr 5 32 r48, .arr 5 32 r49]]), .box (.yld 5), .box (.own 6), .lp 21 7 [2, 5] [.ptr 7 [], .ptr 8 []] 0, .lst 5 r50, .box (.agg [.int .i64 r51, .arr 5 32 r52, .agg [.bool r53, .arr 5 32 r54], .agg [.ro true 23 r55, .bool r56, .arr 5 32 r57, .arr 5 32 r58]]), .box (.arr 5 32 r59)] => Hold (C_slices_Backward_api_Digest_api_Digest_1_3 k r40 r41 r42 r43 r44 r45 r46 r47 r48 r49 r50 r51 r52 r53 r54 r55 r56 r57 r58 r59 (fun z0 z1 z2 z3 z4 z5 z6 z7 z8 z9 z10 z11 z12 z13 z14 z15 z16 z17 z18 z19 => K (.tup []) [.lp 53 3 [1, 2, 3] [.ptr 2 [], .ptr 3 [], .ptr 4 []] 0, .box (.ro true 23 z0), .box (.agg [.int .i64 z1, .arr 5 32 z2, .agg [.bool z3, .arr 5 32 z4], .agg [.ro true 23 z5, .bool z6, .arr 5 32 z7, .arr 5 32 z8]]), .box (.yld 5), .box (.own 9), .lp 21 7 [2, 5] [.ptr 7 [], .ptr 8 []] 0, .lst 5 z9, .box (.agg [.int .i64 z10, .arr 5 32 z11, .agg [.bool z12, .arr 5 32 z13], .agg [.ro true 23 z14, .bool z15, .arr 5 32 z16, .arr 5 32 z17]]), .box (.arr 5 32 z18), .lst 5 z19]))
  | 9, [.yld 0, .ptr 1 [], .int .i64 r100], [.lp 53 3 [1, 2, 3] [.ptr 2 [], .ptr 3 [], .ptr 4 []] 0, .box (.ro true 23 r101), .box (.agg [.int .i64 r102, .arr 5 32 r103, .agg [.bool r104, .arr 5 32 r105], .agg [.ro true 23 r106, .bool r107, .arr 5 32 r108, .arr 5 32 r109]]), .box (.yld 5), .box (.own 9), .lp 21 7 [2, 5] [.ptr 7 [], .ptr 8 []] 0, .lst 5 r110, .box (.agg [.int .i64 r111, .arr 5 32 r112, .agg [.bool r113, .arr 5 32 r114], .agg [.ro true 23 r115, .bool r116, .arr 5 32 r117, .arr 5 32 r118]]), .box (.arr 5 32 r119), .lst 5 r120] => Hold (C_slices_Backward_api_Digest_api_Digest_1_3_1 k r100 r101 r102 r103 r104 r105 r106 r107 r108 r109 r110 r111 r112 r113 r114 r115 r116 r117 r118 r119 r120 (fun z0 z1 z2 z3 z4 z5 z6 z7 z8 z9 z10 z11 z12 z13 z14 z15 z16 z17 z18 z19 => K (.tup []) [.lp 53 3 [1, 2, 3] [.ptr 2 [], .ptr 3 [], .ptr 4 []] 0, .box (.ro true 23 z0), .box (.agg [.int .i64 z1, .arr 5 32 z2, .agg [.bool z3, .arr 5 32 z4], .agg [.ro true 23 z5, .bool z6, .arr 5 32 z7, .arr 5 32 z8]]), .box (.yld 5), .box (.own 9), .lp 21 7 [2, 5] [.ptr 7 [], .ptr 8 []] 0, .lst 5 z9, .box (.agg [.int .i64 z10, .arr 5 32 z11, .agg [.bool z12, .arr 5 32 z13], .agg [.ro true 23 z14, .bool z15, .arr 5 32 z16, .arr 5 32 z17]]), .box (.arr 5 32 z18), .lst 5 z19]))
  | _, _, _ => False
def D7_9 (k : Nat) : Nat → List (A PU) → List (AObj PU) → (A PU → List (AObj PU) → Prop) → Prop := fun nb vals objs K => match nb, vals, objs with
  | 0, [.int .i64 r17, .ro false 46 r18, .ptr 0 [], .ptr 1 [], .ptr 2 [], .ptr 3 [], .bool r19, .int .i64 r20], [.box (.arr 5 32 r21), .box (.agg [.bool r22, .arr 5 32 r23]), .box (.agg [.own 4, .bool r24, .arr 5 32 r25, .arr 5 32 r26]), .box (.arr 5 32 r27), .lst 23 r28] => Hold (C_l06_ProofRight_9 k r17 r18 r19 r20 r21 r22 r23 r24 r25 r26 r27 r28 (fun z0 => K (.bool z0) []))
  | _, _, _ => False
def D7_10 (k : Nat) : Nat → List (A PU) → List (AObj PU) → (A PU → List (AObj PU) → Prop) → Prop := fun nb vals objs K => match nb, vals, objs with
  | 0, [.int .i64 r29, .ro false 46 r30, .ptr 0 [], .ptr 1 [], .ptr 2 [], .ptr 3 [], .bool r31, .int .i64 r32], [.box (.arr 5 32 r33), .box (.agg [.bool r34, .arr 5 32 r35]), .box (.agg [.own 4, .bool r36, .arr 5 32 r37, .arr 5 32 r38]), .box (.arr 5 32 r39), .lst 23 r40] => Hold (C_l06_ProofRight_10 k r29 r30 r31 r32 r33 r34 r35 r36 r37 r38 r39 r40 (fun z0 => K (.bool z0) []))
  | _, _, _ => False
def PTr (k : Nat) : List (Nat × Fn PU) := [(31, T31 k), (41, T41 k), (42, T42 k), (43, T43 k), (34, T34 k), (101, T101 k), (88, T88 k), (79, T79 k), (78, T78 k), (77, T77 k), (65, T65 k), (80, T80 k), (76, T76 k), (60, T60 k), (81, T81 k), (66, T66 k), (67, T67 k), (57, T57 k), (85, T85 k), (75, T75 k), (58, T58 k), (59, T59 k), (32, T32 k), (45, T45 k), (63, T63 k), (39, T39 k), (83, T83 k), (22, T22 k), (68, T68 k), (20, T20 k), (35, T35 k), (62, T62 k), (61, T61 k), (36, T36 k), (17, T17 k), (37, T37 k), (38, T38 k), (18, T18 k), (64, T64 k), (40, T40 k), (19, T19 k), (6, T6 k), (44, T44 k), (28, T28 k), (56, T56 k), (54, T54 k), (55, T55 k), (33, T33 k), (16, T16 k), (22000007, T21y7 k), (54000003, T53y3 k), (74, T74 k), (53, T53 k), (21, T21 k), (9, T9 k), (10, T10 k), (7, T7 k)]
def PCr (k : Nat) : List (Nat × Nat × (Nat → List (A PU) → List (AObj PU) → (A PU → List (AObj PU) → Prop) → Prop)) := [(79, 2, D79_2 k), (65, 4, D65_4 k), (66, 5, D66_5 k), (66, 11, D66_11 k), (67, 3, D67_3 k), (67, 8, D67_8 k), (67, 9, D67_9 k), (42, 9, D42_9 k), (75, 2, D75_2 k), (75, 11, D75_11 k), (75, 14, D75_14 k), (75, 23, D75_23 k), (58, 3, D58_3 k), (59, 9, D59_9 k), (59, 15, D59_15 k), (32, 4, D32_4 k), (45, 4, D45_4 k), (20, 2, D20_2 k), (20, 3, D20_3 k), (20, 4, D20_4 k), (20, 5, D20_5 k), (20, 6, D20_6 k), (61, 2, D61_2 k), (36, 11, D36_11 k), (36, 16, D36_16 k), (17, 6, D17_6 k), (17, 10, D17_10 k), (17, 15, D17_15 k), (17, 22, D17_22 k), (19, 2, D19_2 k), (6, 9, D6_9 k), (44, 4, D44_4 k), (56, 3, D56_3 k), (74, 1, D74_1 k), (74, 3, D74_3 k), (7, 9, D7_9 k), (7, 10, D7_10 k)]
def PT (k : Nat) : Tab PU := fun f => lookT f (PTr k)
def PC (k : Nat) : Cut PU := fun f id => lookC f id (PCr k)
theorem hrow77 (k : Nat) (l : List S_api_Leaf) (K : A PU → List (AObj PU) → Prop) (h : (100 ≤ k ∧ List.length l < 4611686018427387904) ∧ ∀ l9 : (List S_api_Leaf), List.Perm l9 l ∧ SortedL l9 → K (.tup []) [.lst 46 l9]) (TS : TSound PE (PT k)) : RowSound PE 77 [.own 0, .clo 78 []] [.lst 46 l] K :=
  hand77 l K TS h.1.2 h.2 fun a b K' hab hK => (Hold.mp (p := Hold (F_smt_twice_1 k a.f0 a.f1 b.f0 b.f1 (fun z0 => K' (.int .i64 z0) []))) (by kernel_rfl) ⟨cmp_s k hab.1 hab.2 (by have := h.1.1; omega) hK⟩).out
theorem hrow68 (k : Nat) (x : KT S_api_Leaf) (w : Int) (K : A PU → List (AObj PU) → Prop) (h : (digBound x ≤ k ∧ (0 ≤ w ∧ w ≤ 32) ∧ allG w x) ∧ K (.arr 5 32 (digT w x)) []) (TS : TSound PE (PT k)) : RowSound PE 68 [.tr 46 x [], .int .i64 w] [] K :=
  hand68 x w K TS h.1.2.1 h.1.2.2 h.2
    (fun K' hK => (Hold.mp (p := Hold (F_smt_Empty k w (fun z0 => K' (.arr 5 32 z0) []))) (by kernel_rfl) ⟨Empty_i k h.1.2.1 (by have := h.1.1; unfold digBound at this; omega) hK⟩).out)
    (fun g v l r dl K' e hK => (Hold.mp (p := Hold (F_smt_knot_digest_1 k w 0 1 0 dl v.f0 v.f1 l r (fun z0 z1 z2 z3 z4 z5 z6 z7 z8 => K' (.tup []) [.box (.ptr 2 []), .box (.int .i64 z0), .box (.agg [.agg [.agg [.int .u32 z1, .int .i32 z2, .int .u32 z3], .arr 5 32 z4], .agg [.arr 5 32 z5, .arr 5 32 z6], .tr 46 z7 [], .tr 46 z8 []])]))) (by kernel_rfl) ⟨digest_1_s k h.1.2.1 (e ▸ h.1.2.2) (e ▸ h.1.1) (by subst e; exact hK)⟩).out)
theorem fnok31 : fnOk PE.P 31 = true := by kernel_rfl
theorem fnok41 : fnOk PE.P 41 = true := by kernel_rfl
theorem fnok42 : fnOk PE.P 42 = true := by kernel_rfl
theorem fnok43 : fnOk PE.P 43 = true := by kernel_rfl
theorem fnok34 : fnOk PE.P 34 = true := by kernel_rfl
theorem fnok101 : fnOk PE.P 101 = true := by kernel_rfl
theorem fnok88 : fnOk PE.P 88 = true := by kernel_rfl
theorem fnok79 : fnOk PE.P 79 = true := by kernel_rfl
theorem fnok78 : fnOk PE.P 78 = true := by kernel_rfl
theorem fnok65 : fnOk PE.P 65 = true := by kernel_rfl
theorem fnok80 : fnOk PE.P 80 = true := by kernel_rfl
theorem fnok76 : fnOk PE.P 76 = true := by kernel_rfl
theorem fnok60 : fnOk PE.P 60 = true := by kernel_rfl
theorem fnok81 : fnOk PE.P 81 = true := by kernel_rfl
theorem fnok66 : fnOk PE.P 66 = true := by kernel_rfl
theorem fnok67 : fnOk PE.P 67 = true := by kernel_rfl
theorem fnok57 : fnOk PE.P 57 = true := by kernel_rfl
theorem fnok85 : fnOk PE.P 85 = true := by kernel_rfl
theorem fnok75 : fnOk PE.P 75 = true := by kernel_rfl
theorem fnok58 : fnOk PE.P 58 = true := by kernel_rfl
theorem fnok59 : fnOk PE.P 59 = true := by kernel_rfl
theorem fnok32 : fnOk PE.P 32 = true := by kernel_rfl
theorem fnok45 : fnOk PE.P 45 = true := by kernel_rfl
theorem fnok63 : fnOk PE.P 63 = true := by kernel_rfl
theorem fnok39 : fnOk PE.P 39 = true := by kernel_rfl
theorem fnok83 : fnOk PE.P 83 = true := by kernel_rfl
theorem fnok22 : fnOk PE.P 22 = true := by kernel_rfl
theorem fnok20 : fnOk PE.P 20 = true := by kernel_rfl
theorem fnok35 : fnOk PE.P 35 = true := by kernel_rfl
theorem fnok62 : fnOk PE.P 62 = true := by kernel_rfl
theorem fnok61 : fnOk PE.P 61 = true := by kernel_rfl
theorem fnok36 : fnOk PE.P 36 = true := by kernel_rfl
theorem fnok17 : fnOk PE.P 17 = true := by kernel_rfl
theorem fnok37 : fnOk PE.P 37 = true := by kernel_rfl
theorem fnok38 : fnOk PE.P 38 = true := by kernel_rfl
theorem fnok18 : fnOk PE.P 18 = true := by kernel_rfl
theorem fnok64 : fnOk PE.P 64 = true := by kernel_rfl
theorem fnok40 : fnOk PE.P 40 = true := by kernel_rfl
theorem fnok19 : fnOk PE.P 19 = true := by kernel_rfl
theorem fnok6 : fnOk PE.P 6 = true := by kernel_rfl
theorem fnok44 : fnOk PE.P 44 = true := by kernel_rfl
theorem fnok28 : fnOk PE.P 28 = true := by kernel_rfl
theorem fnok56 : fnOk PE.P 56 = true := by kernel_rfl
theorem fnok54 : fnOk PE.P 54 = true := by kernel_rfl
theorem fnok55 : fnOk PE.P 55 = true := by kernel_rfl
theorem fnok33 : fnOk PE.P 33 = true := by kernel_rfl
theorem fnok16 : fnOk PE.P 16 = true := by kernel_rfl
theorem fnok21 : fnOk PE.P 21 = true := by kernel_rfl
theorem fnok53 : fnOk PE.P 53 = true := by kernel_rfl
theorem fnok74 : fnOk PE.P 74 = true := by kernel_rfl
theorem fnok9 : fnOk PE.P 9 = true := by kernel_rfl
theorem fnok10 : fnOk PE.P 10 = true := by kernel_rfl
theorem fnok7 : fnOk PE.P 7 = true := by kernel_rfl
theorem T31_z (args : List (A PU)) (objs : List (AObj PU)) (K : A PU → List (AObj PU) → Prop) : ¬ T31 0 args objs K := by
  intro h; unfold T31 at h; split at h <;> (first | exact h | exact h.out)
theorem T31_ok (k : Nat) (args : List (A PU)) (objs : List (AObj PU)) (K : A PU → List (AObj PU) → Prop) (h : T31 (k + 1) args objs K) : RowOk PE (PT k) (PC k) 31 args objs K := by
  unfold T31 at h; split at h
  · exact .fn fnok31 rfl (Hold.mp (by kernel_rfl) h.out)
  · exact h.elim
theorem T41_z (args : List (A PU)) (objs : List (AObj PU)) (K : A PU → List (AObj PU) → Prop) : ¬ T41 0 args objs K := by
  intro h; unfold T41 at h; split at h <;> (first | exact h | exact h.out)
theorem T41_ok (k : Nat) (args : List (A PU)) (objs : List (AObj PU)) (K : A PU → List (AObj PU) → Prop) (h : T41 (k + 1) args objs K) : RowOk PE (PT k) (PC k) 41 args objs K := by
  unfold T41 at h; split at h
  · exact .fn fnok41 rfl (Hold.mp (by kernel_rfl) h.out)
  · exact h.elim
theorem T42_z (args : List (A PU)) (objs : List (AObj PU)) (K : A PU → List (AObj PU) → Prop) : ¬ T42 0 args objs K := by
  intro h; unfold T42 at h; split at h <;> (first | exact h | exact h.out)
theorem T42_ok (k : Nat) (args : List (A PU)) (objs : List (AObj PU)) (K : A PU → List (AObj PU) → Prop) (h : T42 (k + 1) args objs K) : RowOk PE (PT k) (PC k) 42 args objs K := by
  unfold T42 at h; split at h
  · exact .fn fnok42 rfl (Hold.mp (by kernel_rfl) h.out)
  · exact .fn fnok42 rfl (Hold.mp (by kernel_rfl) h.out)
  · exact .fn fnok42 rfl (Hold.mp (by kernel_rfl) h.out)
  · exact .fn fnok42 rfl (Hold.mp (by kernel_rfl) h.out)
  · exact h.elim
theorem T43_z (args : List (A PU)) (objs : List (AObj PU)) (K : A PU → List (AObj PU) → Prop) : ¬ T43 0 args objs K := by
  intro h; unfold T43 at h; split at h <;> (first | exact h | exact h.out)
theorem T43_ok (k : Nat) (args : List (A PU)) (objs : List (AObj PU)) (K : A PU → List (AObj PU) → Prop) (h : T43 (k + 1) args objs K) : RowOk PE (PT k) (PC k) 43 args objs K := by
  unfold T43 at h; split at h
  · exact .fn fnok43 rfl (Hold.mp (by kernel_rfl) h.out)
  · exact .fn fnok43 rfl (Hold.mp (by kernel_rfl) h.out)
  · exact h.elim
theorem T34_z (args : List (A PU)) (objs : List (AObj PU)) (K : A PU → List (AObj PU) → Prop) : ¬ T34 0 args objs K := by
  intro h; unfold T34 at h; split at h <;> (first | exact h | exact h.out)
theorem T34_ok (k : Nat) (args : List (A PU)) (objs : List (AObj PU)) (K : A PU → List (AObj PU) → Prop) (h : T34 (k + 1) args objs K) : RowOk PE (PT k) (PC k) 34 args objs K := by
  unfold T34 at h; split at h
  · exact .fn fnok34 rfl (Hold.mp (by kernel_rfl) h.out)
  · exact .fn fnok34 rfl (Hold.mp (by kernel_rfl) h.out)
  · exact h.elim
theorem T101_z (args : List (A PU)) (objs : List (AObj PU)) (K : A PU → List (AObj PU) → Prop) : ¬ T101 0 args objs K := by
  intro h; unfold T101 at h; split at h <;> (first | exact h | exact h.out)
theorem T101_ok (k : Nat) (args : List (A PU)) (objs : List (AObj PU)) (K : A PU → List (AObj PU) → Prop) (h : T101 (k + 1) args objs K) : RowOk PE (PT k) (PC k) 101 args objs K := by
  unfold T101 at h; split at h
  · exact .fn fnok101 rfl (Hold.mp (by kernel_rfl) h.out)
  · exact h.elim
theorem T88_z (args : List (A PU)) (objs : List (AObj PU)) (K : A PU → List (AObj PU) → Prop) : ¬ T88 0 args objs K := by
  intro h; unfold T88 at h; split at h <;> (first | exact h | exact h.out)
theorem T88_ok (k : Nat) (args : List (A PU)) (objs : List (AObj PU)) (K : A PU → List (AObj PU) → Prop) (h : T88 (k + 1) args objs K) : RowOk PE (PT k) (PC k) 88 args objs K := by
  unfold T88 at h; split at h
  · exact .fn fnok88 rfl (Hold.mp (by kernel_rfl) h.out)
  · exact h.elim
theorem T79_z (args : List (A PU)) (objs : List (AObj PU)) (K : A PU → List (AObj PU) → Prop) : ¬ T79 0 args objs K := by
  intro h; unfold T79 at h; split at h <;> (first | exact h | exact h.out)
theorem T79_ok (k : Nat) (args : List (A PU)) (objs : List (AObj PU)) (K : A PU → List (AObj PU) → Prop) (h : T79 (k + 1) args objs K) : RowOk PE (PT k) (PC k) 79 args objs K := by
  unfold T79 at h; split at h
  · exact .fn fnok79 rfl (Hold.mp (by kernel_rfl) h.out)
  · exact h.elim
theorem T78_z (args : List (A PU)) (objs : List (AObj PU)) (K : A PU → List (AObj PU) → Prop) : ¬ T78 0 args objs K := by
  intro h; unfold T78 at h; split at h <;> (first | exact h | exact h.out)
theorem T78_ok (k : Nat) (args : List (A PU)) (objs : List (AObj PU)) (K : A PU → List (AObj PU) → Prop) (h : T78 (k + 1) args objs K) : RowOk PE (PT k) (PC k) 78 args objs K := by
  unfold T78 at h; split at h
  · exact .fn fnok78 rfl (Hold.mp (by kernel_rfl) h.out)
  · exact h.elim
theorem T77_z (args : List (A PU)) (objs : List (AObj PU)) (K : A PU → List (AObj PU) → Prop) : ¬ T77 0 args objs K := by
  intro h; unfold T77 at h; split at h <;> (first | exact h | exact h.out)
theorem T77_ok (k : Nat) (args : List (A PU)) (objs : List (AObj PU)) (K : A PU → List (AObj PU) → Prop) (h : T77 (k + 1) args objs K) : RowOk PE (PT k) (PC k) 77 args objs K := by
  unfold T77 at h; split at h
  · exact .row fun TS => hrow77 k _ _ (Hold.mp (by kernel_rfl) h.out).out TS
  · exact h.elim
theorem T65_z (args : List (A PU)) (objs : List (AObj PU)) (K : A PU → List (AObj PU) → Prop) : ¬ T65 0 args objs K := by
  intro h; unfold T65 at h; split at h <;> (first | exact h | exact h.out)
theorem T65_ok (k : Nat) (args : List (A PU)) (objs : List (AObj PU)) (K : A PU → List (AObj PU) → Prop) (h : T65 (k + 1) args objs K) : RowOk PE (PT k) (PC k) 65 args objs K := by
  unfold T65 at h; split at h
  · exact .fn fnok65 rfl (Hold.mp (by kernel_rfl) h.out)
  · exact .fn fnok65 rfl (Hold.mp (by kernel_rfl) h.out)
  · exact h.elim
theorem T80_z (args : List (A PU)) (objs : List (AObj PU)) (K : A PU → List (AObj PU) → Prop) : ¬ T80 0 args objs K := by
  intro h; unfold T80 at h; split at h <;> (first | exact h | exact h.out)
theorem T80_ok (k : Nat) (args : List (A PU)) (objs : List (AObj PU)) (K : A PU → List (AObj PU) → Prop) (h : T80 (k + 1) args objs K) : RowOk PE (PT k) (PC k) 80 args objs K := by
  unfold T80 at h; split at h
  · exact .fn fnok80 rfl (Hold.mp (by kernel_rfl) h.out)
  · exact .fn fnok80 rfl (Hold.mp (by kernel_rfl) h.out)
  · exact h.elim
theorem T76_z (args : List (A PU)) (objs : List (AObj PU)) (K : A PU → List (AObj PU) → Prop) : ¬ T76 0 args objs K := by
  intro h; unfold T76 at h; split at h <;> (first | exact h | exact h.out)
theorem T76_ok (k : Nat) (args : List (A PU)) (objs : List (AObj PU)) (K : A PU → List (AObj PU) → Prop) (h : T76 (k + 1) args objs K) : RowOk PE (PT k) (PC k) 76 args objs K := by
  unfold T76 at h; split at h
  · exact .fn fnok76 rfl (Hold.mp (by kernel_rfl) h.out)
  · exact h.elim
theorem T60_z (args : List (A PU)) (objs : List (AObj PU)) (K : A PU → List (AObj PU) → Prop) : ¬ T60 0 args objs K := by
  intro h; unfold T60 at h; split at h <;> (first | exact h | exact h.out)
theorem T60_ok (k : Nat) (args : List (A PU)) (objs : List (AObj PU)) (K : A PU → List (AObj PU) → Prop) (h : T60 (k + 1) args objs K) : RowOk PE (PT k) (PC k) 60 args objs K := by
  unfold T60 at h; split at h
  · exact .fn fnok60 rfl (Hold.mp (by kernel_rfl) h.out)
  · exact h.elim
theorem T81_z (args : List (A PU)) (objs : List (AObj PU)) (K : A PU → List (AObj PU) → Prop) : ¬ T81 0 args objs K := by
  intro h; unfold T81 at h; split at h <;> (first | exact h | exact h.out)
theorem T81_ok (k : Nat) (args : List (A PU)) (objs : List (AObj PU)) (K : A PU → List (AObj PU) → Prop) (h : T81 (k + 1) args objs K) : RowOk PE (PT k) (PC k) 81 args objs K := by
  unfold T81 at h; split at h
  · exact .fn fnok81 rfl (Hold.mp (by kernel_rfl) h.out)
  · exact h.elim
theorem T66_z (args : List (A PU)) (objs : List (AObj PU)) (K : A PU → List (AObj PU) → Prop) : ¬ T66 0 args objs K := by
  intro h; unfold T66 at h; split at h <;> (first | exact h | exact h.out)
theorem T66_ok (k : Nat) (args : List (A PU)) (objs : List (AObj PU)) (K : A PU → List (AObj PU) → Prop) (h : T66 (k + 1) args objs K) : RowOk PE (PT k) (PC k) 66 args objs K := by
  unfold T66 at h; split at h
  · exact .fn fnok66 rfl (Hold.mp (by kernel_rfl) h.out)
  · exact h.elim
theorem T67_z (args : List (A PU)) (objs : List (AObj PU)) (K : A PU → List (AObj PU) → Prop) : ¬ T67 0 args objs K := by
  intro h; unfold T67 at h; split at h <;> (first | exact h | exact h.out)
theorem T67_ok (k : Nat) (args : List (A PU)) (objs : List (AObj PU)) (K : A PU → List (AObj PU) → Prop) (h : T67 (k + 1) args objs K) : RowOk PE (PT k) (PC k) 67 args objs K := by
  unfold T67 at h; split at h
  · exact .fn fnok67 rfl (Hold.mp (by kernel_rfl) h.out)
  · exact h.elim
theorem T57_z (args : List (A PU)) (objs : List (AObj PU)) (K : A PU → List (AObj PU) → Prop) : ¬ T57 0 args objs K := by
  intro h; unfold T57 at h; split at h <;> (first | exact h | exact h.out)
theorem T57_ok (k : Nat) (args : List (A PU)) (objs : List (AObj PU)) (K : A PU → List (AObj PU) → Prop) (h : T57 (k + 1) args objs K) : RowOk PE (PT k) (PC k) 57 args objs K := by
  unfold T57 at h; split at h
  · exact .fn fnok57 rfl (Hold.mp (by kernel_rfl) h.out)
  · exact h.elim
theorem T85_z (args : List (A PU)) (objs : List (AObj PU)) (K : A PU → List (AObj PU) → Prop) : ¬ T85 0 args objs K := by
  intro h; unfold T85 at h; split at h <;> (first | exact h | exact h.out)
theorem T85_ok (k : Nat) (args : List (A PU)) (objs : List (AObj PU)) (K : A PU → List (AObj PU) → Prop) (h : T85 (k + 1) args objs K) : RowOk PE (PT k) (PC k) 85 args objs K := by
  unfold T85 at h; split at h
  · exact .fn fnok85 rfl (Hold.mp (by kernel_rfl) h.out)
  · exact h.elim
theorem T75_z (args : List (A PU)) (objs : List (AObj PU)) (K : A PU → List (AObj PU) → Prop) : ¬ T75 0 args objs K := by
  intro h; unfold T75 at h; split at h <;> (first | exact h | exact h.out)
theorem T75_ok (k : Nat) (args : List (A PU)) (objs : List (AObj PU)) (K : A PU → List (AObj PU) → Prop) (h : T75 (k + 1) args objs K) : RowOk PE (PT k) (PC k) 75 args objs K := by
  unfold T75 at h; split at h
  · exact .fn fnok75 rfl (Hold.mp (by kernel_rfl) h.out)
  · exact h.elim
theorem T58_z (args : List (A PU)) (objs : List (AObj PU)) (K : A PU → List (AObj PU) → Prop) : ¬ T58 0 args objs K := by
  intro h; unfold T58 at h; split at h <;> (first | exact h | exact h.out)
theorem T58_ok (k : Nat) (args : List (A PU)) (objs : List (AObj PU)) (K : A PU → List (AObj PU) → Prop) (h : T58 (k + 1) args objs K) : RowOk PE (PT k) (PC k) 58 args objs K := by
  unfold T58 at h; split at h
  · exact .fn fnok58 rfl (Hold.mp (by kernel_rfl) h.out)
  · exact .fn fnok58 rfl (Hold.mp (by kernel_rfl) h.out)
  · exact h.elim
theorem T59_z (args : List (A PU)) (objs : List (AObj PU)) (K : A PU → List (AObj PU) → Prop) : ¬ T59 0 args objs K := by
  intro h; unfold T59 at h; split at h <;> (first | exact h | exact h.out)
theorem T59_ok (k : Nat) (args : List (A PU)) (objs : List (AObj PU)) (K : A PU → List (AObj PU) → Prop) (h : T59 (k + 1) args objs K) : RowOk PE (PT k) (PC k) 59 args objs K := by
  unfold T59 at h; split at h
  · exact .fn fnok59 rfl (Hold.mp (by kernel_rfl) h.out)
  · exact h.elim
theorem T32_z (args : List (A PU)) (objs : List (AObj PU)) (K : A PU → List (AObj PU) → Prop) : ¬ T32 0 args objs K := by
  intro h; unfold T32 at h; split at h <;> (first | exact h | exact h.out)
theorem T32_ok (k : Nat) (args : List (A PU)) (objs : List (AObj PU)) (K : A PU → List (AObj PU) → Prop) (h : T32 (k + 1) args objs K) : RowOk PE (PT k) (PC k) 32 args objs K := by
  unfold T32 at h; split at h
  · exact .fn fnok32 rfl (Hold.mp (by kernel_rfl) h.out)
  · exact h.elim
theorem T45_z (args : List (A PU)) (objs : List (AObj PU)) (K : A PU → List (AObj PU) → Prop) : ¬ T45 0 args objs K := by
  intro h; unfold T45 at h; split at h <;> (first | exact h | exact h.out)
theorem T45_ok (k : Nat) (args : List (A PU)) (objs : List (AObj PU)) (K : A PU → List (AObj PU) → Prop) (h : T45 (k + 1) args objs K) : RowOk PE (PT k) (PC k) 45 args objs K := by
  unfold T45 at h; split at h
  · exact .fn fnok45 rfl (Hold.mp (by kernel_rfl) h.out)
  · exact .fn fnok45 rfl (Hold.mp (by kernel_rfl) h.out)
  · exact h.elim
theorem T63_z (args : List (A PU)) (objs : List (AObj PU)) (K : A PU → List (AObj PU) → Prop) : ¬ T63 0 args objs K := by
  intro h; unfold T63 at h; split at h <;> (first | exact h | exact h.out)
theorem T63_ok (k : Nat) (args : List (A PU)) (objs : List (AObj PU)) (K : A PU → List (AObj PU) → Prop) (h : T63 (k + 1) args objs K) : RowOk PE (PT k) (PC k) 63 args objs K := by
  unfold T63 at h; split at h
  · exact .fn fnok63 rfl (Hold.mp (by kernel_rfl) h.out)
  · exact h.elim
theorem T39_z (args : List (A PU)) (objs : List (AObj PU)) (K : A PU → List (AObj PU) → Prop) : ¬ T39 0 args objs K := by
  intro h; unfold T39 at h; split at h <;> (first | exact h | exact h.out)
theorem T39_ok (k : Nat) (args : List (A PU)) (objs : List (AObj PU)) (K : A PU → List (AObj PU) → Prop) (h : T39 (k + 1) args objs K) : RowOk PE (PT k) (PC k) 39 args objs K := by
  unfold T39 at h; split at h
  · exact .fn fnok39 rfl (Hold.mp (by kernel_rfl) h.out)
  · exact h.elim
theorem T83_z (args : List (A PU)) (objs : List (AObj PU)) (K : A PU → List (AObj PU) → Prop) : ¬ T83 0 args objs K := by
  intro h; unfold T83 at h; split at h <;> (first | exact h | exact h.out)
theorem T83_ok (k : Nat) (args : List (A PU)) (objs : List (AObj PU)) (K : A PU → List (AObj PU) → Prop) (h : T83 (k + 1) args objs K) : RowOk PE (PT k) (PC k) 83 args objs K := by
  unfold T83 at h; split at h
  · exact .fn fnok83 rfl (Hold.mp (by kernel_rfl) h.out)
  · exact h.elim
theorem T22_z (args : List (A PU)) (objs : List (AObj PU)) (K : A PU → List (AObj PU) → Prop) : ¬ T22 0 args objs K := by
  intro h; unfold T22 at h; split at h <;> (first | exact h | exact h.out)
theorem T22_ok (k : Nat) (args : List (A PU)) (objs : List (AObj PU)) (K : A PU → List (AObj PU) → Prop) (h : T22 (k + 1) args objs K) : RowOk PE (PT k) (PC k) 22 args objs K := by
  unfold T22 at h; split at h
  · exact .fn fnok22 rfl (Hold.mp (by kernel_rfl) h.out)
  · exact h.elim
theorem T68_z (args : List (A PU)) (objs : List (AObj PU)) (K : A PU → List (AObj PU) → Prop) : ¬ T68 0 args objs K := by
  intro h; unfold T68 at h; split at h <;> (first | exact h | exact h.out)
theorem T68_ok (k : Nat) (args : List (A PU)) (objs : List (AObj PU)) (K : A PU → List (AObj PU) → Prop) (h : T68 (k + 1) args objs K) : RowOk PE (PT k) (PC k) 68 args objs K := by
  unfold T68 at h; split at h
  · exact .row fun TS => hrow68 k _ _ _ (Hold.mp (by kernel_rfl) h.out).out TS
  · exact h.elim
theorem T20_z (args : List (A PU)) (objs : List (AObj PU)) (K : A PU → List (AObj PU) → Prop) : ¬ T20 0 args objs K := by
  intro h; unfold T20 at h; split at h <;> (first | exact h | exact h.out)
theorem T20_ok (k : Nat) (args : List (A PU)) (objs : List (AObj PU)) (K : A PU → List (AObj PU) → Prop) (h : T20 (k + 1) args objs K) : RowOk PE (PT k) (PC k) 20 args objs K := by
  unfold T20 at h; split at h
  · exact .fn fnok20 rfl (Hold.mp (by kernel_rfl) h.out)
  · exact .fn fnok20 rfl (Hold.mp (by kernel_rfl) h.out)
  · exact h.elim
theorem T35_z (args : List (A PU)) (objs : List (AObj PU)) (K : A PU → List (AObj PU) → Prop) : ¬ T35 0 args objs K := by
  intro h; unfold T35 at h; split at h <;> (first | exact h | exact h.out)
theorem T35_ok (k : Nat) (args : List (A PU)) (objs : List (AObj PU)) (K : A PU → List (AObj PU) → Prop) (h : T35 (k + 1) args objs K) : RowOk PE (PT k) (PC k) 35 args objs K := by
  unfold T35 at h; split at h
  · exact .fn fnok35 rfl (Hold.mp (by kernel_rfl) h.out)
  · exact h.elim
theorem T62_z (args : List (A PU)) (objs : List (AObj PU)) (K : A PU → List (AObj PU) → Prop) : ¬ T62 0 args objs K := by
  intro h; unfold T62 at h; split at h <;> (first | exact h | exact h.out)
theorem T62_ok (k : Nat) (args : List (A PU)) (objs : List (AObj PU)) (K : A PU → List (AObj PU) → Prop) (h : T62 (k + 1) args objs K) : RowOk PE (PT k) (PC k) 62 args objs K := by
  unfold T62 at h; split at h
  · exact .fn fnok62 rfl (Hold.mp (by kernel_rfl) h.out)
  · exact h.elim
theorem T61_z (args : List (A PU)) (objs : List (AObj PU)) (K : A PU → List (AObj PU) → Prop) : ¬ T61 0 args objs K := by
  intro h; unfold T61 at h; split at h <;> (first | exact h | exact h.out)
theorem T61_ok (k : Nat) (args : List (A PU)) (objs : List (AObj PU)) (K : A PU → List (AObj PU) → Prop) (h : T61 (k + 1) args objs K) : RowOk PE (PT k) (PC k) 61 args objs K := by
  unfold T61 at h; split at h
  · exact .fn fnok61 rfl (Hold.mp (by kernel_rfl) h.out)
  · exact h.elim
theorem T36_z (args : List (A PU)) (objs : List (AObj PU)) (K : A PU → List (AObj PU) → Prop) : ¬ T36 0 args objs K := by
  intro h; unfold T36 at h; split at h <;> (first | exact h | exact h.out)
theorem T36_ok (k : Nat) (args : List (A PU)) (objs : List (AObj PU)) (K : A PU → List (AObj PU) → Prop) (h : T36 (k + 1) args objs K) : RowOk PE (PT k) (PC k) 36 args objs K := by
  unfold T36 at h; split at h
  · exact .fn fnok36 rfl (Hold.mp (by kernel_rfl) h.out)
  · exact h.elim
theorem T17_z (args : List (A PU)) (objs : List (AObj PU)) (K : A PU → List (AObj PU) → Prop) : ¬ T17 0 args objs K := by
  intro h; unfold T17 at h; split at h <;> (first | exact h | exact h.out)
theorem T17_ok (k : Nat) (args : List (A PU)) (objs : List (AObj PU)) (K : A PU → List (AObj PU) → Prop) (h : T17 (k + 1) args objs K) : RowOk PE (PT k) (PC k) 17 args objs K := by
  unfold T17 at h; split at h
  · exact .fn fnok17 rfl (Hold.mp (by kernel_rfl) h.out)
  · exact .fn fnok17 rfl (Hold.mp (by kernel_rfl) h.out)
  · exact h.elim
theorem T37_z (args : List (A PU)) (objs : List (AObj PU)) (K : A PU → List (AObj PU) → Prop) : ¬ T37 0 args objs K := by
  intro h; unfold T37 at h; split at h <;> (first | exact h | exact h.out)
theorem T37_ok (k : Nat) (args : List (A PU)) (objs : List (AObj PU)) (K : A PU → List (AObj PU) → Prop) (h : T37 (k + 1) args objs K) : RowOk PE (PT k) (PC k) 37 args objs K := by
  unfold T37 at h; split at h
  · exact .fn fnok37 rfl (Hold.mp (by kernel_rfl) h.out)
  · exact h.elim
theorem T38_z (args : List (A PU)) (objs : List (AObj PU)) (K : A PU → List (AObj PU) → Prop) : ¬ T38 0 args objs K := by
  intro h; unfold T38 at h; split at h <;> (first | exact h | exact h.out)
theorem T38_ok (k : Nat) (args : List (A PU)) (objs : List (AObj PU)) (K : A PU → List (AObj PU) → Prop) (h : T38 (k + 1) args objs K) : RowOk PE (PT k) (PC k) 38 args objs K := by
  unfold T38 at h; split at h
  · exact .fn fnok38 rfl (Hold.mp (by kernel_rfl) h.out)
  · exact h.elim
theorem T18_z (args : List (A PU)) (objs : List (AObj PU)) (K : A PU → List (AObj PU) → Prop) : ¬ T18 0 args objs K := by
  intro h; unfold T18 at h; split at h <;> (first | exact h | exact h.out)
theorem T18_ok (k : Nat) (args : List (A PU)) (objs : List (AObj PU)) (K : A PU → List (AObj PU) → Prop) (h : T18 (k + 1) args objs K) : RowOk PE (PT k) (PC k) 18 args objs K := by
  unfold T18 at h; split at h
  · exact .fn fnok18 rfl (Hold.mp (by kernel_rfl) h.out)
  · exact h.elim
theorem T64_z (args : List (A PU)) (objs : List (AObj PU)) (K : A PU → List (AObj PU) → Prop) : ¬ T64 0 args objs K := by
  intro h; unfold T64 at h; split at h <;> (first | exact h | exact h.out)
theorem T64_ok (k : Nat) (args : List (A PU)) (objs : List (AObj PU)) (K : A PU → List (AObj PU) → Prop) (h : T64 (k + 1) args objs K) : RowOk PE (PT k) (PC k) 64 args objs K := by
  unfold T64 at h; split at h
  · exact .fn fnok64 rfl (Hold.mp (by kernel_rfl) h.out)
  · exact h.elim
theorem T40_z (args : List (A PU)) (objs : List (AObj PU)) (K : A PU → List (AObj PU) → Prop) : ¬ T40 0 args objs K := by
  intro h; unfold T40 at h; split at h <;> (first | exact h | exact h.out)
theorem T40_ok (k : Nat) (args : List (A PU)) (objs : List (AObj PU)) (K : A PU → List (AObj PU) → Prop) (h : T40 (k + 1) args objs K) : RowOk PE (PT k) (PC k) 40 args objs K := by
  unfold T40 at h; split at h
  · exact .fn fnok40 rfl (Hold.mp (by kernel_rfl) h.out)
  · exact h.elim
theorem T19_z (args : List (A PU)) (objs : List (AObj PU)) (K : A PU → List (AObj PU) → Prop) : ¬ T19 0 args objs K := by
  intro h; unfold T19 at h; split at h <;> (first | exact h | exact h.out)
theorem T19_ok (k : Nat) (args : List (A PU)) (objs : List (AObj PU)) (K : A PU → List (AObj PU) → Prop) (h : T19 (k + 1) args objs K) : RowOk PE (PT k) (PC k) 19 args objs K := by
  unfold T19 at h; split at h
  · exact .fn fnok19 rfl (Hold.mp (by kernel_rfl) h.out)
  · exact h.elim
theorem T6_z (args : List (A PU)) (objs : List (AObj PU)) (K : A PU → List (AObj PU) → Prop) : ¬ T6 0 args objs K := by
  intro h; unfold T6 at h; split at h <;> (first | exact h | exact h.out)
theorem T6_ok (k : Nat) (args : List (A PU)) (objs : List (AObj PU)) (K : A PU → List (AObj PU) → Prop) (h : T6 (k + 1) args objs K) : RowOk PE (PT k) (PC k) 6 args objs K := by
  unfold T6 at h; split at h
  · exact .fn fnok6 rfl (Hold.mp (by kernel_rfl) h.out)
  · exact h.elim
theorem T44_z (args : List (A PU)) (objs : List (AObj PU)) (K : A PU → List (AObj PU) → Prop) : ¬ T44 0 args objs K := by
  intro h; unfold T44 at h; split at h <;> (first | exact h | exact h.out)
theorem T44_ok (k : Nat) (args : List (A PU)) (objs : List (AObj PU)) (K : A PU → List (AObj PU) → Prop) (h : T44 (k + 1) args objs K) : RowOk PE (PT k) (PC k) 44 args objs K := by
  unfold T44 at h; split at h
  · exact .fn fnok44 rfl (Hold.mp (by kernel_rfl) h.out)
  · exact .fn fnok44 rfl (Hold.mp (by kernel_rfl) h.out)
  · exact h.elim
theorem T28_z (args : List (A PU)) (objs : List (AObj PU)) (K : A PU → List (AObj PU) → Prop) : ¬ T28 0 args objs K := by
  intro h; unfold T28 at h; split at h <;> (first | exact h | exact h.out)
theorem T28_ok (k : Nat) (args : List (A PU)) (objs : List (AObj PU)) (K : A PU → List (AObj PU) → Prop) (h : T28 (k + 1) args objs K) : RowOk PE (PT k) (PC k) 28 args objs K := by
  unfold T28 at h; split at h
  · exact .fn fnok28 rfl (Hold.mp (by kernel_rfl) h.out)
  · exact .fn fnok28 rfl (Hold.mp (by kernel_rfl) h.out)
  · exact h.elim
theorem T56_z (args : List (A PU)) (objs : List (AObj PU)) (K : A PU → List (AObj PU) → Prop) : ¬ T56 0 args objs K := by
  intro h; unfold T56 at h; split at h <;> (first | exact h | exact h.out)
theorem T56_ok (k : Nat) (args : List (A PU)) (objs : List (AObj PU)) (K : A PU → List (AObj PU) → Prop) (h : T56 (k + 1) args objs K) : RowOk PE (PT k) (PC k) 56 args objs K := by
  unfold T56 at h; split at h
  · exact .fn fnok56 rfl (Hold.mp (by kernel_rfl) h.out)
  · exact .fn fnok56 rfl (Hold.mp (by kernel_rfl) h.out)
  · exact h.elim
theorem T54_z (args : List (A PU)) (objs : List (AObj PU)) (K : A PU → List (AObj PU) → Prop) : ¬ T54 0 args objs K := by
  intro h; unfold T54 at h; split at h <;> (first | exact h | exact h.out)
theorem T54_ok (k : Nat) (args : List (A PU)) (objs : List (AObj PU)) (K : A PU → List (AObj PU) → Prop) (h : T54 (k + 1) args objs K) : RowOk PE (PT k) (PC k) 54 args objs K := by
  unfold T54 at h; split at h
  · exact .fn fnok54 rfl (Hold.mp (by kernel_rfl) h.out)
  · exact .fn fnok54 rfl (Hold.mp (by kernel_rfl) h.out)
  · exact h.elim
theorem T55_z (args : List (A PU)) (objs : List (AObj PU)) (K : A PU → List (AObj PU) → Prop) : ¬ T55 0 args objs K := by
  intro h; unfold T55 at h; split at h <;> (first | exact h | exact h.out)
theorem T55_ok (k : Nat) (args : List (A PU)) (objs : List (AObj PU)) (K : A PU → List (AObj PU) → Prop) (h : T55 (k + 1) args objs K) : RowOk PE (PT k) (PC k) 55 args objs K := by
  unfold T55 at h; split at h
  · exact .fn fnok55 rfl (Hold.mp (by kernel_rfl) h.out)
  · exact .fn fnok55 rfl (Hold.mp (by kernel_rfl) h.out)
  · exact h.elim
theorem T33_z (args : List (A PU)) (objs : List (AObj PU)) (K : A PU → List (AObj PU) → Prop) : ¬ T33 0 args objs K := by
  intro h; unfold T33 at h; split at h <;> (first | exact h | exact h.out)
theorem T33_ok (k : Nat) (args : List (A PU)) (objs : List (AObj PU)) (K : A PU → List (AObj PU) → Prop) (h : T33 (k + 1) args objs K) : RowOk PE (PT k) (PC k) 33 args objs K := by
  unfold T33 at h; split at h
  · exact .fn fnok33 rfl (Hold.mp (by kernel_rfl) h.out)
  · exact h.elim
theorem T16_z (args : List (A PU)) (objs : List (AObj PU)) (K : A PU → List (AObj PU) → Prop) : ¬ T16 0 args objs K := by
  intro h; unfold T16 at h; split at h <;> (first | exact h | exact h.out)
theorem T16_ok (k : Nat) (args : List (A PU)) (objs : List (AObj PU)) (K : A PU → List (AObj PU) → Prop) (h : T16 (k + 1) args objs K) : RowOk PE (PT k) (PC k) 16 args objs K := by
  unfold T16 at h; split at h
  · exact .fn fnok16 rfl (Hold.mp (by kernel_rfl) h.out)
  · exact h.elim
theorem T21y7_z (args : List (A PU)) (objs : List (AObj PU)) (K : A PU → List (AObj PU) → Prop) : ¬ T21y7 0 args objs K := by
  intro h; unfold T21y7 at h; split at h <;> (first | exact h | exact h.out)
theorem T21y7_ok (k : Nat) (args : List (A PU)) (objs : List (AObj PU)) (K : A PU → List (AObj PU) → Prop) (h : T21y7 (k + 1) args objs K) : RowOk PE (PT k) (PC k) 22000007 args objs K := by
  unfold T21y7 at h; split at h
  · exact .round 21 7 rfl fnok21 rfl (Hold.mp (by kernel_rfl) h.out)
  · exact .round 21 7 rfl fnok21 rfl (Hold.mp (by kernel_rfl) h.out)
  · exact h.elim
theorem T53y3_z (args : List (A PU)) (objs : List (AObj PU)) (K : A PU → List (AObj PU) → Prop) : ¬ T53y3 0 args objs K := by
  intro h; unfold T53y3 at h; split at h <;> (first | exact h | exact h.out)
theorem T53y3_ok (k : Nat) (args : List (A PU)) (objs : List (AObj PU)) (K : A PU → List (AObj PU) → Prop) (h : T53y3 (k + 1) args objs K) : RowOk PE (PT k) (PC k) 54000003 args objs K := by
  unfold T53y3 at h; split at h
  · exact .round 53 3 rfl fnok53 rfl (Hold.mp (by kernel_rfl) h.out)
  · exact .round 53 3 rfl fnok53 rfl (Hold.mp (by kernel_rfl) h.out)
  · exact h.elim
theorem T74_z (args : List (A PU)) (objs : List (AObj PU)) (K : A PU → List (AObj PU) → Prop) : ¬ T74 0 args objs K := by
  intro h; unfold T74 at h; split at h <;> (first | exact h | exact h.out)
theorem T74_ok (k : Nat) (args : List (A PU)) (objs : List (AObj PU)) (K : A PU → List (AObj PU) → Prop) (h : T74 (k + 1) args objs K) : RowOk PE (PT k) (PC k) 74 args objs K := by
  unfold T74 at h; split at h
  · exact .fn fnok74 rfl (Hold.mp (by kernel_rfl) h.out)
  · exact .fn fnok74 rfl (Hold.mp (by kernel_rfl) h.out)
  · exact h.elim
theorem T53_z (args : List (A PU)) (objs : List (AObj PU)) (K : A PU → List (AObj PU) → Prop) : ¬ T53 0 args objs K := by
  intro h; unfold T53 at h; split at h <;> (first | exact h | exact h.out)
theorem T53_ok (k : Nat) (args : List (A PU)) (objs : List (AObj PU)) (K : A PU → List (AObj PU) → Prop) (h : T53 (k + 1) args objs K) : RowOk PE (PT k) (PC k) 53 args objs K := by
  unfold T53 at h; split at h
  · exact .fn fnok53 rfl (Hold.mp (by kernel_rfl) h.out)
  · exact .fn fnok53 rfl (Hold.mp (by kernel_rfl) h.out)
  · exact h.elim
theorem T21_z (args : List (A PU)) (objs : List (AObj PU)) (K : A PU → List (AObj PU) → Prop) : ¬ T21 0 args objs K := by
  intro h; unfold T21 at h; split at h <;> (first | exact h | exact h.out)
theorem T21_ok (k : Nat) (args : List (A PU)) (objs : List (AObj PU)) (K : A PU → List (AObj PU) → Prop) (h : T21 (k + 1) args objs K) : RowOk PE (PT k) (PC k) 21 args objs K := by
  unfold T21 at h; split at h
  · exact .fn fnok21 rfl (Hold.mp (by kernel_rfl) h.out)
  · exact .fn fnok21 rfl (Hold.mp (by kernel_rfl) h.out)
  · exact h.elim
theorem T9_z (args : List (A PU)) (objs : List (AObj PU)) (K : A PU → List (AObj PU) → Prop) : ¬ T9 0 args objs K := by
  intro h; unfold T9 at h; split at h <;> (first | exact h | exact h.out)
theorem T9_ok (k : Nat) (args : List (A PU)) (objs : List (AObj PU)) (K : A PU → List (AObj PU) → Prop) (h : T9 (k + 1) args objs K) : RowOk PE (PT k) (PC k) 9 args objs K := by
  unfold T9 at h; split at h
  · exact .fn fnok9 rfl (Hold.mp (by kernel_rfl) h.out)
  · exact .fn fnok9 rfl (Hold.mp (by kernel_rfl) h.out)
  · exact h.elim
theorem T10_z (args : List (A PU)) (objs : List (AObj PU)) (K : A PU → List (AObj PU) → Prop) : ¬ T10 0 args objs K := by
  intro h; unfold T10 at h; split at h <;> (first | exact h | exact h.out)
theorem T10_ok (k : Nat) (args : List (A PU)) (objs : List (AObj PU)) (K : A PU → List (AObj PU) → Prop) (h : T10 (k + 1) args objs K) : RowOk PE (PT k) (PC k) 10 args objs K := by
  unfold T10 at h; split at h
  · exact .fn fnok10 rfl (Hold.mp (by kernel_rfl) h.out)
  · exact h.elim
theorem T7_z (args : List (A PU)) (objs : List (AObj PU)) (K : A PU → List (AObj PU) → Prop) : ¬ T7 0 args objs K := by
  intro h; unfold T7 at h; split at h <;> (first | exact h | exact h.out)
theorem T7_ok (k : Nat) (args : List (A PU)) (objs : List (AObj PU)) (K : A PU → List (AObj PU) → Prop) (h : T7 (k + 1) args objs K) : RowOk PE (PT k) (PC k) 7 args objs K := by
  unfold T7 at h; split at h
  · exact .fn fnok7 rfl (Hold.mp (by kernel_rfl) h.out)
  · exact h.elim
theorem D79_2_z (nb : Nat) (vals : List (A PU)) (objs : List (AObj PU)) (K : A PU → List (AObj PU) → Prop) : ¬ D79_2 0 nb vals objs K := by
  intro h; unfold D79_2 at h; split at h <;> (first | exact h | exact h.out)
theorem D79_2_ok (k : Nat) (live : List Nat) (hl : cutOf 79 2 PE.cuts = some live) (nb : Nat) (vals : List (A PU)) (objs : List (AObj PU)) (K : A PU → List (AObj PU) → Prop) (h : D79_2 (k + 1) nb vals objs K) : fnOk PE.P 79 = true ∧ Hold (vcut PE (PT k) (PC k) 79 2 live nb vals objs K) := by
  obtain rfl : live = [0, 1, 9, 10, 11] := Option.some.inj (hl.symm.trans (by kernel_rfl : cutOf 79 2 PE.cuts = some [0, 1, 9, 10, 11]))
  refine ⟨fnok79, ?_⟩; unfold D79_2 at h; split at h
  · exact Hold.mp (by kernel_rfl) h.out
  · exact h.elim
theorem D65_4_z (nb : Nat) (vals : List (A PU)) (objs : List (AObj PU)) (K : A PU → List (AObj PU) → Prop) : ¬ D65_4 0 nb vals objs K := by
  intro h; unfold D65_4 at h; split at h <;> (first | exact h | exact h.out)
theorem D65_4_ok (k : Nat) (live : List Nat) (hl : cutOf 65 4 PE.cuts = some live) (nb : Nat) (vals : List (A PU)) (objs : List (AObj PU)) (K : A PU → List (AObj PU) → Prop) (h : D65_4 (k + 1) nb vals objs K) : fnOk PE.P 65 = true ∧ Hold (vcut PE (PT k) (PC k) 65 4 live nb vals objs K) := by
  obtain rfl : live = [0, 9, 10] := Option.some.inj (hl.symm.trans (by kernel_rfl : cutOf 65 4 PE.cuts = some [0, 9, 10]))
  refine ⟨fnok65, ?_⟩; unfold D65_4 at h; split at h
  · exact Hold.mp (by kernel_rfl) h.out
  · exact h.elim
theorem D66_5_z (nb : Nat) (vals : List (A PU)) (objs : List (AObj PU)) (K : A PU → List (AObj PU) → Prop) : ¬ D66_5 0 nb vals objs K := by
  intro h; unfold D66_5 at h; split at h <;> (first | exact h | exact h.out)
theorem D66_5_ok (k : Nat) (live : List Nat) (hl : cutOf 66 5 PE.cuts = some live) (nb : Nat) (vals : List (A PU)) (objs : List (AObj PU)) (K : A PU → List (AObj PU) → Prop) (h : D66_5 (k + 1) nb vals objs K) : fnOk PE.P 66 = true ∧ Hold (vcut PE (PT k) (PC k) 66 5 live nb vals objs K) := by
  obtain rfl : live = [3, 4, 6, 7] := Option.some.inj (hl.symm.trans (by kernel_rfl : cutOf 66 5 PE.cuts = some [3, 4, 6, 7]))
  refine ⟨fnok66, ?_⟩; unfold D66_5 at h; split at h
  · exact Hold.mp (by kernel_rfl) h.out
  · exact h.elim
theorem D66_11_z (nb : Nat) (vals : List (A PU)) (objs : List (AObj PU)) (K : A PU → List (AObj PU) → Prop) : ¬ D66_11 0 nb vals objs K := by
  intro h; unfold D66_11 at h; split at h <;> (first | exact h | exact h.out)
theorem D66_11_ok (k : Nat) (live : List Nat) (hl : cutOf 66 11 PE.cuts = some live) (nb : Nat) (vals : List (A PU)) (objs : List (AObj PU)) (K : A PU → List (AObj PU) → Prop) (h : D66_11 (k + 1) nb vals objs K) : fnOk PE.P 66 = true ∧ Hold (vcut PE (PT k) (PC k) 66 11 live nb vals objs K) := by
  obtain rfl : live = [4] := Option.some.inj (hl.symm.trans (by kernel_rfl : cutOf 66 11 PE.cuts = some [4]))
  refine ⟨fnok66, ?_⟩; unfold D66_11 at h; split at h
  · exact Hold.mp (by kernel_rfl) h.out
  · exact h.elim
theorem D67_3_z (nb : Nat) (vals : List (A PU)) (objs : List (AObj PU)) (K : A PU → List (AObj PU) → Prop) : ¬ D67_3 0 nb vals objs K := by
  intro h; unfold D67_3 at h; split at h <;> (first | exact h | exact h.out)
theorem D67_3_ok (k : Nat) (live : List Nat) (hl : cutOf 67 3 PE.cuts = some live) (nb : Nat) (vals : List (A PU)) (objs : List (AObj PU)) (K : A PU → List (AObj PU) → Prop) (h : D67_3 (k + 1) nb vals objs K) : fnOk PE.P 67 = true ∧ Hold (vcut PE (PT k) (PC k) 67 3 live nb vals objs K) := by
  obtain rfl : live = [0, 2, 4] := Option.some.inj (hl.symm.trans (by kernel_rfl : cutOf 67 3 PE.cuts = some [0, 2, 4]))
  refine ⟨fnok67, ?_⟩; unfold D67_3 at h; split at h
  · exact Hold.mp (by kernel_rfl) h.out
  · exact h.elim
theorem D67_8_z (nb : Nat) (vals : List (A PU)) (objs : List (AObj PU)) (K : A PU → List (AObj PU) → Prop) : ¬ D67_8 0 nb vals objs K := by
  intro h; unfold D67_8 at h; split at h <;> (first | exact h | exact h.out)
theorem D67_8_ok (k : Nat) (live : List Nat) (hl : cutOf 67 8 PE.cuts = some live) (nb : Nat) (vals : List (A PU)) (objs : List (AObj PU)) (K : A PU → List (AObj PU) → Prop) (h : D67_8 (k + 1) nb vals objs K) : fnOk PE.P 67 = true ∧ Hold (vcut PE (PT k) (PC k) 67 8 live nb vals objs K) := by
  obtain rfl : live = [0, 2, 4] := Option.some.inj (hl.symm.trans (by kernel_rfl : cutOf 67 8 PE.cuts = some [0, 2, 4]))
  refine ⟨fnok67, ?_⟩; unfold D67_8 at h; split at h
  · exact Hold.mp (by kernel_rfl) h.out
  · exact Hold.mp (by kernel_rfl) h.out
  · exact h.elim
theorem D67_9_z (nb : Nat) (vals : List (A PU)) (objs : List (AObj PU)) (K : A PU → List (AObj PU) → Prop) : ¬ D67_9 0 nb vals objs K := by
  intro h; unfold D67_9 at h; split at h <;> (first | exact h | exact h.out)
theorem D67_9_ok (k : Nat) (live : List Nat) (hl : cutOf 67 9 PE.cuts = some live) (nb : Nat) (vals : List (A PU)) (objs : List (AObj PU)) (K : A PU → List (AObj PU) → Prop) (h : D67_9 (k + 1) nb vals objs K) : fnOk PE.P 67 = true ∧ Hold (vcut PE (PT k) (PC k) 67 9 live nb vals objs K) := by
  obtain rfl : live = [2, 4, 8] := Option.some.inj (hl.symm.trans (by kernel_rfl : cutOf 67 9 PE.cuts = some [2, 4, 8]))
  refine ⟨fnok67, ?_⟩; unfold D67_9 at h; split at h
  · exact Hold.mp (by kernel_rfl) h.out
  · exact h.elim
theorem D42_9_z (nb : Nat) (vals : List (A PU)) (objs : List (AObj PU)) (K : A PU → List (AObj PU) → Prop) : ¬ D42_9 0 nb vals objs K := by
  intro h; unfold D42_9 at h; split at h <;> (first | exact h | exact h.out)
theorem D42_9_ok (k : Nat) (live : List Nat) (hl : cutOf 42 9 PE.cuts = some live) (nb : Nat) (vals : List (A PU)) (objs : List (AObj PU)) (K : A PU → List (AObj PU) → Prop) (h : D42_9 (k + 1) nb vals objs K) : fnOk PE.P 42 = true ∧ Hold (vcut PE (PT k) (PC k) 42 9 live nb vals objs K) := by
  obtain rfl : live = [0, 5, 6, 29, 30, 31] := Option.some.inj (hl.symm.trans (by kernel_rfl : cutOf 42 9 PE.cuts = some [0, 5, 6, 29, 30, 31]))
  refine ⟨fnok42, ?_⟩; unfold D42_9 at h; split at h
  · exact Hold.mp (by kernel_rfl) h.out
  · exact Hold.mp (by kernel_rfl) h.out
  · exact h.elim
theorem D75_2_z (nb : Nat) (vals : List (A PU)) (objs : List (AObj PU)) (K : A PU → List (AObj PU) → Prop) : ¬ D75_2 0 nb vals objs K := by
  intro h; unfold D75_2 at h; split at h <;> (first | exact h | exact h.out)
theorem D75_2_ok (k : Nat) (live : List Nat) (hl : cutOf 75 2 PE.cuts = some live) (nb : Nat) (vals : List (A PU)) (objs : List (AObj PU)) (K : A PU → List (AObj PU) → Prop) (h : D75_2 (k + 1) nb vals objs K) : fnOk PE.P 75 = true ∧ Hold (vcut PE (PT k) (PC k) 75 2 live nb vals objs K) := by
  obtain rfl : live = [0, 2, 25] := Option.some.inj (hl.symm.trans (by kernel_rfl : cutOf 75 2 PE.cuts = some [0, 2, 25]))
  refine ⟨fnok75, ?_⟩; unfold D75_2 at h; split at h
  · exact Hold.mp (by kernel_rfl) h.out
  · exact h.elim
theorem D75_11_z (nb : Nat) (vals : List (A PU)) (objs : List (AObj PU)) (K : A PU → List (AObj PU) → Prop) : ¬ D75_11 0 nb vals objs K := by
  intro h; unfold D75_11 at h; split at h <;> (first | exact h | exact h.out)
theorem D75_11_ok (k : Nat) (live : List Nat) (hl : cutOf 75 11 PE.cuts = some live) (nb : Nat) (vals : List (A PU)) (objs : List (AObj PU)) (K : A PU → List (AObj PU) → Prop) (h : D75_11 (k + 1) nb vals objs K) : fnOk PE.P 75 = true ∧ Hold (vcut PE (PT k) (PC k) 75 11 live nb vals objs K) := by
  obtain rfl : live = [0, 2, 25] := Option.some.inj (hl.symm.trans (by kernel_rfl : cutOf 75 11 PE.cuts = some [0, 2, 25]))
  refine ⟨fnok75, ?_⟩; unfold D75_11 at h; split at h
  · exact Hold.mp (by kernel_rfl) h.out
  · exact h.elim
theorem D75_14_z (nb : Nat) (vals : List (A PU)) (objs : List (AObj PU)) (K : A PU → List (AObj PU) → Prop) : ¬ D75_14 0 nb vals objs K := by
  intro h; unfold D75_14 at h; split at h <;> (first | exact h | exact h.out)
theorem D75_14_ok (k : Nat) (live : List Nat) (hl : cutOf 75 14 PE.cuts = some live) (nb : Nat) (vals : List (A PU)) (objs : List (AObj PU)) (K : A PU → List (AObj PU) → Prop) (h : D75_14 (k + 1) nb vals objs K) : fnOk PE.P 75 = true ∧ Hold (vcut PE (PT k) (PC k) 75 14 live nb vals objs K) := by
  obtain rfl : live = [0, 9, 10, 11, 12, 13, 14, 15, 16, 140, 141] := Option.some.inj (hl.symm.trans (by kernel_rfl : cutOf 75 14 PE.cuts = some [0, 9, 10, 11, 12, 13, 14, 15, 16, 140, 141]))
  refine ⟨fnok75, ?_⟩; unfold D75_14 at h; split at h
  · exact Hold.mp (by kernel_rfl) h.out
  · exact h.elim
theorem D75_23_z (nb : Nat) (vals : List (A PU)) (objs : List (AObj PU)) (K : A PU → List (AObj PU) → Prop) : ¬ D75_23 0 nb vals objs K := by
  intro h; unfold D75_23 at h; split at h <;> (first | exact h | exact h.out)
theorem D75_23_ok (k : Nat) (live : List Nat) (hl : cutOf 75 23 PE.cuts = some live) (nb : Nat) (vals : List (A PU)) (objs : List (AObj PU)) (K : A PU → List (AObj PU) → Prop) (h : D75_23 (k + 1) nb vals objs K) : fnOk PE.P 75 = true ∧ Hold (vcut PE (PT k) (PC k) 75 23 live nb vals objs K) := by
  obtain rfl : live = [0, 210, 211] := Option.some.inj (hl.symm.trans (by kernel_rfl : cutOf 75 23 PE.cuts = some [0, 210, 211]))
  refine ⟨fnok75, ?_⟩; unfold D75_23 at h; split at h
  · exact Hold.mp (by kernel_rfl) h.out
  · exact h.elim
theorem D58_3_z (nb : Nat) (vals : List (A PU)) (objs : List (AObj PU)) (K : A PU → List (AObj PU) → Prop) : ¬ D58_3 0 nb vals objs K := by
  intro h; unfold D58_3 at h; split at h <;> (first | exact h | exact h.out)
theorem D58_3_ok (k : Nat) (live : List Nat) (hl : cutOf 58 3 PE.cuts = some live) (nb : Nat) (vals : List (A PU)) (objs : List (AObj PU)) (K : A PU → List (AObj PU) → Prop) (h : D58_3 (k + 1) nb vals objs K) : fnOk PE.P 58 = true ∧ Hold (vcut PE (PT k) (PC k) 58 3 live nb vals objs K) := by
  obtain rfl : live = [0, 1] := Option.some.inj (hl.symm.trans (by kernel_rfl : cutOf 58 3 PE.cuts = some [0, 1]))
  refine ⟨fnok58, ?_⟩; unfold D58_3 at h; split at h
  · exact Hold.mp (by kernel_rfl) h.out
  · exact Hold.mp (by kernel_rfl) h.out
  · exact h.elim
theorem D59_9_z (nb : Nat) (vals : List (A PU)) (objs : List (AObj PU)) (K : A PU → List (AObj PU) → Prop) : ¬ D59_9 0 nb vals objs K := by
  intro h; unfold D59_9 at h; split at h <;> (first | exact h | exact h.out)
theorem D59_9_ok (k : Nat) (live : List Nat) (hl : cutOf 59 9 PE.cuts = some live) (nb : Nat) (vals : List (A PU)) (objs : List (AObj PU)) (K : A PU → List (AObj PU) → Prop) (h : D59_9 (k + 1) nb vals objs K) : fnOk PE.P 59 = true ∧ Hold (vcut PE (PT k) (PC k) 59 9 live nb vals objs K) := by
  obtain rfl : live = [0, 2, 3, 4, 5, 6, 22] := Option.some.inj (hl.symm.trans (by kernel_rfl : cutOf 59 9 PE.cuts = some [0, 2, 3, 4, 5, 6, 22]))
  refine ⟨fnok59, ?_⟩; unfold D59_9 at h; split at h
  · exact Hold.mp (by kernel_rfl) h.out
  · exact h.elim
theorem D59_15_z (nb : Nat) (vals : List (A PU)) (objs : List (AObj PU)) (K : A PU → List (AObj PU) → Prop) : ¬ D59_15 0 nb vals objs K := by
  intro h; unfold D59_15 at h; split at h <;> (first | exact h | exact h.out)
theorem D59_15_ok (k : Nat) (live : List Nat) (hl : cutOf 59 15 PE.cuts = some live) (nb : Nat) (vals : List (A PU)) (objs : List (AObj PU)) (K : A PU → List (AObj PU) → Prop) (h : D59_15 (k + 1) nb vals objs K) : fnOk PE.P 59 = true ∧ Hold (vcut PE (PT k) (PC k) 59 15 live nb vals objs K) := by
  obtain rfl : live = [2, 3, 4, 45] := Option.some.inj (hl.symm.trans (by kernel_rfl : cutOf 59 15 PE.cuts = some [2, 3, 4, 45]))
  refine ⟨fnok59, ?_⟩; unfold D59_15 at h; split at h
  · exact Hold.mp (by kernel_rfl) h.out
  · exact h.elim
theorem D32_4_z (nb : Nat) (vals : List (A PU)) (objs : List (AObj PU)) (K : A PU → List (AObj PU) → Prop) : ¬ D32_4 0 nb vals objs K := by
  intro h; unfold D32_4 at h; split at h <;> (first | exact h | exact h.out)
theorem D32_4_ok (k : Nat) (live : List Nat) (hl : cutOf 32 4 PE.cuts = some live) (nb : Nat) (vals : List (A PU)) (objs : List (AObj PU)) (K : A PU → List (AObj PU) → Prop) (h : D32_4 (k + 1) nb vals objs K) : fnOk PE.P 32 = true ∧ Hold (vcut PE (PT k) (PC k) 32 4 live nb vals objs K) := by
  obtain rfl : live = [4, 5] := Option.some.inj (hl.symm.trans (by kernel_rfl : cutOf 32 4 PE.cuts = some [4, 5]))
  refine ⟨fnok32, ?_⟩; unfold D32_4 at h; split at h
  · exact Hold.mp (by kernel_rfl) h.out
  · exact h.elim
theorem D45_4_z (nb : Nat) (vals : List (A PU)) (objs : List (AObj PU)) (K : A PU → List (AObj PU) → Prop) : ¬ D45_4 0 nb vals objs K := by
  intro h; unfold D45_4 at h; split at h <;> (first | exact h | exact h.out)
theorem D45_4_ok (k : Nat) (live : List Nat) (hl : cutOf 45 4 PE.cuts = some live) (nb : Nat) (vals : List (A PU)) (objs : List (AObj PU)) (K : A PU → List (AObj PU) → Prop) (h : D45_4 (k + 1) nb vals objs K) : fnOk PE.P 45 = true ∧ Hold (vcut PE (PT k) (PC k) 45 4 live nb vals objs K) := by
  obtain rfl : live = [0, 6, 7, 15, 16, 17] := Option.some.inj (hl.symm.trans (by kernel_rfl : cutOf 45 4 PE.cuts = some [0, 6, 7, 15, 16, 17]))
  refine ⟨fnok45, ?_⟩; unfold D45_4 at h; split at h
  · exact Hold.mp (by kernel_rfl) h.out
  · exact Hold.mp (by kernel_rfl) h.out
  · exact h.elim
theorem D20_2_z (nb : Nat) (vals : List (A PU)) (objs : List (AObj PU)) (K : A PU → List (AObj PU) → Prop) : ¬ D20_2 0 nb vals objs K := by
  intro h; unfold D20_2 at h; split at h <;> (first | exact h | exact h.out)
theorem D20_2_ok (k : Nat) (live : List Nat) (hl : cutOf 20 2 PE.cuts = some live) (nb : Nat) (vals : List (A PU)) (objs : List (AObj PU)) (K : A PU → List (AObj PU) → Prop) (h : D20_2 (k + 1) nb vals objs K) : fnOk PE.P 20 = true ∧ Hold (vcut PE (PT k) (PC k) 20 2 live nb vals objs K) := by
  obtain rfl : live = [1, 4, 6, 7] := Option.some.inj (hl.symm.trans (by kernel_rfl : cutOf 20 2 PE.cuts = some [1, 4, 6, 7]))
  refine ⟨fnok20, ?_⟩; unfold D20_2 at h; split at h
  · exact Hold.mp (by kernel_rfl) h.out
  · exact Hold.mp (by kernel_rfl) h.out
  · exact Hold.mp (by kernel_rfl) h.out
  · exact Hold.mp (by kernel_rfl) h.out
  · exact h.elim
theorem D20_3_z (nb : Nat) (vals : List (A PU)) (objs : List (AObj PU)) (K : A PU → List (AObj PU) → Prop) : ¬ D20_3 0 nb vals objs K := by
  intro h; unfold D20_3 at h; split at h <;> (first | exact h | exact h.out)
theorem D20_3_ok (k : Nat) (live : List Nat) (hl : cutOf 20 3 PE.cuts = some live) (nb : Nat) (vals : List (A PU)) (objs : List (AObj PU)) (K : A PU → List (AObj PU) → Prop) (h : D20_3 (k + 1) nb vals objs K) : fnOk PE.P 20 = true ∧ Hold (vcut PE (PT k) (PC k) 20 3 live nb vals objs K) := by
  obtain rfl : live = [4, 7] := Option.some.inj (hl.symm.trans (by kernel_rfl : cutOf 20 3 PE.cuts = some [4, 7]))
  refine ⟨fnok20, ?_⟩; unfold D20_3 at h; split at h
  · exact Hold.mp (by kernel_rfl) h.out
  · exact h.elim
theorem D20_4_z (nb : Nat) (vals : List (A PU)) (objs : List (AObj PU)) (K : A PU → List (AObj PU) → Prop) : ¬ D20_4 0 nb vals objs K := by
  intro h; unfold D20_4 at h; split at h <;> (first | exact h | exact h.out)
theorem D20_4_ok (k : Nat) (live : List Nat) (hl : cutOf 20 4 PE.cuts = some live) (nb : Nat) (vals : List (A PU)) (objs : List (AObj PU)) (K : A PU → List (AObj PU) → Prop) (h : D20_4 (k + 1) nb vals objs K) : fnOk PE.P 20 = true ∧ Hold (vcut PE (PT k) (PC k) 20 4 live nb vals objs K) := by
  obtain rfl : live = [1, 4, 6] := Option.some.inj (hl.symm.trans (by kernel_rfl : cutOf 20 4 PE.cuts = some [1, 4, 6]))
  refine ⟨fnok20, ?_⟩; unfold D20_4 at h; split at h
  · exact Hold.mp (by kernel_rfl) h.out
  · exact Hold.mp (by kernel_rfl) h.out
  · exact Hold.mp (by kernel_rfl) h.out
  · exact Hold.mp (by kernel_rfl) h.out
  · exact h.elim
theorem D20_5_z (nb : Nat) (vals : List (A PU)) (objs : List (AObj PU)) (K : A PU → List (AObj PU) → Prop) : ¬ D20_5 0 nb vals objs K := by
  intro h; unfold D20_5 at h; split at h <;> (first | exact h | exact h.out)
theorem D20_5_ok (k : Nat) (live : List Nat) (hl : cutOf 20 5 PE.cuts = some live) (nb : Nat) (vals : List (A PU)) (objs : List (AObj PU)) (K : A PU → List (AObj PU) → Prop) (h : D20_5 (k + 1) nb vals objs K) : fnOk PE.P 20 = true ∧ Hold (vcut PE (PT k) (PC k) 20 5 live nb vals objs K) := by
  obtain rfl : live = [4, 6, 8] := Option.some.inj (hl.symm.trans (by kernel_rfl : cutOf 20 5 PE.cuts = some [4, 6, 8]))
  refine ⟨fnok20, ?_⟩; unfold D20_5 at h; split at h
  · exact Hold.mp (by kernel_rfl) h.out
  · exact Hold.mp (by kernel_rfl) h.out
  · exact h.elim
theorem D20_6_z (nb : Nat) (vals : List (A PU)) (objs : List (AObj PU)) (K : A PU → List (AObj PU) → Prop) : ¬ D20_6 0 nb vals objs K := by
  intro h; unfold D20_6 at h; split at h <;> (first | exact h | exact h.out)
theorem D20_6_ok (k : Nat) (live : List Nat) (hl : cutOf 20 6 PE.cuts = some live) (nb : Nat) (vals : List (A PU)) (objs : List (AObj PU)) (K : A PU → List (AObj PU) → Prop) (h : D20_6 (k + 1) nb vals objs K) : fnOk PE.P 20 = true ∧ Hold (vcut PE (PT k) (PC k) 20 6 live nb vals objs K) := by
  obtain rfl : live = [4, 8] := Option.some.inj (hl.symm.trans (by kernel_rfl : cutOf 20 6 PE.cuts = some [4, 8]))
  refine ⟨fnok20, ?_⟩; unfold D20_6 at h; split at h
  · exact Hold.mp (by kernel_rfl) h.out
  · exact h.elim
theorem D61_2_z (nb : Nat) (vals : List (A PU)) (objs : List (AObj PU)) (K : A PU → List (AObj PU) → Prop) : ¬ D61_2 0 nb vals objs K := by
  intro h; unfold D61_2 at h; split at h <;> (first | exact h | exact h.out)
theorem D61_2_ok (k : Nat) (live : List Nat) (hl : cutOf 61 2 PE.cuts = some live) (nb : Nat) (vals : List (A PU)) (objs : List (AObj PU)) (K : A PU → List (AObj PU) → Prop) (h : D61_2 (k + 1) nb vals objs K) : fnOk PE.P 61 = true ∧ Hold (vcut PE (PT k) (PC k) 61 2 live nb vals objs K) := by
  obtain rfl : live = [0, 1, 7, 8] := Option.some.inj (hl.symm.trans (by kernel_rfl : cutOf 61 2 PE.cuts = some [0, 1, 7, 8]))
  refine ⟨fnok61, ?_⟩; unfold D61_2 at h; split at h
  · exact Hold.mp (by kernel_rfl) h.out
  · exact h.elim
theorem D36_11_z (nb : Nat) (vals : List (A PU)) (objs : List (AObj PU)) (K : A PU → List (AObj PU) → Prop) : ¬ D36_11 0 nb vals objs K := by
  intro h; unfold D36_11 at h; split at h <;> (first | exact h | exact h.out)
theorem D36_11_ok (k : Nat) (live : List Nat) (hl : cutOf 36 11 PE.cuts = some live) (nb : Nat) (vals : List (A PU)) (objs : List (AObj PU)) (K : A PU → List (AObj PU) → Prop) (h : D36_11 (k + 1) nb vals objs K) : fnOk PE.P 36 = true ∧ Hold (vcut PE (PT k) (PC k) 36 11 live nb vals objs K) := by
  obtain rfl : live = [0, 5, 6, 8, 9, 39, 40, 41] := Option.some.inj (hl.symm.trans (by kernel_rfl : cutOf 36 11 PE.cuts = some [0, 5, 6, 8, 9, 39, 40, 41]))
  refine ⟨fnok36, ?_⟩; unfold D36_11 at h; split at h
  · exact Hold.mp (by kernel_rfl) h.out
  · exact h.elim
theorem D36_16_z (nb : Nat) (vals : List (A PU)) (objs : List (AObj PU)) (K : A PU → List (AObj PU) → Prop) : ¬ D36_16 0 nb vals objs K := by
  intro h; unfold D36_16 at h; split at h <;> (first | exact h | exact h.out)
theorem D36_16_ok (k : Nat) (live : List Nat) (hl : cutOf 36 16 PE.cuts = some live) (nb : Nat) (vals : List (A PU)) (objs : List (AObj PU)) (K : A PU → List (AObj PU) → Prop) (h : D36_16 (k + 1) nb vals objs K) : fnOk PE.P 36 = true ∧ Hold (vcut PE (PT k) (PC k) 36 16 live nb vals objs K) := by
  obtain rfl : live = [0, 5, 6, 8, 9, 39, 40, 41] := Option.some.inj (hl.symm.trans (by kernel_rfl : cutOf 36 16 PE.cuts = some [0, 5, 6, 8, 9, 39, 40, 41]))
  refine ⟨fnok36, ?_⟩; unfold D36_16 at h; split at h
  · exact Hold.mp (by kernel_rfl) h.out
  · exact h.elim
theorem D17_6_z (nb : Nat) (vals : List (A PU)) (objs : List (AObj PU)) (K : A PU → List (AObj PU) → Prop) : ¬ D17_6 0 nb vals objs K := by
  intro h; unfold D17_6 at h; split at h <;> (first | exact h | exact h.out)
theorem D17_6_ok (k : Nat) (live : List Nat) (hl : cutOf 17 6 PE.cuts = some live) (nb : Nat) (vals : List (A PU)) (objs : List (AObj PU)) (K : A PU → List (AObj PU) → Prop) (h : D17_6 (k + 1) nb vals objs K) : fnOk PE.P 17 = true ∧ Hold (vcut PE (PT k) (PC k) 17 6 live nb vals objs K) := by
  obtain rfl : live = [0, 5, 6, 7, 11, 12] := Option.some.inj (hl.symm.trans (by kernel_rfl : cutOf 17 6 PE.cuts = some [0, 5, 6, 7, 11, 12]))
  refine ⟨fnok17, ?_⟩; unfold D17_6 at h; split at h
  · exact Hold.mp (by kernel_rfl) h.out
  · exact h.elim
theorem D17_10_z (nb : Nat) (vals : List (A PU)) (objs : List (AObj PU)) (K : A PU → List (AObj PU) → Prop) : ¬ D17_10 0 nb vals objs K := by
  intro h; unfold D17_10 at h; split at h <;> (first | exact h | exact h.out)
theorem D17_10_ok (k : Nat) (live : List Nat) (hl : cutOf 17 10 PE.cuts = some live) (nb : Nat) (vals : List (A PU)) (objs : List (AObj PU)) (K : A PU → List (AObj PU) → Prop) (h : D17_10 (k + 1) nb vals objs K) : fnOk PE.P 17 = true ∧ Hold (vcut PE (PT k) (PC k) 17 10 live nb vals objs K) := by
  obtain rfl : live = [0, 5, 6, 7, 12, 13, 14, 35, 36, 37] := Option.some.inj (hl.symm.trans (by kernel_rfl : cutOf 17 10 PE.cuts = some [0, 5, 6, 7, 12, 13, 14, 35, 36, 37]))
  refine ⟨fnok17, ?_⟩; unfold D17_10 at h; split at h
  · exact Hold.mp (by kernel_rfl) h.out
  · exact h.elim
theorem D17_15_z (nb : Nat) (vals : List (A PU)) (objs : List (AObj PU)) (K : A PU → List (AObj PU) → Prop) : ¬ D17_15 0 nb vals objs K := by
  intro h; unfold D17_15 at h; split at h <;> (first | exact h | exact h.out)
theorem D17_15_ok (k : Nat) (live : List Nat) (hl : cutOf 17 15 PE.cuts = some live) (nb : Nat) (vals : List (A PU)) (objs : List (AObj PU)) (K : A PU → List (AObj PU) → Prop) (h : D17_15 (k + 1) nb vals objs K) : fnOk PE.P 17 = true ∧ Hold (vcut PE (PT k) (PC k) 17 15 live nb vals objs K) := by
  obtain rfl : live = [0, 5, 6, 7, 12, 13, 14, 35, 36, 37] := Option.some.inj (hl.symm.trans (by kernel_rfl : cutOf 17 15 PE.cuts = some [0, 5, 6, 7, 12, 13, 14, 35, 36, 37]))
  refine ⟨fnok17, ?_⟩; unfold D17_15 at h; split at h
  · exact Hold.mp (by kernel_rfl) h.out
  · exact h.elim
theorem D17_22_z (nb : Nat) (vals : List (A PU)) (objs : List (AObj PU)) (K : A PU → List (AObj PU) → Prop) : ¬ D17_22 0 nb vals objs K := by
  intro h; unfold D17_22 at h; split at h <;> (first | exact h | exact h.out)
theorem D17_22_ok (k : Nat) (live : List Nat) (hl : cutOf 17 22 PE.cuts = some live) (nb : Nat) (vals : List (A PU)) (objs : List (AObj PU)) (K : A PU → List (AObj PU) → Prop) (h : D17_22 (k + 1) nb vals objs K) : fnOk PE.P 17 = true ∧ Hold (vcut PE (PT k) (PC k) 17 22 live nb vals objs K) := by
  obtain rfl : live = [6, 7] := Option.some.inj (hl.symm.trans (by kernel_rfl : cutOf 17 22 PE.cuts = some [6, 7]))
  refine ⟨fnok17, ?_⟩; unfold D17_22 at h; split at h
  · exact Hold.mp (by kernel_rfl) h.out
  · exact h.elim
theorem D19_2_z (nb : Nat) (vals : List (A PU)) (objs : List (AObj PU)) (K : A PU → List (AObj PU) → Prop) : ¬ D19_2 0 nb vals objs K := by
  intro h; unfold D19_2 at h; split at h <;> (first | exact h | exact h.out)
theorem D19_2_ok (k : Nat) (live : List Nat) (hl : cutOf 19 2 PE.cuts = some live) (nb : Nat) (vals : List (A PU)) (objs : List (AObj PU)) (K : A PU → List (AObj PU) → Prop) (h : D19_2 (k + 1) nb vals objs K) : fnOk PE.P 19 = true ∧ Hold (vcut PE (PT k) (PC k) 19 2 live nb vals objs K) := by
  obtain rfl : live = [2, 3, 7] := Option.some.inj (hl.symm.trans (by kernel_rfl : cutOf 19 2 PE.cuts = some [2, 3, 7]))
  refine ⟨fnok19, ?_⟩; unfold D19_2 at h; split at h
  · exact Hold.mp (by kernel_rfl) h.out
  · exact h.elim
theorem D6_9_z (nb : Nat) (vals : List (A PU)) (objs : List (AObj PU)) (K : A PU → List (AObj PU) → Prop) : ¬ D6_9 0 nb vals objs K := by
  intro h; unfold D6_9 at h; split at h <;> (first | exact h | exact h.out)
theorem D6_9_ok (k : Nat) (live : List Nat) (hl : cutOf 6 9 PE.cuts = some live) (nb : Nat) (vals : List (A PU)) (objs : List (AObj PU)) (K : A PU → List (AObj PU) → Prop) (h : D6_9 (k + 1) nb vals objs K) : fnOk PE.P 6 = true ∧ Hold (vcut PE (PT k) (PC k) 6 9 live nb vals objs K) := by
  obtain rfl : live = [1, 5, 8, 10, 11, 12] := Option.some.inj (hl.symm.trans (by kernel_rfl : cutOf 6 9 PE.cuts = some [1, 5, 8, 10, 11, 12]))
  refine ⟨fnok6, ?_⟩; unfold D6_9 at h; split at h
  · exact Hold.mp (by kernel_rfl) h.out
  · exact h.elim
theorem D44_4_z (nb : Nat) (vals : List (A PU)) (objs : List (AObj PU)) (K : A PU → List (AObj PU) → Prop) : ¬ D44_4 0 nb vals objs K := by
  intro h; unfold D44_4 at h; split at h <;> (first | exact h | exact h.out)
theorem D44_4_ok (k : Nat) (live : List Nat) (hl : cutOf 44 4 PE.cuts = some live) (nb : Nat) (vals : List (A PU)) (objs : List (AObj PU)) (K : A PU → List (AObj PU) → Prop) (h : D44_4 (k + 1) nb vals objs K) : fnOk PE.P 44 = true ∧ Hold (vcut PE (PT k) (PC k) 44 4 live nb vals objs K) := by
  obtain rfl : live = [1, 3] := Option.some.inj (hl.symm.trans (by kernel_rfl : cutOf 44 4 PE.cuts = some [1, 3]))
  refine ⟨fnok44, ?_⟩; unfold D44_4 at h; split at h
  · exact Hold.mp (by kernel_rfl) h.out
  · exact Hold.mp (by kernel_rfl) h.out
  · exact h.elim
theorem D56_3_z (nb : Nat) (vals : List (A PU)) (objs : List (AObj PU)) (K : A PU → List (AObj PU) → Prop) : ¬ D56_3 0 nb vals objs K := by
  intro h; unfold D56_3 at h; split at h <;> (first | exact h | exact h.out)
theorem D56_3_ok (k : Nat) (live : List Nat) (hl : cutOf 56 3 PE.cuts = some live) (nb : Nat) (vals : List (A PU)) (objs : List (AObj PU)) (K : A PU → List (AObj PU) → Prop) (h : D56_3 (k + 1) nb vals objs K) : fnOk PE.P 56 = true ∧ Hold (vcut PE (PT k) (PC k) 56 3 live nb vals objs K) := by
  obtain rfl : live = [5, 10, 11, 12] := Option.some.inj (hl.symm.trans (by kernel_rfl : cutOf 56 3 PE.cuts = some [5, 10, 11, 12]))
  refine ⟨fnok56, ?_⟩; unfold D56_3 at h; split at h
  · exact Hold.mp (by kernel_rfl) h.out
  · exact Hold.mp (by kernel_rfl) h.out
  · exact h.elim
theorem D74_1_z (nb : Nat) (vals : List (A PU)) (objs : List (AObj PU)) (K : A PU → List (AObj PU) → Prop) : ¬ D74_1 0 nb vals objs K := by
  intro h; unfold D74_1 at h; split at h <;> (first | exact h | exact h.out)
theorem D74_1_ok (k : Nat) (live : List Nat) (hl : cutOf 74 1 PE.cuts = some live) (nb : Nat) (vals : List (A PU)) (objs : List (AObj PU)) (K : A PU → List (AObj PU) → Prop) (h : D74_1 (k + 1) nb vals objs K) : fnOk PE.P 74 = true ∧ Hold (vcut PE (PT k) (PC k) 74 1 live nb vals objs K) := by
  obtain rfl : live = [0, 1, 3] := Option.some.inj (hl.symm.trans (by kernel_rfl : cutOf 74 1 PE.cuts = some [0, 1, 3]))
  refine ⟨fnok74, ?_⟩; unfold D74_1 at h; split at h
  · exact Hold.mp (by kernel_rfl) h.out
  · exact Hold.mp (by kernel_rfl) h.out
  · exact Hold.mp (by kernel_rfl) h.out
  · exact Hold.mp (by kernel_rfl) h.out
  · exact h.elim
theorem D74_3_z (nb : Nat) (vals : List (A PU)) (objs : List (AObj PU)) (K : A PU → List (AObj PU) → Prop) : ¬ D74_3 0 nb vals objs K := by
  intro h; unfold D74_3 at h; split at h <;> (first | exact h | exact h.out)
theorem D74_3_ok (k : Nat) (live : List Nat) (hl : cutOf 74 3 PE.cuts = some live) (nb : Nat) (vals : List (A PU)) (objs : List (AObj PU)) (K : A PU → List (AObj PU) → Prop) (h : D74_3 (k + 1) nb vals objs K) : fnOk PE.P 74 = true ∧ Hold (vcut PE (PT k) (PC k) 74 3 live nb vals objs K) := by
  obtain rfl : live = [0, 1, 3] := Option.some.inj (hl.symm.trans (by kernel_rfl : cutOf 74 3 PE.cuts = some [0, 1, 3]))
  refine ⟨fnok74, ?_⟩; unfold D74_3 at h; split at h
  · exact Hold.mp (by kernel_rfl) h.out
  · exact Hold.mp (by kernel_rfl) h.out
  · exact Hold.mp (by kernel_rfl) h.out
  · exact Hold.mp (by kernel_rfl) h.out
  · exact h.elim
theorem D7_9_z (nb : Nat) (vals : List (A PU)) (objs : List (AObj PU)) (K : A PU → List (AObj PU) → Prop) : ¬ D7_9 0 nb vals objs K := by
  intro h; unfold D7_9 at h; split at h <;> (first | exact h | exact h.out)
theorem D7_9_ok (k : Nat) (live : List Nat) (hl : cutOf 7 9 PE.cuts = some live) (nb : Nat) (vals : List (A PU)) (objs : List (AObj PU)) (K : A PU → List (AObj PU) → Prop) (h : D7_9 (k + 1) nb vals objs K) : fnOk PE.P 7 = true ∧ Hold (vcut PE (PT k) (PC k) 7 9 live nb vals objs K) := by
  obtain rfl : live = [0, 1, 5, 7, 8, 10, 12, 13] := Option.some.inj (hl.symm.trans (by kernel_rfl : cutOf 7 9 PE.cuts = some [0, 1, 5, 7, 8, 10, 12, 13]))
  refine ⟨fnok7, ?_⟩; unfold D7_9 at h; split at h
  · exact Hold.mp (by kernel_rfl) h.out
  · exact h.elim
theorem D7_10_z (nb : Nat) (vals : List (A PU)) (objs : List (AObj PU)) (K : A PU → List (AObj PU) → Prop) : ¬ D7_10 0 nb vals objs K := by
  intro h; unfold D7_10 at h; split at h <;> (first | exact h | exact h.out)
theorem D7_10_ok (k : Nat) (live : List Nat) (hl : cutOf 7 10 PE.cuts = some live) (nb : Nat) (vals : List (A PU)) (objs : List (AObj PU)) (K : A PU → List (AObj PU) → Prop) (h : D7_10 (k + 1) nb vals objs K) : fnOk PE.P 7 = true ∧ Hold (vcut PE (PT k) (PC k) 7 10 live nb vals objs K) := by
  obtain rfl : live = [0, 1, 5, 7, 8, 10, 12, 13] := Option.some.inj (hl.symm.trans (by kernel_rfl : cutOf 7 10 PE.cuts = some [0, 1, 5, 7, 8, 10, 12, 13]))
  refine ⟨fnok7, ?_⟩; unfold D7_10 at h; split at h
  · exact Hold.mp (by kernel_rfl) h.out
  · exact h.elim
theorem PSound (k : Nat) : TSound PE (PT k) ∧ CSound PE (PC k) :=
  tablesL PEok (by kernel_rfl) PTr PCr
    (List.forall_mem_cons.2 ⟨T31_z, List.forall_mem_cons.2 ⟨T41_z, List.forall_mem_cons.2 ⟨T42_z, List.forall_mem_cons.2 ⟨T43_z, List.forall_mem_cons.2 ⟨T34_z, List.forall_mem_cons.2 ⟨T101_z, List.forall_mem_cons.2 ⟨T88_z, List.forall_mem_cons.2 ⟨T79_z, List.forall_mem_cons.2 ⟨T78_z, List.forall_mem_cons.2 ⟨T77_z, List.forall_mem_cons.2 ⟨T65_z, List.forall_mem_cons.2 ⟨T80_z, List.forall_mem_cons.2 ⟨T76_z, List.forall_mem_cons.2 ⟨T60_z, List.forall_mem_cons.2 ⟨T81_z, List.forall_mem_cons.2 ⟨T66_z, List.forall_mem_cons.2 ⟨T67_z, List.forall_mem_cons.2 ⟨T57_z, List.forall_mem_cons.2 ⟨T85_z, List.forall_mem_cons.2 ⟨T75_z, List.forall_mem_cons.2 ⟨T58_z, List.forall_mem_cons.2 ⟨T59_z, List.forall_mem_cons.2 ⟨T32_z, List.forall_mem_cons.2 ⟨T45_z, List.forall_mem_cons.2 ⟨T63_z, List.forall_mem_cons.2 ⟨T39_z, List.forall_mem_cons.2 ⟨T83_z, List.forall_mem_cons.2 ⟨T22_z, List.forall_mem_cons.2 ⟨T68_z, List.forall_mem_cons.2 ⟨T20_z, List.forall_mem_cons.2 ⟨T35_z, List.forall_mem_cons.2 ⟨T62_z, List.forall_mem_cons.2 ⟨T61_z, List.forall_mem_cons.2 ⟨T36_z, List.forall_mem_cons.2 ⟨T17_z, List.forall_mem_cons.2 ⟨T37_z, List.forall_mem_cons.2 ⟨T38_z, List.forall_mem_cons.2 ⟨T18_z, List.forall_mem_cons.2 ⟨T64_z, List.forall_mem_cons.2 ⟨T40_z, List.forall_mem_cons.2 ⟨T19_z, List.forall_mem_cons.2 ⟨T6_z, List.forall_mem_cons.2 ⟨T44_z, List.forall_mem_cons.2 ⟨T28_z, List.forall_mem_cons.2 ⟨T56_z, List.forall_mem_cons.2 ⟨T54_z, List.forall_mem_cons.2 ⟨T55_z, List.forall_mem_cons.2 ⟨T33_z, List.forall_mem_cons.2 ⟨T16_z, List.forall_mem_cons.2 ⟨T21y7_z, List.forall_mem_cons.2 ⟨T53y3_z, List.forall_mem_cons.2 ⟨T74_z, List.forall_mem_cons.2 ⟨T53_z, List.forall_mem_cons.2 ⟨T21_z, List.forall_mem_cons.2 ⟨T9_z, List.forall_mem_cons.2 ⟨T10_z, List.forall_mem_cons.2 ⟨T7_z, (fun _ h => nomatch h)⟩⟩⟩⟩⟩⟩⟩⟩⟩⟩⟩⟩⟩⟩⟩⟩⟩⟩⟩⟩⟩⟩⟩⟩⟩⟩⟩⟩⟩⟩⟩⟩⟩⟩⟩⟩⟩⟩⟩⟩⟩⟩⟩⟩⟩⟩⟩⟩⟩⟩⟩⟩⟩⟩⟩⟩⟩)
    (List.forall_mem_cons.2 ⟨D79_2_z, List.forall_mem_cons.2 ⟨D65_4_z, List.forall_mem_cons.2 ⟨D66_5_z, List.forall_mem_cons.2 ⟨D66_11_z, List.forall_mem_cons.2 ⟨D67_3_z, List.forall_mem_cons.2 ⟨D67_8_z, List.forall_mem_cons.2 ⟨D67_9_z, List.forall_mem_cons.2 ⟨D42_9_z, List.forall_mem_cons.2 ⟨D75_2_z, List.forall_mem_cons.2 ⟨D75_11_z, List.forall_mem_cons.2 ⟨D75_14_z, List.forall_mem_cons.2 ⟨D75_23_z, List.forall_mem_cons.2 ⟨D58_3_z, List.forall_mem_cons.2 ⟨D59_9_z, List.forall_mem_cons.2 ⟨D59_15_z, List.forall_mem_cons.2 ⟨D32_4_z, List.forall_mem_cons.2 ⟨D45_4_z, List.forall_mem_cons.2 ⟨D20_2_z, List.forall_mem_cons.2 ⟨D20_3_z, List.forall_mem_cons.2 ⟨D20_4_z, List.forall_mem_cons.2 ⟨D20_5_z, List.forall_mem_cons.2 ⟨D20_6_z, List.forall_mem_cons.2 ⟨D61_2_z, List.forall_mem_cons.2 ⟨D36_11_z, List.forall_mem_cons.2 ⟨D36_16_z, List.forall_mem_cons.2 ⟨D17_6_z, List.forall_mem_cons.2 ⟨D17_10_z, List.forall_mem_cons.2 ⟨D17_15_z, List.forall_mem_cons.2 ⟨D17_22_z, List.forall_mem_cons.2 ⟨D19_2_z, List.forall_mem_cons.2 ⟨D6_9_z, List.forall_mem_cons.2 ⟨D44_4_z, List.forall_mem_cons.2 ⟨D56_3_z, List.forall_mem_cons.2 ⟨D74_1_z, List.forall_mem_cons.2 ⟨D74_3_z, List.forall_mem_cons.2 ⟨D7_9_z, List.forall_mem_cons.2 ⟨D7_10_z, (fun _ h => nomatch h)⟩⟩⟩⟩⟩⟩⟩⟩⟩⟩⟩⟩⟩⟩⟩⟩⟩⟩⟩⟩⟩⟩⟩⟩⟩⟩⟩⟩⟩⟩⟩⟩⟩⟩⟩⟩⟩)
    (fun k => List.forall_mem_cons.2 ⟨T31_ok k, List.forall_mem_cons.2 ⟨T41_ok k, List.forall_mem_cons.2 ⟨T42_ok k, List.forall_mem_cons.2 ⟨T43_ok k, List.forall_mem_cons.2 ⟨T34_ok k, List.forall_mem_cons.2 ⟨T101_ok k, List.forall_mem_cons.2 ⟨T88_ok k, List.forall_mem_cons.2 ⟨T79_ok k, List.forall_mem_cons.2 ⟨T78_ok k, List.forall_mem_cons.2 ⟨T77_ok k, List.forall_mem_cons.2 ⟨T65_ok k, List.forall_mem_cons.2 ⟨T80_ok k, List.forall_mem_cons.2 ⟨T76_ok k, List.forall_mem_cons.2 ⟨T60_ok k, List.forall_mem_cons.2 ⟨T81_ok k, List.forall_mem_cons.2 ⟨T66_ok k, List.forall_mem_cons.2 ⟨T67_ok k, List.forall_mem_cons.2 ⟨T57_ok k, List.forall_mem_cons.2 ⟨T85_ok k, List.forall_mem_cons.2 ⟨T75_ok k, List.forall_mem_cons.2 ⟨T58_ok k, List.forall_mem_cons.2 ⟨T59_ok k, List.forall_mem_cons.2 ⟨T32_ok k, List.forall_mem_cons.2 ⟨T45_ok k, List.forall_mem_cons.2 ⟨T63_ok k, List.forall_mem_cons.2 ⟨T39_ok k, List.forall_mem_cons.2 ⟨T83_ok k, List.forall_mem_cons.2 ⟨T22_ok k, List.forall_mem_cons.2 ⟨T68_ok k, List.forall_mem_cons.2 ⟨T20_ok k, List.forall_mem_cons.2 ⟨T35_ok k, List.forall_mem_cons.2 ⟨T62_ok k, List.forall_mem_cons.2 ⟨T61_ok k, List.forall_mem_cons.2 ⟨T36_ok k, List.forall_mem_cons.2 ⟨T17_ok k, List.forall_mem_cons.2 ⟨T37_ok k, List.forall_mem_cons.2 ⟨T38_ok k, List.forall_mem_cons.2 ⟨T18_ok k, List.forall_mem_cons.2 ⟨T64_ok k, List.forall_mem_cons.2 ⟨T40_ok k, List.forall_mem_cons.2 ⟨T19_ok k, List.forall_mem_cons.2 ⟨T6_ok k, List.forall_mem_cons.2 ⟨T44_ok k, List.forall_mem_cons.2 ⟨T28_ok k, List.forall_mem_cons.2 ⟨T56_ok k, List.forall_mem_cons.2 ⟨T54_ok k, List.forall_mem_cons.2 ⟨T55_ok k, List.forall_mem_cons.2 ⟨T33_ok k, List.forall_mem_cons.2 ⟨T16_ok k, List.forall_mem_cons.2 ⟨T21y7_ok k, List.forall_mem_cons.2 ⟨T53y3_ok k, List.forall_mem_cons.2 ⟨T74_ok k, List.forall_mem_cons.2 ⟨T53_ok k, List.forall_mem_cons.2 ⟨T21_ok k, List.forall_mem_cons.2 ⟨T9_ok k, List.forall_mem_cons.2 ⟨T10_ok k, List.forall_mem_cons.2 ⟨T7_ok k, (fun _ h => nomatch h)⟩⟩⟩⟩⟩⟩⟩⟩⟩⟩⟩⟩⟩⟩⟩⟩⟩⟩⟩⟩⟩⟩⟩⟩⟩⟩⟩⟩⟩⟩⟩⟩⟩⟩⟩⟩⟩⟩⟩⟩⟩⟩⟩⟩⟩⟩⟩⟩⟩⟩⟩⟩⟩⟩⟩⟩⟩)
    (fun k => List.forall_mem_cons.2 ⟨D79_2_ok k, List.forall_mem_cons.2 ⟨D65_4_ok k, List.forall_mem_cons.2 ⟨D66_5_ok k, List.forall_mem_cons.2 ⟨D66_11_ok k, List.forall_mem_cons.2 ⟨D67_3_ok k, List.forall_mem_cons.2 ⟨D67_8_ok k, List.forall_mem_cons.2 ⟨D67_9_ok k, List.forall_mem_cons.2 ⟨D42_9_ok k, List.forall_mem_cons.2 ⟨D75_2_ok k, List.forall_mem_cons.2 ⟨D75_11_ok k, List.forall_mem_cons.2 ⟨D75_14_ok k, List.forall_mem_cons.2 ⟨D75_23_ok k, List.forall_mem_cons.2 ⟨D58_3_ok k, List.forall_mem_cons.2 ⟨D59_9_ok k, List.forall_mem_cons.2 ⟨D59_15_ok k, List.forall_mem_cons.2 ⟨D32_4_ok k, List.forall_mem_cons.2 ⟨D45_4_ok k, List.forall_mem_cons.2 ⟨D20_2_ok k, List.forall_mem_cons.2 ⟨D20_3_ok k, List.forall_mem_cons.2 ⟨D20_4_ok k, List.forall_mem_cons.2 ⟨D20_5_ok k, List.forall_mem_cons.2 ⟨D20_6_ok k, List.forall_mem_cons.2 ⟨D61_2_ok k, List.forall_mem_cons.2 ⟨D36_11_ok k, List.forall_mem_cons.2 ⟨D36_16_ok k, List.forall_mem_cons.2 ⟨D17_6_ok k, List.forall_mem_cons.2 ⟨D17_10_ok k, List.forall_mem_cons.2 ⟨D17_15_ok k, List.forall_mem_cons.2 ⟨D17_22_ok k, List.forall_mem_cons.2 ⟨D19_2_ok k, List.forall_mem_cons.2 ⟨D6_9_ok k, List.forall_mem_cons.2 ⟨D44_4_ok k, List.forall_mem_cons.2 ⟨D56_3_ok k, List.forall_mem_cons.2 ⟨D74_1_ok k, List.forall_mem_cons.2 ⟨D74_3_ok k, List.forall_mem_cons.2 ⟨D7_9_ok k, List.forall_mem_cons.2 ⟨D7_10_ok k, (fun _ h => nomatch h)⟩⟩⟩⟩⟩⟩⟩⟩⟩⟩⟩⟩⟩⟩⟩⟩⟩⟩⟩⟩⟩⟩⟩⟩⟩⟩⟩⟩⟩⟩⟩⟩⟩⟩⟩⟩⟩) k
end Go.V
