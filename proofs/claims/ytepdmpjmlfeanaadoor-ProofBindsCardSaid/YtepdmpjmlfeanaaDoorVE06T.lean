import Derived.Test.YtepdmpjmlfeanaaDoorVE06E
set_option maxHeartbeats 4000000
set_option linter.unusedVariables false
namespace Go.V
open Go
def T64 (k : Nat) : Fn PU := fun args boxes K => match args, boxes with
  | [.int .u8 r1], [] => Hold (F_math_bits_Len8 k r1 (fun z0 => K (.int .i64 z0) []))
  | _, _ => False
def T40 (k : Nat) : Fn PU := fun args boxes K => match args, boxes with
  | [.int .u8 r1], [] => Hold (F_math_bits_LeadingZeros8 k r1 (fun z0 => K (.int .i64 z0) []))
  | _, _ => False
def T19 (k : Nat) : Fn PU := fun args boxes K => match args, boxes with
  | [.arr 5 32 r1, .arr 5 32 r2], [] => Hold (F_path_Common k r1 r2 (fun z0 => K (.int .i64 z0) []))
  | _, _ => False
def T44 (k : Nat) : Fn PU := fun args boxes K => match args, boxes with
  | [.agg [.int .i64 r1, .arr 5 32 r2, .agg [.bool r3, .arr 5 32 r4], .agg [.ro false 23 r5, .bool r6, .arr 5 32 r7, .arr 5 32 r8]]], [] => Hold (F_proof_said_may k r1 r2 r3 r4 r5 r6 r7 r8 (fun z0 => K (.bool z0) []))
  | _, _ => False
def T28 (k : Nat) : Fn PU := fun args boxes K => match args, boxes with
  | [.agg [.int .i64 r1, .arr 5 32 r2, .agg [.bool r3, .arr 5 32 r4], .agg [.ro false 23 r5, .bool r6, .arr 5 32 r7, .arr 5 32 r8]]], [] => Hold (F_proof_said_rungs k r1 r2 r3 r4 r5 r6 r7 r8 (fun z0 z1 z2 z3 z4 z5 z6 z7 => K (.clo 53 [.ptr 0 []]) [.box (.agg [.int .i64 z0, .arr 5 32 z1, .agg [.bool z2, .arr 5 32 z3], .agg [.ro false 23 z4, .bool z5, .arr 5 32 z6, .arr 5 32 z7]])]))
  | _, _ => False
def T56 (k : Nat) : Fn PU := fun args boxes K => match args, boxes with
  | [.int .u8 r1, .ro true 23 r2], [] => Hold (F_proof_bytes k r1 r2 (fun z0 => K (.usl 5 z0) []))
  | [.int .u8 r1, .ro false 23 r2], [] => Hold (F_proof_bytes k r1 r2 (fun z0 => K (.usl 5 z0) []))
  | _, _ => False
def T54 (k : Nat) : Fn PU := fun args boxes K => match args, boxes with
  | [.agg [.int .i64 r1, .arr 5 32 r2, .agg [.bool r3, .arr 5 32 r4], .agg [.ro false 23 r5, .bool r6, .arr 5 32 r7, .arr 5 32 r8]]], [] => Hold (F_proof_said_start k r1 r2 r3 r4 r5 r6 r7 r8 (fun z0 => K (.usl 5 z0) []))
  | _, _ => False
def T55 (k : Nat) : Fn PU := fun args boxes K => match args, boxes with
  | [.ro false 23 r1], [] => Hold (F_slices_Backward_api_Digest_api_Digest k r1 (fun z0 => K (.clo 74 [.ptr 0 []]) [.box (.ro false 23 z0)]))
  | _, _ => False
def T31 (k : Nat) : Fn PU := fun args boxes K => match args, boxes with
  | [.int .i64 r1], [] => Hold (F_smt_width k r1 (fun z0 => K (.bool z0) []))
  | _, _ => False
def T57 (k : Nat) : Fn PU := fun args boxes K => match args, boxes with
  | [], [] => Hold (F_sha_New k (fun z0 z1 z2 => K (.ptr 0 []) [.box (.agg [.arr 104 8 z0, .arr 5 64 z1, .int .i64 z2])]))
  | _, _ => False
def T85 (k : Nat) : Fn PU := fun args boxes K => match args, boxes with
  | [.int .u32 r1, .int .i64 r2], [] => Hold (F_math_bits_RotateLeft32 k r1 r2 (fun z0 => K (.int .u32 z0) []))
  | _, _ => False
def T75 (k : Nat) : Fn PU := fun args boxes K => match args, boxes with
  | [.ptr 0 []], [.box (.agg [.arr 104 8 r1, .arr 5 64 r2, .int .i64 r3])] => Hold (F_sha_Hash_mix k r1 r2 r3 (fun z0 z1 z2 => K (.tup []) [.box (.agg [.arr 104 8 z0, .arr 5 64 z1, .int .i64 z2])]))
  | _, _ => False
def T58 (k : Nat) : Fn PU := fun args boxes K => match args, boxes with
  | [.ptr 0 [], .ro true 5 r1], [.box (.agg [.arr 104 8 r2, .arr 5 64 r3, .int .i64 r4])] => Hold (F_sha_Hash_Write k r1 r2 r3 r4 (fun z0 z1 z2 z3 => K (.int .i64 z0) [.box (.agg [.arr 104 8 z1, .arr 5 64 z2, .int .i64 z3])]))
  | [.ptr 0 [], .ro false 5 r1], [.box (.agg [.arr 104 8 r2, .arr 5 64 r3, .int .i64 r4])] => Hold (F_sha_Hash_Write k r1 r2 r3 r4 (fun z0 z1 z2 z3 => K (.int .i64 z0) [.box (.agg [.arr 104 8 z1, .arr 5 64 z2, .int .i64 z3])]))
  | _, _ => False
def T59 (k : Nat) : Fn PU := fun args boxes K => match args, boxes with
  | [.ptr 0 []], [.box (.agg [.arr 104 8 r1, .arr 5 64 r2, .int .i64 r3])] => Hold (F_sha_Hash_Sum k r1 r2 r3 (fun z0 z1 z2 z3 => K (.arr 5 32 z0) [.box (.agg [.arr 104 8 z1, .arr 5 64 z2, .int .i64 z3])]))
  | _, _ => False
def T33 (k : Nat) : Fn PU := fun args boxes K => match args, boxes with
  | [.ro true 5 r1], [] => Hold (F_sha_Sum k r1 (fun z0 => K (.arr 5 32 z0) []))
  | [.ro false 5 r1], [] => Hold (F_sha_Sum k r1 (fun z0 => K (.arr 5 32 z0) []))
  | _, _ => False
def T32 (k : Nat) : Fn PU := fun args boxes K => match args, boxes with
  | [.int .i64 r1, .arr 5 32 r2], [] => Hold (F_smt_short k r1 r2 (fun z0 => K (.arr 5 32 z0) []))
  | _, _ => False
def T16 (k : Nat) : Fn PU := fun args boxes K => match args, boxes with
  | [.int .i64 r1, .ro true 5 r2], [] => Hold (F_smt_Short k r1 r2 (fun z0 z1 => K (.tup [.arr 5 32 z0, .int .i64 z1]) []))
  | [.int .i64 r1, .ro false 5 r2], [] => Hold (F_smt_Short k r1 r2 (fun z0 z1 => K (.tup [.arr 5 32 z0, .int .i64 z1]) []))
  | _, _ => False
def T21y7 (k : Nat) : Fn PU := fun args boxes K => match args, boxes with
  | [.own 0, .ptr 1 [], .ptr 2 []], [.lst 5 r1, .box (.agg [.int .i64 r2, .arr 5 32 r3, .agg [.bool r4, .arr 5 32 r5], .agg [.ro false 23 r6, .bool r7, .arr 5 32 r8, .arr 5 32 r9]]), .box (.arr 5 32 r10)] => Hold (F_proof_said_check_y7 k r1 r2 r3 r4 r5 r6 r7 r8 r9 r10 (fun z0 z1 z2 z3 z4 z5 z6 z7 z8 z9 => K (.clo 0 []) [.lst 5 z0, .box (.agg [.int .i64 z1, .arr 5 32 z2, .agg [.bool z3, .arr 5 32 z4], .agg [.ro false 23 z5, .bool z6, .arr 5 32 z7, .arr 5 32 z8]]), .box (.arr 5 32 z9)]))
  | _, _ => False
def T76 (k : Nat) : Fn PU := fun args boxes K => match args, boxes with
  | [.int .i64 r1], [] => Hold (F_path_mask k r1 (fun z0 => K (.int .u8 z0) []))
  | _, _ => False
def T60 (k : Nat) : Fn PU := fun args boxes K => match args, boxes with
  | [.arr 5 32 r1, .int .i64 r2], [] => Hold (F_path_Bit k r1 r2 (fun z0 z1 => K (.tup [.int .i64 z0, .int .i64 z1]) []))
  | _, _ => False
def T35 (k : Nat) : Fn PU := fun args boxes K => match args, boxes with
  | [.arr 5 32 r1, .int .i64 r2], [] => Hold (F_proof_right k r1 r2 (fun z0 => K (.bool z0) []))
  | _, _ => False
def T53y3 (k : Nat) : Fn PU := fun args boxes K => match args, boxes with
  | [.int .i64 r1, .arr 5 32 r2, .ptr 0 [], .ptr 1 [], .ptr 2 []], [.box (.agg [.int .i64 r3, .arr 5 32 r4, .agg [.bool r5, .arr 5 32 r6], .agg [.ro false 23 r7, .bool r8, .arr 5 32 r9, .arr 5 32 r10]]), .box (.yld 3), .box (.own 4), .lp 21 7 [2, 5] [.ptr 5 [], .ptr 6 []] 0, .lst 5 r11, .box (.agg [.int .i64 r12, .arr 5 32 r13, .agg [.bool r14, .arr 5 32 r15], .agg [.ro false 23 r16, .bool r17, .arr 5 32 r18, .arr 5 32 r19]]), .box (.arr 5 32 r20)] => Hold (F_proof_said_rungs_1_y3 k r1 r2 r3 r4 r5 r6 r7 r8 r9 r10 r11 r12 r13 r14 r15 r16 r17 r18 r19 r20 (fun z0 z1 z2 z3 z4 z5 z6 z7 z8 z9 z10 z11 z12 z13 z14 z15 z16 z17 z18 => K (.clo 0 []) [.box (.agg [.int .i64 z0, .arr 5 32 z1, .agg [.bool z2, .arr 5 32 z3], .agg [.ro false 23 z4, .bool z5, .arr 5 32 z6, .arr 5 32 z7]]), .box (.yld 3), .box (.own 7), .lp 21 7 [2, 5] [.ptr 5 [], .ptr 6 []] 0, .lst 5 z8, .box (.agg [.int .i64 z9, .arr 5 32 z10, .agg [.bool z11, .arr 5 32 z12], .agg [.ro false 23 z13, .bool z14, .arr 5 32 z15, .arr 5 32 z16]]), .box (.arr 5 32 z17), .lst 5 z18]))
  | [.int .i64 r1, .arr 5 32 r2, .ptr 0 [], .ptr 1 [], .ptr 2 []], [.box (.agg [.int .i64 r3, .arr 5 32 r4, .agg [.bool r5, .arr 5 32 r6], .agg [.ro false 23 r7, .bool r8, .arr 5 32 r9, .arr 5 32 r10]]), .box (.yld 3), .box (.own 4), .lp 52 2 [2] [.ptr 5 []] 0, .lst 5 r11, .box (.own 6), .lst 35 r12] => Hold (F_proof_said_rungs_1_y3_s1 k r1 r2 r3 r4 r5 r6 r7 r8 r9 r10 r11 r12 (fun z0 z1 z2 z3 z4 z5 z6 z7 z8 z9 z10 => K (.clo 0 []) [.box (.agg [.int .i64 z0, .arr 5 32 z1, .agg [.bool z2, .arr 5 32 z3], .agg [.ro false 23 z4, .bool z5, .arr 5 32 z6, .arr 5 32 z7]]), .box (.yld 3), .box (.own 7), .lp 52 2 [2] [.ptr 5 []] 0, .fz 5 z8, .box (.own 8), .dead, .lst 5 z9, .lst 35 z10]))
  | _, _ => False
def T74 (k : Nat) : Fn PU := fun args boxes K => match args, boxes with
  | [.yld 0, .ptr 1 []], [.lp 53 3 [1, 2, 3] [.ptr 2 [], .ptr 3 [], .ptr 4 []] 0, .box (.ro false 23 r1), .box (.agg [.int .i64 r2, .arr 5 32 r3, .agg [.bool r4, .arr 5 32 r5], .agg [.ro false 23 r6, .bool r7, .arr 5 32 r8, .arr 5 32 r9]]), .box (.yld 5), .box (.own 6), .lp 21 7 [2, 5] [.ptr 7 [], .ptr 8 []] 0, .lst 5 r10, .box (.agg [.int .i64 r11, .arr 5 32 r12, .agg [.bool r13, .arr 5 32 r14], .agg [.ro false 23 r15, .bool r16, .arr 5 32 r17, .arr 5 32 r18]]), .box (.arr 5 32 r19)] => Hold (F_slices_Backward_api_Digest_api_Digest_1 k r1 r2 r3 r4 r5 r6 r7 r8 r9 r10 r11 r12 r13 r14 r15 r16 r17 r18 r19 (fun z0 z1 z2 z3 z4 z5 z6 z7 z8 z9 z10 z11 z12 z13 z14 z15 z16 z17 z18 z19 => K (.tup []) [.lp 53 3 [1, 2, 3] [.ptr 2 [], .ptr 3 [], .ptr 4 []] 0, .box (.ro false 23 z0), .box (.agg [.int .i64 z1, .arr 5 32 z2, .agg [.bool z3, .arr 5 32 z4], .agg [.ro false 23 z5, .bool z6, .arr 5 32 z7, .arr 5 32 z8]]), .box (.yld 5), .box (.own 9), .lp 21 7 [2, 5] [.ptr 7 [], .ptr 8 []] 0, .lst 5 z9, .box (.agg [.int .i64 z10, .arr 5 32 z11, .agg [.bool z12, .arr 5 32 z13], .agg [.ro false 23 z14, .bool z15, .arr 5 32 z16, .arr 5 32 z17]]), .box (.arr 5 32 z18), .lst 5 z19]) (fun z0 z1 z2 z3 z4 z5 z6 z7 z8 z9 z10 z11 z12 z13 z14 z15 z16 z17 z18 => K (.tup []) [.lp 53 3 [1, 2, 3] [.ptr 2 [], .ptr 3 [], .ptr 4 []] 0, .box (.ro false 23 z0), .box (.agg [.int .i64 z1, .arr 5 32 z2, .agg [.bool z3, .arr 5 32 z4], .agg [.ro false 23 z5, .bool z6, .arr 5 32 z7, .arr 5 32 z8]]), .box (.yld 5), .box (.own 6), .lp 21 7 [2, 5] [.ptr 7 [], .ptr 8 []] 0, .lst 5 z9, .box (.agg [.int .i64 z10, .arr 5 32 z11, .agg [.bool z12, .arr 5 32 z13], .agg [.ro false 23 z14, .bool z15, .arr 5 32 z16, .arr 5 32 z17]]), .box (.arr 5 32 z18)]))
  | [.yld 0, .ptr 1 []], [.lp 53 3 [1, 2, 3] [.ptr 2 [], .ptr 3 [], .ptr 4 []] 0, .box (.ro false 23 r1), .box (.agg [.int .i64 r2, .arr 5 32 r3, .agg [.bool r4, .arr 5 32 r5], .agg [.ro false 23 r6, .bool r7, .arr 5 32 r8, .arr 5 32 r9]]), .box (.yld 5), .box (.own 6), .lp 52 2 [2] [.ptr 7 []] 0, .lst 5 r10, .box (.own 8), .lst 35 r11] => Hold (F_slices_Backward_api_Digest_api_Digest_1_s1 k r1 r2 r3 r4 r5 r6 r7 r8 r9 r10 r11 (fun z0 z1 z2 z3 z4 z5 z6 z7 z8 z9 z10 z11 => K (.tup []) [.lp 53 3 [1, 2, 3] [.ptr 2 [], .ptr 3 [], .ptr 4 []] 0, .box (.ro false 23 z0), .box (.agg [.int .i64 z1, .arr 5 32 z2, .agg [.bool z3, .arr 5 32 z4], .agg [.ro false 23 z5, .bool z6, .arr 5 32 z7, .arr 5 32 z8]]), .box (.yld 5), .box (.own 9), .lp 52 2 [2] [.ptr 7 []] 0, .fz 5 z9, .box (.own 10), .dead, .lst 5 z10, .lst 35 z11]) (fun z0 z1 z2 z3 z4 z5 z6 z7 z8 z9 z10 => K (.tup []) [.lp 53 3 [1, 2, 3] [.ptr 2 [], .ptr 3 [], .ptr 4 []] 0, .box (.ro false 23 z0), .box (.agg [.int .i64 z1, .arr 5 32 z2, .agg [.bool z3, .arr 5 32 z4], .agg [.ro false 23 z5, .bool z6, .arr 5 32 z7, .arr 5 32 z8]]), .box (.yld 5), .box (.own 6), .lp 52 2 [2] [.ptr 7 []] 0, .lst 5 z9, .box (.own 8), .lst 35 z10]))
  | _, _ => False
def T53 (k : Nat) : Fn PU := fun args boxes K => match args, boxes with
  | [.yld 0, .ptr 1 []], [.lp 21 7 [2, 5] [.ptr 2 [], .ptr 3 []] 0, .box (.agg [.int .i64 r1, .arr 5 32 r2, .agg [.bool r3, .arr 5 32 r4], .agg [.ro false 23 r5, .bool r6, .arr 5 32 r7, .arr 5 32 r8]]), .box (.agg [.int .i64 r9, .arr 5 32 r10, .agg [.bool r11, .arr 5 32 r12], .agg [.ro false 23 r13, .bool r14, .arr 5 32 r15, .arr 5 32 r16]]), .box (.arr 5 32 r17)] => Hold (F_proof_said_rungs_1 k r1 r2 r3 r4 r5 r6 r7 r8 r9 r10 r11 r12 r13 r14 r15 r16 r17 (fun z0 z1 z2 z3 z4 z5 z6 z7 z8 z9 z10 z11 z12 z13 z14 z15 z16 => K (.tup []) [.lp 21 7 [2, 5] [.ptr 2 [], .ptr 3 []] 0, .box (.agg [.int .i64 z0, .arr 5 32 z1, .agg [.bool z2, .arr 5 32 z3], .agg [.ro false 23 z4, .bool z5, .arr 5 32 z6, .arr 5 32 z7]]), .box (.agg [.int .i64 z8, .arr 5 32 z9, .agg [.bool z10, .arr 5 32 z11], .agg [.ro false 23 z12, .bool z13, .arr 5 32 z14, .arr 5 32 z15]]), .box (.arr 5 32 z16)]))
  | [.yld 0, .ptr 1 []], [.lp 52 2 [2] [.ptr 2 []] 0, .box (.agg [.int .i64 r1, .arr 5 32 r2, .agg [.bool r3, .arr 5 32 r4], .agg [.ro false 23 r5, .bool r6, .arr 5 32 r7, .arr 5 32 r8]]), .box (.own 3), .lst 35 r9] => Hold (F_proof_said_rungs_1_s1 k r1 r2 r3 r4 r5 r6 r7 r8 r9 (fun z0 z1 z2 z3 z4 z5 z6 z7 z8 => K (.tup []) [.lp 52 2 [2] [.ptr 2 []] 0, .box (.agg [.int .i64 z0, .arr 5 32 z1, .agg [.bool z2, .arr 5 32 z3], .agg [.ro false 23 z4, .bool z5, .arr 5 32 z6, .arr 5 32 z7]]), .box (.own 4), .dead, .lst 35 z8]))
  | _, _ => False
def T21 (k : Nat) : Fn PU := fun args boxes K => match args, boxes with
  | [.agg [.int .i64 r1, .arr 5 32 r2, .agg [.bool r3, .arr 5 32 r4], .agg [.ro false 23 r5, .bool r6, .arr 5 32 r7, .arr 5 32 r8]], .arr 5 32 r9], [] => Hold (F_proof_said_check k r1 r2 r3 r4 r5 r6 r7 r8 r9 (fun z0 => K (.int .i64 z0) []))
  | _, _ => False
def T52y2 (k : Nat) : Fn PU := fun args boxes K => match args, boxes with
  | [.own 0, .ptr 1 []], [.lst 5 r1, .box (.own 2), .lst 35 r2] => Hold (F_slices_AppendSeq_byte_byte_y2 k r1 r2 (fun z0 z1 => K (.clo 0 []) [.fz 5 z0, .box (.own 3), .dead, .lst 35 z1]))
  | _, _ => False
def T52 (k : Nat) : Fn PU := fun args boxes K => match args, boxes with
  | [.own 0, .clo 53 [.ptr 1 []]], [.lst 35 r1, .box (.agg [.int .i64 r2, .arr 5 32 r3, .agg [.bool r4, .arr 5 32 r5], .agg [.ro false 23 r6, .bool r7, .arr 5 32 r8, .arr 5 32 r9]])] => Hold (F_slices_AppendSeq_byte_byte k r1 r2 r3 r4 r5 r6 r7 r8 r9 (fun z0 z1 z2 z3 z4 z5 z6 z7 z8 => K (.own 2) [.dead, .box (.agg [.int .i64 z0, .arr 5 32 z1, .agg [.bool z2, .arr 5 32 z3], .agg [.ro false 23 z4, .bool z5, .arr 5 32 z6, .arr 5 32 z7]]), .lst 35 z8]))
  | _, _ => False
def T27 (k : Nat) : Fn PU := fun args boxes K => match args, boxes with
  | [.clo 53 [.ptr 0 []]], [.box (.agg [.int .i64 r1, .arr 5 32 r2, .agg [.bool r3, .arr 5 32 r4], .agg [.ro false 23 r5, .bool r6, .arr 5 32 r7, .arr 5 32 r8]])] => Hold (F_slices_Collect_byte k r1 r2 r3 r4 r5 r6 r7 r8 (fun z0 z1 z2 z3 z4 z5 z6 z7 z8 => K (.own 1) [.box (.agg [.int .i64 z0, .arr 5 32 z1, .agg [.bool z2, .arr 5 32 z3], .agg [.ro false 23 z4, .bool z5, .arr 5 32 z6, .arr 5 32 z7]]), .lst 35 z8]))
  | _, _ => False
def T29 (k : Nat) : Fn PU := fun args boxes K => match args, boxes with
  | [.own 0], [.lst 35 r1] => Hold (F_slices_Reverse_byte_byte k r1 (fun z0 => K (.tup []) [.lst 35 z0]))
  | _, _ => False
def T30 (k : Nat) : Fn PU := fun args boxes K => match args, boxes with
  | [.ro false 5 r1, .ro false 5 r2], [] => Hold (F_slices_Equal_byte_byte k r1 r2 (fun z0 => K (.bool z0) []))
  | _, _ => False
def T13 (k : Nat) : Fn PU := fun args boxes K => match args, boxes with
  | [.int .i64 r1, .arr 5 32 r2, .arr 5 32 r3, .agg [.bool r4, .arr 5 32 r5], .agg [.ro false 23 r6, .bool r7, .arr 5 32 r8, .arr 5 32 r9], .agg [.bool r10, .arr 5 32 r11], .agg [.ro false 23 r12, .bool r13, .arr 5 32 r14, .arr 5 32 r15]], [] => Hold (F_proof_Clash k r1 r2 r3 r4 r5 r6 r7 r8 r9 r10 r11 r12 r13 r14 r15 (fun z0 z1 z2 => K (.tup [.usl 5 z0, .usl 5 z1, .int .i64 z2]) []) (fun z0 z1 z2 => K (.tup [.ro false 5 z0, .ro false 5 z1, .int .i64 z2]) []))
  | _, _ => False
def T9 (k : Nat) : Fn PU := fun args boxes K => match args, boxes with
  | [.int .i64 r1, .arr 5 32 r2, .arr 5 32 r3, .agg [.bool r4, .arr 5 32 r5], .agg [.ro false 23 r6, .bool r7, .arr 5 32 r8, .arr 5 32 r9]], [] => Hold (F_proof_Check k r1 r2 r3 r4 r5 r6 r7 r8 r9 (fun z0 => K (.int .i64 z0) []))
  | _, _ => False
def T45 (k : Nat) : Fn PU := fun args boxes K => match args, boxes with
  | [.int .i64 r1, .int .u8 r2, .ro false 23 r3], [] => Hold (F_smt_summed k r1 r2 r3 (fun z0 => K (.arr 5 32 z0) []))
  | _, _ => False
def T22 (k : Nat) : Fn PU := fun args boxes K => match args, boxes with
  | [.int .i64 r1], [] => Hold (F_smt_Empty k r1 (fun z0 => K (.arr 5 32 z0) []))
  | _, _ => False
def T10 (k : Nat) : Fn PU := fun args boxes K => match args, boxes with
  | [], [] => Hold (F_l06_checks k (fun z0 => K (.bool z0) []))
  | _, _ => False
def T15 (k : Nat) : Fn PU := fun args boxes K => match args, boxes with
  | [], [] => Hold (F_l06_clashes k (fun z0 => K (.bool z0) []))
  | _, _ => False
def T5 (k : Nat) : Fn PU := fun args boxes K => match args, boxes with
  | [.int .i64 r1, .arr 5 32 r2, .arr 5 32 r3, .agg [.bool r4, .arr 5 32 r5], .agg [.ro false 23 r6, .bool r7, .arr 5 32 r8, .arr 5 32 r9], .agg [.bool r10, .arr 5 32 r11], .agg [.ro false 23 r12, .bool r13, .arr 5 32 r14, .arr 5 32 r15]], [] => Hold (F_l06_ProofBinds k r1 r2 r3 r4 r5 r6 r7 r8 r9 r10 r11 r12 r13 r14 r15 (fun z0 => K (.bool z0) []))
  | _, _ => False
def D19_2 (k : Nat) : Nat → List (A PU) → List (AObj PU) → (A PU → List (AObj PU) → Prop) → Prop := fun nb vals objs K => match nb, vals, objs with
  | 0, [.ptr 0 [], .ptr 1 [], .int .i64 r3], [.box (.arr 5 32 r4), .box (.arr 5 32 r5)] => Hold (C_path_Common_2 k r3 r4 r5 (fun z0 => K (.int .i64 z0) []))
  | _, _, _ => False
def D44_4 (k : Nat) : Nat → List (A PU) → List (AObj PU) → (A PU → List (AObj PU) → Prop) → Prop := fun nb vals objs K => match nb, vals, objs with
  | 0, [.ptr 0 [], .ptr 1 []], [.box (.agg [.int .i64 r9, .arr 5 32 r10, .agg [.bool r11, .arr 5 32 r12], .agg [.ro false 23 r13, .bool r14, .arr 5 32 r15, .arr 5 32 r16]]), .box (.agg [.ro false 23 r17, .bool r18, .arr 5 32 r19, .arr 5 32 r20])] => Hold (C_proof_said_may_4 k r9 r10 r11 r12 r13 r14 r15 r16 r17 r18 r19 r20 (fun z0 => K (.bool z0) []))
  | _, _, _ => False
def D56_3 (k : Nat) : Nat → List (A PU) → List (AObj PU) → (A PU → List (AObj PU) → Prop) → Prop := fun nb vals objs K => match nb, vals, objs with
  | 0, [.own 0, .ro true 23 r3, .int .i64 r4, .int .i64 r5], [.lst 5 r6] => Hold (C_proof_bytes_3 k r3 r4 r5 r6 (fun z0 => K (.usl 5 z0) []))
  | 0, [.own 0, .ro false 23 r3, .int .i64 r4, .int .i64 r5], [.lst 5 r6] => Hold (C_proof_bytes_3 k r3 r4 r5 r6 (fun z0 => K (.usl 5 z0) []))
  | _, _, _ => False
def D75_2 (k : Nat) : Nat → List (A PU) → List (AObj PU) → (A PU → List (AObj PU) → Prop) → Prop := fun nb vals objs K => match nb, vals, objs with
  | 1, [.ptr 0 [], .ptr 1 [], .int .i64 r4], [.box (.agg [.arr 104 8 r5, .arr 5 64 r6, .int .i64 r7]), .box (.arr 104 64 r8)] => Hold (C_sha_Hash_mix_2 k r4 r5 r6 r7 r8 (fun z0 z1 z2 => K (.tup []) [.box (.agg [.arr 104 8 z0, .arr 5 64 z1, .int .i64 z2])]))
  | _, _, _ => False
def D75_11 (k : Nat) : Nat → List (A PU) → List (AObj PU) → (A PU → List (AObj PU) → Prop) → Prop := fun nb vals objs K => match nb, vals, objs with
  | 1, [.ptr 0 [], .ptr 1 [], .int .i64 r9], [.box (.agg [.arr 104 8 r10, .arr 5 64 r11, .int .i64 r12]), .box (.arr 104 64 r13)] => Hold (C_sha_Hash_mix_11 k r9 r10 r11 r12 r13 (fun z0 z1 z2 => K (.tup []) [.box (.agg [.arr 104 8 z0, .arr 5 64 z1, .int .i64 z2])]))
  | _, _, _ => False
def D75_14 (k : Nat) : Nat → List (A PU) → List (AObj PU) → (A PU → List (AObj PU) → Prop) → Prop := fun nb vals objs K => match nb, vals, objs with
  | 1, [.ptr 0 [], .int .u32 r18, .int .u32 r19, .int .u32 r20, .int .u32 r21, .int .u32 r22, .int .u32 r23, .int .u32 r24, .int .u32 r25, .arr 104 64 r26, .int .i64 r27], [.box (.agg [.arr 104 8 r28, .arr 5 64 r29, .int .i64 r30])] => Hold (C_sha_Hash_mix_14 k r18 r19 r20 r21 r22 r23 r24 r25 r26 r27 r28 r29 r30 (fun z0 z1 z2 => K (.tup []) [.box (.agg [.arr 104 8 z0, .arr 5 64 z1, .int .i64 z2])]))
  | _, _, _ => False
def D75_23 (k : Nat) : Nat → List (A PU) → List (AObj PU) → (A PU → List (AObj PU) → Prop) → Prop := fun nb vals objs K => match nb, vals, objs with
  | 1, [.ptr 0 [], .arr 104 8 r37, .int .i64 r38], [.box (.agg [.arr 104 8 r39, .arr 5 64 r40, .int .i64 r41])] => Hold (C_sha_Hash_mix_23 k r37 r38 r39 r40 r41 (fun z0 z1 z2 => K (.tup []) [.box (.agg [.arr 104 8 z0, .arr 5 64 z1, .int .i64 z2])]))
  | _, _, _ => False
def D58_3 (k : Nat) : Nat → List (A PU) → List (AObj PU) → (A PU → List (AObj PU) → Prop) → Prop := fun nb vals objs K => match nb, vals, objs with
  | 1, [.ptr 0 [], .ro true 5 r5], [.box (.agg [.arr 104 8 r6, .arr 5 64 r7, .int .i64 r8])] => Hold (C_sha_Hash_Write_3 k r5 r6 r7 r8 (fun z0 z1 z2 z3 => K (.int .i64 z0) [.box (.agg [.arr 104 8 z1, .arr 5 64 z2, .int .i64 z3])]))
  | 1, [.ptr 0 [], .ro false 5 r5], [.box (.agg [.arr 104 8 r6, .arr 5 64 r7, .int .i64 r8])] => Hold (C_sha_Hash_Write_3 k r5 r6 r7 r8 (fun z0 z1 z2 z3 => K (.int .i64 z0) [.box (.agg [.arr 104 8 z1, .arr 5 64 z2, .int .i64 z3])]))
  | _, _, _ => False
def D59_9 (k : Nat) : Nat → List (A PU) → List (AObj PU) → (A PU → List (AObj PU) → Prop) → Prop := fun nb vals objs K => match nb, vals, objs with
  | 1, [.ptr 0 [], .ptr 1 [], .ptr 2 [], .ptr 3 [], .ptr 4 [], .int .i64 r8, .int .i64 r9], [.box (.agg [.arr 104 8 r10, .arr 5 64 r11, .int .i64 r12]), .box (.arr 5 32 r13), .box (.arr 5 32 r14), .box (.agg [.arr 104 8 r15, .arr 5 64 r16, .int .i64 r17]), .box (.arr 5 72 r18)] => Hold (C_sha_Hash_Sum_9 k r8 r9 r10 r11 r12 r13 r14 r15 r16 r17 r18 (fun z0 z1 z2 z3 => K (.arr 5 32 z0) [.box (.agg [.arr 104 8 z1, .arr 5 64 z2, .int .i64 z3])]))
  | _, _, _ => False
def D59_15 (k : Nat) : Nat → List (A PU) → List (AObj PU) → (A PU → List (AObj PU) → Prop) → Prop := fun nb vals objs K => match nb, vals, objs with
  | 1, [.ptr 1 [], .ptr 2 [], .ptr 3 [], .int .i64 r23], [.box (.agg [.arr 104 8 r24, .arr 5 64 r25, .int .i64 r26]), .box (.arr 5 32 r27), .box (.arr 5 32 r28), .box (.agg [.arr 104 8 r29, .arr 5 64 r30, .int .i64 r31])] => Hold (C_sha_Hash_Sum_15 k r23 r24 r25 r26 r27 r28 r29 r30 r31 (fun z0 z1 z2 z3 => K (.arr 5 32 z0) [.box (.agg [.arr 104 8 z1, .arr 5 64 z2, .int .i64 z3])]))
  | _, _, _ => False
def D32_4 (k : Nat) : Nat → List (A PU) → List (AObj PU) → (A PU → List (AObj PU) → Prop) → Prop := fun nb vals objs K => match nb, vals, objs with
  | 0, [.ptr 0 [], .ptr 1 []], [.box (.arr 5 32 r4), .box (.arr 5 32 r5)] => Hold (C_smt_short_4 k r4 r5 (fun z0 => K (.arr 5 32 z0) []))
  | _, _, _ => False
def D74_1 (k : Nat) : Nat → List (A PU) → List (AObj PU) → (A PU → List (AObj PU) → Prop) → Prop := fun nb vals objs K => match nb, vals, objs with
  | 9, [.yld 0, .ptr 1 [], .int .i64 r20], [.lp 53 3 [1, 2, 3] [.ptr 2 [], .ptr 3 [], .ptr 4 []] 0, .box (.ro false 23 r21), .box (.agg [.int .i64 r22, .arr 5 32 r23, .agg [.bool r24, .arr 5 32 r25], .agg [.ro false 23 r26, .bool r27, .arr 5 32 r28, .arr 5 32 r29]]), .box (.yld 5), .box (.own 6), .lp 21 7 [2, 5] [.ptr 7 [], .ptr 8 []] 0, .lst 5 r30, .box (.agg [.int .i64 r31, .arr 5 32 r32, .agg [.bool r33, .arr 5 32 r34], .agg [.ro false 23 r35, .bool r36, .arr 5 32 r37, .arr 5 32 r38]]), .box (.arr 5 32 r39)] => Hold (C_slices_Backward_api_Digest_api_Digest_1_1 k r20 r21 r22 r23 r24 r25 r26 r27 r28 r29 r30 r31 r32 r33 r34 r35 r36 r37 r38 r39 (fun z0 z1 z2 z3 z4 z5 z6 z7 z8 z9 z10 z11 z12 z13 z14 z15 z16 z17 z18 z19 => K (.tup []) [.lp 53 3 [1, 2, 3] [.ptr 2 [], .ptr 3 [], .ptr 4 []] 0, .box (.ro false 23 z0), .box (.agg [.int .i64 z1, .arr 5 32 z2, .agg [.bool z3, .arr 5 32 z4], .agg [.ro false 23 z5, .bool z6, .arr 5 32 z7, .arr 5 32 z8]]), .box (.yld 5), .box (.own 9), .lp 21 7 [2, 5] [.ptr 7 [], .ptr 8 []] 0, .lst 5 z9, .box (.agg [.int .i64 z10, .arr 5 32 z11, .agg [.bool z12, .arr 5 32 z13], .agg [.ro false 23 z14, .bool z15, .arr 5 32 z16, .arr 5 32 z17]]), .box (.arr 5 32 z18), .lst 5 z19]) (fun z0 z1 z2 z3 z4 z5 z6 z7 z8 z9 z10 z11 z12 z13 z14 z15 z16 z17 z18 => K (.tup []) [.lp 53 3 [1, 2, 3] [.ptr 2 [], .ptr 3 [], .ptr 4 []] 0, .box (.ro false 23 z0), .box (.agg [.int .i64 z1, .arr 5 32 z2, .agg [.bool z3, .arr 5 32 z4], .agg [.ro false 23 z5, .bool z6, .arr 5 32 z7, .arr 5 32 z8]]), .box (.yld 5), .box (.own 6), .lp 21 7 [2, 5] [.ptr 7 [], .ptr 8 []] 0, .lst 5 z9, .box (.agg [.int .i64 z10, .arr 5 32 z11, .agg [.bool z12, .arr 5 32 z13], .agg [.ro false 23 z14, .bool z15, .arr 5 32 z16, .arr 5 32 z17]]), .box (.arr 5 32 z18)]))
  | 9, [.yld 0, .ptr 1 [], .int .i64 r79], [.lp 53 3 [1, 2, 3] [.ptr 2 [], .ptr 3 [], .ptr 4 []] 0, .box (.ro false 23 r80), .box (.agg [.int .i64 r81, .arr 5 32 r82, .agg [.bool r83, .arr 5 32 r84], .agg [.ro false 23 r85, .bool r86, .arr 5 32 r87, .arr 5 32 r88]]), .box (.yld 5), .box (.own 9), .lp 21 7 [2, 5] [.ptr 7 [], .ptr 8 []] 0, .lst 5 r89, .box (.agg [.int .i64 r90, .arr 5 32 r91, .agg [.bool r92, .arr 5 32 r93], .agg [.ro false 23 r94, .bool r95, .arr 5 32 r96, .arr 5 32 r97]]), .box (.arr 5 32 r98), .lst 5 r99] => Hold (C_slices_Backward_api_Digest_api_Digest_1_1_1 k r79 r80 r81 r82 r83 r84 r85 r86 r87 r88 r89 r90 r91 r92 r93 r94 r95 r96 r97 r98 r99 (fun z0 z1 z2 z3 z4 z5 z6 z7 z8 z9 z10 z11 z12 z13 z14 z15 z16 z17 z18 z19 => K (.tup []) [.lp 53 3 [1, 2, 3] [.ptr 2 [], .ptr 3 [], .ptr 4 []] 0, .box (.ro false 23 z0), .box (.agg [.int .i64 z1, .arr 5 32 z2, .agg [.bool z3, .arr 5 32 z4], .agg [.ro false 23 z5, .bool z6, .arr 5 32 z7, .arr 5 32 z8]]), .box (.yld 5), .box (.own 9), .lp 21 7 [2, 5] [.ptr 7 [], .ptr 8 []] 0, .lst 5 z9, .box (.agg [.int .i64 z10, .arr 5 32 z11, .agg [.bool z12, .arr 5 32 z13], .agg [.ro false 23 z14, .bool z15, .arr 5 32 z16, .arr 5 32 z17]]), .box (.arr 5 32 z18), .lst 5 z19]))
  | 9, [.yld 0, .ptr 1 [], .int .i64 r12], [.lp 53 3 [1, 2, 3] [.ptr 2 [], .ptr 3 [], .ptr 4 []] 0, .box (.ro false 23 r13), .box (.agg [.int .i64 r14, .arr 5 32 r15, .agg [.bool r16, .arr 5 32 r17], .agg [.ro false 23 r18, .bool r19, .arr 5 32 r20, .arr 5 32 r21]]), .box (.yld 5), .box (.own 6), .lp 52 2 [2] [.ptr 7 []] 0, .lst 5 r22, .box (.own 8), .lst 35 r23] => Hold (C_slices_Backward_api_Digest_api_Digest_1_1_2 k r12 r13 r14 r15 r16 r17 r18 r19 r20 r21 r22 r23 (fun z0 z1 z2 z3 z4 z5 z6 z7 z8 z9 z10 z11 => K (.tup []) [.lp 53 3 [1, 2, 3] [.ptr 2 [], .ptr 3 [], .ptr 4 []] 0, .box (.ro false 23 z0), .box (.agg [.int .i64 z1, .arr 5 32 z2, .agg [.bool z3, .arr 5 32 z4], .agg [.ro false 23 z5, .bool z6, .arr 5 32 z7, .arr 5 32 z8]]), .box (.yld 5), .box (.own 9), .lp 52 2 [2] [.ptr 7 []] 0, .fz 5 z9, .box (.own 10), .dead, .lst 5 z10, .lst 35 z11]) (fun z0 z1 z2 z3 z4 z5 z6 z7 z8 z9 z10 => K (.tup []) [.lp 53 3 [1, 2, 3] [.ptr 2 [], .ptr 3 [], .ptr 4 []] 0, .box (.ro false 23 z0), .box (.agg [.int .i64 z1, .arr 5 32 z2, .agg [.bool z3, .arr 5 32 z4], .agg [.ro false 23 z5, .bool z6, .arr 5 32 z7, .arr 5 32 z8]]), .box (.yld 5), .box (.own 6), .lp 52 2 [2] [.ptr 7 []] 0, .lst 5 z9, .box (.own 8), .lst 35 z10]))
  | 9, [.yld 0, .ptr 1 [], .int .i64 r47], [.lp 53 3 [1, 2, 3] [.ptr 2 [], .ptr 3 [], .ptr 4 []] 0, .box (.ro false 23 r48), .box (.agg [.int .i64 r49, .arr 5 32 r50, .agg [.bool r51, .arr 5 32 r52], .agg [.ro false 23 r53, .bool r54, .arr 5 32 r55, .arr 5 32 r56]]), .box (.yld 5), .box (.own 9), .lp 52 2 [2] [.ptr 7 []] 0, .fz 5 r57, .box (.own 10), .dead, .lst 5 r58, .lst 35 r59] => Hold (C_slices_Backward_api_Digest_api_Digest_1_1_3 k r47 r48 r49 r50 r51 r52 r53 r54 r55 r56 r57 r58 r59 (fun z0 z1 z2 z3 z4 z5 z6 z7 z8 z9 z10 z11 => K (.tup []) [.lp 53 3 [1, 2, 3] [.ptr 2 [], .ptr 3 [], .ptr 4 []] 0, .box (.ro false 23 z0), .box (.agg [.int .i64 z1, .arr 5 32 z2, .agg [.bool z3, .arr 5 32 z4], .agg [.ro false 23 z5, .bool z6, .arr 5 32 z7, .arr 5 32 z8]]), .box (.yld 5), .box (.own 9), .lp 52 2 [2] [.ptr 7 []] 0, .fz 5 z9, .box (.own 10), .dead, .lst 5 z10, .lst 35 z11]))
  | _, _, _ => False
def D74_3 (k : Nat) : Nat → List (A PU) → List (AObj PU) → (A PU → List (AObj PU) → Prop) → Prop := fun nb vals objs K => match nb, vals, objs with
  | 9, [.yld 0, .ptr 1 [], .int .i64 r40], [.lp 53 3 [1, 2, 3] [.ptr 2 [], .ptr 3 [], .ptr 4 []] 0, .box (.ro false 23 r41), .box (.agg [.int .i64 r42, .arr 5 32 r43, .agg [.bool r44, .arr 5 32 r45], .agg [.ro false 23 r46, .bool r47, .arr 5 32 r48, .arr 5 32 r49]]), .box (.yld 5), .box (.own 6), .lp 21 7 [2, 5] [.ptr 7 [], .ptr 8 []] 0, .lst 5 r50, .box (.agg [.int .i64 r51, .arr 5 32 r52, .agg [.bool r53, .arr 5 32 r54], .agg [.ro false 23 r55, .bool r56, .arr 5 32 r57, .arr 5 32 r58]]), .box (.arr 5 32 r59)] => Hold (C_slices_Backward_api_Digest_api_Digest_1_3 k r40 r41 r42 r43 r44 r45 r46 r47 r48 r49 r50 r51 r52 r53 r54 r55 r56 r57 r58 r59 (fun z0 z1 z2 z3 z4 z5 z6 z7 z8 z9 z10 z11 z12 z13 z14 z15 z16 z17 z18 z19 => K (.tup []) [.lp 53 3 [1, 2, 3] [.ptr 2 [], .ptr 3 [], .ptr 4 []] 0, .box (.ro false 23 z0), .box (.agg [.int .i64 z1, .arr 5 32 z2, .agg [.bool z3, .arr 5 32 z4], .agg [.ro false 23 z5, .bool z6, .arr 5 32 z7, .arr 5 32 z8]]), .box (.yld 5), .box (.own 9), .lp 21 7 [2, 5] [.ptr 7 [], .ptr 8 []] 0, .lst 5 z9, .box (.agg [.int .i64 z10, .arr 5 32 z11, .agg [.bool z12, .arr 5 32 z13], .agg [.ro false 23 z14, .bool z15, .arr 5 32 z16, .arr 5 32 z17]]), .box (.arr 5 32 z18), .lst 5 z19]))
  | 9, [.yld 0, .ptr 1 [], .int .i64 r100], [.lp 53 3 [1, 2, 3] [.ptr 2 [], .ptr 3 [], .ptr 4 []] 0, .box (.ro false 23 r101), .box (.agg [.int .i64 r102, .arr 5 32 r103, .agg [.bool r104, .arr 5 32 r105], .agg [.ro false 23 r106, .bool r107, .arr 5 32 r108, .arr 5 32 r109]]), .box (.yld 5), .box (.own 9), .lp 21 7 [2, 5] [.ptr 7 [], .ptr 8 []] 0, .lst 5 r110, .box (.agg [.int .i64 r111, .arr 5 32 r112, .agg [.bool r113, .arr 5 32 r114], .agg [.ro false 23 r115, .bool r116, .arr 5 32 r117, .arr 5 32 r118]]), .box (.arr 5 32 r119), .lst 5 r120] => Hold (C_slices_Backward_api_Digest_api_Digest_1_3_1 k r100 r101 r102 r103 r104 r105 r106 r107 r108 r109 r110 r111 r112 r113 r114 r115 r116 r117 r118 r119 r120 (fun z0 z1 z2 z3 z4 z5 z6 z7 z8 z9 z10 z11 z12 z13 z14 z15 z16 z17 z18 z19 => K (.tup []) [.lp 53 3 [1, 2, 3] [.ptr 2 [], .ptr 3 [], .ptr 4 []] 0, .box (.ro false 23 z0), .box (.agg [.int .i64 z1, .arr 5 32 z2, .agg [.bool z3, .arr 5 32 z4], .agg [.ro false 23 z5, .bool z6, .arr 5 32 z7, .arr 5 32 z8]]), .box (.yld 5), .box (.own 9), .lp 21 7 [2, 5] [.ptr 7 [], .ptr 8 []] 0, .lst 5 z9, .box (.agg [.int .i64 z10, .arr 5 32 z11, .agg [.bool z12, .arr 5 32 z13], .agg [.ro false 23 z14, .bool z15, .arr 5 32 z16, .arr 5 32 z17]]), .box (.arr 5 32 z18), .lst 5 z19]))
  | 9, [.yld 0, .ptr 1 [], .int .i64 r24], [.lp 53 3 [1, 2, 3] [.ptr 2 [], .ptr 3 [], .ptr 4 []] 0, .box (.ro false 23 r25), .box (.agg [.int .i64 r26, .arr 5 32 r27, .agg [.bool r28, .arr 5 32 r29], .agg [.ro false 23 r30, .bool r31, .arr 5 32 r32, .arr 5 32 r33]]), .box (.yld 5), .box (.own 6), .lp 52 2 [2] [.ptr 7 []] 0, .lst 5 r34, .box (.own 8), .lst 35 r35] => Hold (C_slices_Backward_api_Digest_api_Digest_1_3_2 k r24 r25 r26 r27 r28 r29 r30 r31 r32 r33 r34 r35 (fun z0 z1 z2 z3 z4 z5 z6 z7 z8 z9 z10 z11 => K (.tup []) [.lp 53 3 [1, 2, 3] [.ptr 2 [], .ptr 3 [], .ptr 4 []] 0, .box (.ro false 23 z0), .box (.agg [.int .i64 z1, .arr 5 32 z2, .agg [.bool z3, .arr 5 32 z4], .agg [.ro false 23 z5, .bool z6, .arr 5 32 z7, .arr 5 32 z8]]), .box (.yld 5), .box (.own 9), .lp 52 2 [2] [.ptr 7 []] 0, .fz 5 z9, .box (.own 10), .dead, .lst 5 z10, .lst 35 z11]))
  | 9, [.yld 0, .ptr 1 [], .int .i64 r60], [.lp 53 3 [1, 2, 3] [.ptr 2 [], .ptr 3 [], .ptr 4 []] 0, .box (.ro false 23 r61), .box (.agg [.int .i64 r62, .arr 5 32 r63, .agg [.bool r64, .arr 5 32 r65], .agg [.ro false 23 r66, .bool r67, .arr 5 32 r68, .arr 5 32 r69]]), .box (.yld 5), .box (.own 9), .lp 52 2 [2] [.ptr 7 []] 0, .fz 5 r70, .box (.own 10), .dead, .lst 5 r71, .lst 35 r72] => Hold (C_slices_Backward_api_Digest_api_Digest_1_3_3 k r60 r61 r62 r63 r64 r65 r66 r67 r68 r69 r70 r71 r72 (fun z0 z1 z2 z3 z4 z5 z6 z7 z8 z9 z10 z11 => K (.tup []) [.lp 53 3 [1, 2, 3] [.ptr 2 [], .ptr 3 [], .ptr 4 []] 0, .box (.ro false 23 z0), .box (.agg [.int .i64 z1, .arr 5 32 z2, .agg [.bool z3, .arr 5 32 z4], .agg [.ro false 23 z5, .bool z6, .arr 5 32 z7, .arr 5 32 z8]]), .box (.yld 5), .box (.own 9), .lp 52 2 [2] [.ptr 7 []] 0, .fz 5 z9, .box (.own 10), .dead, .lst 5 z10, .lst 35 z11]))
  | _, _, _ => False
def D29_1 (k : Nat) : Nat → List (A PU) → List (AObj PU) → (A PU → List (AObj PU) → Prop) → Prop := fun nb vals objs K => match nb, vals, objs with
  | 1, [.own 0, .int .i64 r2, .int .i64 r3], [.lst 35 r4] => Hold (C_slices_Reverse_byte_byte_1 k r2 r3 r4 (fun z0 => K (.tup []) [.lst 35 z0]))
  | _, _, _ => False
def D30_4 (k : Nat) : Nat → List (A PU) → List (AObj PU) → (A PU → List (AObj PU) → Prop) → Prop := fun nb vals objs K => match nb, vals, objs with
  | 0, [.ro false 5 r3, .ro false 5 r4, .int .i64 r5, .int .i64 r6], [] => Hold (C_slices_Equal_byte_byte_4 k r3 r4 r5 r6 (fun z0 => K (.bool z0) []))
  | _, _, _ => False
def D13_14 (k : Nat) : Nat → List (A PU) → List (AObj PU) → (A PU → List (AObj PU) → Prop) → Prop := fun nb vals objs K => match nb, vals, objs with
  | 0, [.own 0, .own 1, .int .i64 r54, .int .i64 r55], [.lst 35 r56, .lst 35 r57] => Hold (C_proof_Clash_14 k r54 r55 r56 r57 (fun z0 z1 z2 => K (.tup [.usl 5 z0, .usl 5 z1, .int .i64 z2]) []) (fun z0 z1 z2 => K (.tup [.ro false 5 z0, .ro false 5 z1, .int .i64 z2]) []))
  | _, _, _ => False
def D45_4 (k : Nat) : Nat → List (A PU) → List (AObj PU) → (A PU → List (AObj PU) → Prop) → Prop := fun nb vals objs K => match nb, vals, objs with
  | 0, [.int .i64 r11, .ptr 0 [], .ptr 1 [], .ro false 23 r12, .int .i64 r13, .int .i64 r14], [.box (.arr 5 32 r15), .box (.agg [.arr 104 8 r16, .arr 5 64 r17, .int .i64 r18])] => Hold (C_smt_summed_4 k r11 r12 r13 r14 r15 r16 r17 r18 (fun z0 => K (.arr 5 32 z0) []))
  | _, _, _ => False
def D15_4 (k : Nat) : Nat → List (A PU) → List (AObj PU) → (A PU → List (AObj PU) → Prop) → Prop := fun nb vals objs K => match nb, vals, objs with
  | 0, [.ptr 0 [], .ptr 1 [], .own 2, .own 3, .int .i64 r4], [.box (.arr 5 32 r5), .box (.agg [.bool r6, .arr 5 32 r7]), .lst 5 r8, .lst 5 r9] => Hold (C_l06_clashes_4 k r4 r5 r6 r7 r8 r9 (fun z0 => K (.bool z0) []))
  | 0, [.ptr 0 [], .ptr 1 [], .ro false 5 r37, .ro false 5 r38, .int .i64 r39], [.box (.arr 5 32 r40), .box (.agg [.bool r41, .arr 5 32 r42])] => Hold (C_l06_clashes_4_1 k r37 r38 r39 r40 r41 r42 (fun z0 => K (.bool z0) []))
  | _, _, _ => False
def D15_5 (k : Nat) : Nat → List (A PU) → List (AObj PU) → (A PU → List (AObj PU) → Prop) → Prop := fun nb vals objs K => match nb, vals, objs with
  | 0, [.ptr 0 [], .ptr 1 [], .own 2, .own 3, .int .i64 r13, .int .i64 r14], [.box (.arr 5 32 r15), .box (.agg [.bool r16, .arr 5 32 r17]), .lst 5 r18, .lst 5 r19] => Hold (C_l06_clashes_5 k r13 r14 r15 r16 r17 r18 r19 (fun z0 => K (.bool z0) []))
  | 0, [.ptr 0 [], .ptr 1 [], .ro false 5 r46, .ro false 5 r47, .int .i64 r48, .int .i64 r49], [.box (.arr 5 32 r50), .box (.agg [.bool r51, .arr 5 32 r52])] => Hold (C_l06_clashes_5_1 k r46 r47 r48 r49 r50 r51 r52 (fun z0 => K (.bool z0) []))
  | _, _, _ => False
def D15_6 (k : Nat) : Nat → List (A PU) → List (AObj PU) → (A PU → List (AObj PU) → Prop) → Prop := fun nb vals objs K => match nb, vals, objs with
  | 0, [.own 0, .own 1, .int .i64 r23, .int .i64 r24, .int .i64 r25], [.lst 5 r26, .lst 5 r27] => Hold (C_l06_clashes_6 k r23 r24 r25 r26 r27 (fun z0 => K (.bool z0) []))
  | 0, [.ro false 5 r56, .ro false 5 r57, .int .i64 r58, .int .i64 r59, .int .i64 r60], [] => Hold (C_l06_clashes_6_1 k r56 r57 r58 r59 r60 (fun z0 => K (.bool z0) []))
  | _, _, _ => False
def D5_4 (k : Nat) : Nat → List (A PU) → List (AObj PU) → (A PU → List (AObj PU) → Prop) → Prop := fun nb vals objs K => match nb, vals, objs with
  | 0, [.int .i64 r19, .ptr 0 [], .ptr 1 [], .ptr 2 [], .ptr 3 [], .ptr 4 [], .ptr 5 [], .own 6, .own 7, .int .i64 r20], [.box (.arr 5 32 r21), .box (.arr 5 32 r22), .box (.agg [.bool r23, .arr 5 32 r24]), .box (.agg [.ro false 23 r25, .bool r26, .arr 5 32 r27, .arr 5 32 r28]), .box (.agg [.bool r29, .arr 5 32 r30]), .box (.agg [.ro false 23 r31, .bool r32, .arr 5 32 r33, .arr 5 32 r34]), .lst 5 r35, .lst 5 r36] => Hold (C_l06_ProofBinds_4 k r19 r20 r21 r22 r23 r24 r25 r26 r27 r28 r29 r30 r31 r32 r33 r34 r35 r36 (fun z0 => K (.bool z0) []))
  | 0, [.int .i64 r70, .ptr 0 [], .ptr 1 [], .ptr 2 [], .ptr 3 [], .ptr 4 [], .ptr 5 [], .ro false 5 r71, .ro false 5 r72, .int .i64 r73], [.box (.arr 5 32 r74), .box (.arr 5 32 r75), .box (.agg [.bool r76, .arr 5 32 r77]), .box (.agg [.ro false 23 r78, .bool r79, .arr 5 32 r80, .arr 5 32 r81]), .box (.agg [.bool r82, .arr 5 32 r83]), .box (.agg [.ro false 23 r84, .bool r85, .arr 5 32 r86, .arr 5 32 r87])] => Hold (C_l06_ProofBinds_4_1 k r70 r71 r72 r73 r74 r75 r76 r77 r78 r79 r80 r81 r82 r83 r84 r85 r86 r87 (fun z0 => K (.bool z0) []))
  | _, _, _ => False
def D5_5 (k : Nat) : Nat → List (A PU) → List (AObj PU) → (A PU → List (AObj PU) → Prop) → Prop := fun nb vals objs K => match nb, vals, objs with
  | 0, [.own 0, .own 1, .int .i64 r38], [.lst 5 r39, .lst 5 r40] => Hold (C_l06_ProofBinds_5 k r38 r39 r40 (fun z0 => K (.bool z0) []))
  | 0, [.ro false 5 r89, .ro false 5 r90, .int .i64 r91], [] => Hold (C_l06_ProofBinds_5_1 k r89 r90 r91 (fun z0 => K (.bool z0) []))
  | _, _, _ => False
def D5_6 (k : Nat) : Nat → List (A PU) → List (AObj PU) → (A PU → List (AObj PU) → Prop) → Prop := fun nb vals objs K => match nb, vals, objs with
  | 0, [.int .i64 r44, .own 0, .own 1, .int .i64 r45], [.lst 5 r46, .lst 5 r47] => Hold (C_l06_ProofBinds_6 k r44 r45 r46 r47 (fun z0 => K (.bool z0) []))
  | 0, [.int .i64 r95, .ro false 5 r96, .ro false 5 r97, .int .i64 r98], [] => Hold (C_l06_ProofBinds_6_1 k r95 r96 r97 r98 (fun z0 => K (.bool z0) []))
  | _, _, _ => False
def D5_7 (k : Nat) : Nat → List (A PU) → List (AObj PU) → (A PU → List (AObj PU) → Prop) → Prop := fun nb vals objs K => match nb, vals, objs with
  | 0, [.int .i64 r50, .own 0, .own 1, .int .i64 r51, .ptr 2 [], .int .i64 r52], [.lst 5 r53, .lst 5 r54, .box (.arr 5 32 r55)] => Hold (C_l06_ProofBinds_7 k r50 r51 r52 r53 r54 r55 (fun z0 => K (.bool z0) []))
  | 0, [.int .i64 r101, .ro false 5 r102, .ro false 5 r103, .int .i64 r104, .ptr 0 [], .int .i64 r105], [.box (.arr 5 32 r106)] => Hold (C_l06_ProofBinds_7_1 k r101 r102 r103 r104 r105 r106 (fun z0 => K (.bool z0) []))
  | _, _, _ => False
def D5_8 (k : Nat) : Nat → List (A PU) → List (AObj PU) → (A PU → List (AObj PU) → Prop) → Prop := fun nb vals objs K => match nb, vals, objs with
  | 0, [.own 0, .own 1, .int .i64 r58, .ptr 2 [], .int .i64 r59, .ptr 3 [], .int .i64 r60], [.lst 5 r61, .lst 5 r62, .box (.arr 5 32 r63), .box (.arr 5 32 r64)] => Hold (C_l06_ProofBinds_8 k r58 r59 r60 r61 r62 r63 r64 (fun z0 => K (.bool z0) []))
  | 0, [.ro false 5 r109, .ro false 5 r110, .int .i64 r111, .ptr 0 [], .int .i64 r112, .ptr 1 [], .int .i64 r113], [.box (.arr 5 32 r114), .box (.arr 5 32 r115)] => Hold (C_l06_ProofBinds_8_1 k r109 r110 r111 r112 r113 r114 r115 (fun z0 => K (.bool z0) []))
  | _, _, _ => False
def PTr (k : Nat) : List (Nat × Fn PU) := [(64, T64 k), (40, T40 k), (19, T19 k), (44, T44 k), (28, T28 k), (56, T56 k), (54, T54 k), (55, T55 k), (31, T31 k), (57, T57 k), (85, T85 k), (75, T75 k), (58, T58 k), (59, T59 k), (33, T33 k), (32, T32 k), (16, T16 k), (22000007, T21y7 k), (76, T76 k), (60, T60 k), (35, T35 k), (54000003, T53y3 k), (74, T74 k), (53, T53 k), (21, T21 k), (53000002, T52y2 k), (52, T52 k), (27, T27 k), (29, T29 k), (30, T30 k), (13, T13 k), (9, T9 k), (45, T45 k), (22, T22 k), (10, T10 k), (15, T15 k), (5, T5 k)]
def PCr (k : Nat) : List (Nat × Nat × (Nat → List (A PU) → List (AObj PU) → (A PU → List (AObj PU) → Prop) → Prop)) := [(19, 2, D19_2 k), (44, 4, D44_4 k), (56, 3, D56_3 k), (75, 2, D75_2 k), (75, 11, D75_11 k), (75, 14, D75_14 k), (75, 23, D75_23 k), (58, 3, D58_3 k), (59, 9, D59_9 k), (59, 15, D59_15 k), (32, 4, D32_4 k), (74, 1, D74_1 k), (74, 3, D74_3 k), (29, 1, D29_1 k), (30, 4, D30_4 k), (13, 14, D13_14 k), (45, 4, D45_4 k), (15, 4, D15_4 k), (15, 5, D15_5 k), (15, 6, D15_6 k), (5, 4, D5_4 k), (5, 5, D5_5 k), (5, 6, D5_6 k), (5, 7, D5_7 k), (5, 8, D5_8 k)]
def PT (k : Nat) : Tab PU := fun f => lookT f (PTr k)
def PC (k : Nat) : Cut PU := fun f id => lookC f id (PCr k)
theorem fnok64 : fnOk PE.P 64 = true := by kernel_rfl
theorem fnok40 : fnOk PE.P 40 = true := by kernel_rfl
theorem fnok19 : fnOk PE.P 19 = true := by kernel_rfl
theorem fnok44 : fnOk PE.P 44 = true := by kernel_rfl
theorem fnok28 : fnOk PE.P 28 = true := by kernel_rfl
theorem fnok56 : fnOk PE.P 56 = true := by kernel_rfl
theorem fnok54 : fnOk PE.P 54 = true := by kernel_rfl
theorem fnok55 : fnOk PE.P 55 = true := by kernel_rfl
theorem fnok31 : fnOk PE.P 31 = true := by kernel_rfl
theorem fnok57 : fnOk PE.P 57 = true := by kernel_rfl
theorem fnok85 : fnOk PE.P 85 = true := by kernel_rfl
theorem fnok75 : fnOk PE.P 75 = true := by kernel_rfl
theorem fnok58 : fnOk PE.P 58 = true := by kernel_rfl
theorem fnok59 : fnOk PE.P 59 = true := by kernel_rfl
theorem fnok33 : fnOk PE.P 33 = true := by kernel_rfl
theorem fnok32 : fnOk PE.P 32 = true := by kernel_rfl
theorem fnok16 : fnOk PE.P 16 = true := by kernel_rfl
theorem fnok21 : fnOk PE.P 21 = true := by kernel_rfl
theorem fnok76 : fnOk PE.P 76 = true := by kernel_rfl
theorem fnok60 : fnOk PE.P 60 = true := by kernel_rfl
theorem fnok35 : fnOk PE.P 35 = true := by kernel_rfl
theorem fnok53 : fnOk PE.P 53 = true := by kernel_rfl
theorem fnok74 : fnOk PE.P 74 = true := by kernel_rfl
theorem fnok52 : fnOk PE.P 52 = true := by kernel_rfl
theorem fnok27 : fnOk PE.P 27 = true := by kernel_rfl
theorem fnok29 : fnOk PE.P 29 = true := by kernel_rfl
theorem fnok30 : fnOk PE.P 30 = true := by kernel_rfl
theorem fnok13 : fnOk PE.P 13 = true := by kernel_rfl
theorem fnok9 : fnOk PE.P 9 = true := by kernel_rfl
theorem fnok45 : fnOk PE.P 45 = true := by kernel_rfl
theorem fnok22 : fnOk PE.P 22 = true := by kernel_rfl
theorem fnok10 : fnOk PE.P 10 = true := by kernel_rfl
theorem fnok15 : fnOk PE.P 15 = true := by kernel_rfl
theorem fnok5 : fnOk PE.P 5 = true := by kernel_rfl
theorem T64_z (args : List (A PU)) (objs : List (AObj PU)) (K : A PU → List (AObj PU) → Prop) : ¬ T64 0 args objs K := by
  intro h; unfold T64 at h; split at h <;> (first | exact h | exact h.out)
theorem T64_ok (k : Nat) (args : List (A PU)) (objs : List (AObj PU)) (K : A PU → List (AObj PU) → Prop) (h : T64 (k + 1) args objs K) : RowOk PE (PT k) (PC k) 64 args objs K := by
  unfold T64 at h; split at h
  · exact .fn fnok64 rfl (Hold.mp (by kernel_rfl) h.out)
  · exact h.elim
theorem T40_z (args : List (A PU)) (objs : List (AObj PU)) (K : A PU → List (AObj PU) → Prop) : ¬ T40 0 args objs K := by
  intro h; unfold T40 at h; split at h <;> (first | exact h | exact h.out)
theorem T40_ok (k : Nat) (args : List (A PU)) (objs : List (AObj PU)) (K : A PU → List (AObj PU) → Prop) (h : T40 (k + 1) args objs K) : RowOk PE (PT k) (PC k) 40 args objs K := by
  unfold T40 at h; split at h
  · exact .fn fnok40 rfl (Hold.mp (by kernel_rfl) h.out)
  · exact h.elim
theorem T19_z (args : List (A PU)) (objs : List (AObj PU)) (K : A PU → List (AObj PU) → Prop) : ¬ T19 0 args objs K := by
  intro h; unfold T19 at h; split at h <;> (first | exact h | exact h.out)
theorem T19_ok (k : Nat) (args : List (A PU)) (objs : List (AObj PU)) (K : A PU → List (AObj PU) → Prop) (h : T19 (k + 1) args objs K) : RowOk PE (PT k) (PC k) 19 args objs K := by
  unfold T19 at h; split at h
  · exact .fn fnok19 rfl (Hold.mp (by kernel_rfl) h.out)
  · exact h.elim
theorem T44_z (args : List (A PU)) (objs : List (AObj PU)) (K : A PU → List (AObj PU) → Prop) : ¬ T44 0 args objs K := by
  intro h; unfold T44 at h; split at h <;> (first | exact h | exact h.out)
theorem T44_ok (k : Nat) (args : List (A PU)) (objs : List (AObj PU)) (K : A PU → List (AObj PU) → Prop) (h : T44 (k + 1) args objs K) : RowOk PE (PT k) (PC k) 44 args objs K := by
  unfold T44 at h; split at h
  · exact .fn fnok44 rfl (Hold.mp (by kernel_rfl) h.out)
  · exact h.elim
theorem T28_z (args : List (A PU)) (objs : List (AObj PU)) (K : A PU → List (AObj PU) → Prop) : ¬ T28 0 args objs K := by
  intro h; unfold T28 at h; split at h <;> (first | exact h | exact h.out)
theorem T28_ok (k : Nat) (args : List (A PU)) (objs : List (AObj PU)) (K : A PU → List (AObj PU) → Prop) (h : T28 (k + 1) args objs K) : RowOk PE (PT k) (PC k) 28 args objs K := by
  unfold T28 at h; split at h
  · exact .fn fnok28 rfl (Hold.mp (by kernel_rfl) h.out)
  · exact h.elim
theorem T56_z (args : List (A PU)) (objs : List (AObj PU)) (K : A PU → List (AObj PU) → Prop) : ¬ T56 0 args objs K := by
  intro h; unfold T56 at h; split at h <;> (first | exact h | exact h.out)
theorem T56_ok (k : Nat) (args : List (A PU)) (objs : List (AObj PU)) (K : A PU → List (AObj PU) → Prop) (h : T56 (k + 1) args objs K) : RowOk PE (PT k) (PC k) 56 args objs K := by
  unfold T56 at h; split at h
  · exact .fn fnok56 rfl (Hold.mp (by kernel_rfl) h.out)
  · exact .fn fnok56 rfl (Hold.mp (by kernel_rfl) h.out)
  · exact h.elim
theorem T54_z (args : List (A PU)) (objs : List (AObj PU)) (K : A PU → List (AObj PU) → Prop) : ¬ T54 0 args objs K := by
  intro h; unfold T54 at h; split at h <;> (first | exact h | exact h.out)
theorem T54_ok (k : Nat) (args : List (A PU)) (objs : List (AObj PU)) (K : A PU → List (AObj PU) → Prop) (h : T54 (k + 1) args objs K) : RowOk PE (PT k) (PC k) 54 args objs K := by
  unfold T54 at h; split at h
  · exact .fn fnok54 rfl (Hold.mp (by kernel_rfl) h.out)
  · exact h.elim
theorem T55_z (args : List (A PU)) (objs : List (AObj PU)) (K : A PU → List (AObj PU) → Prop) : ¬ T55 0 args objs K := by
  intro h; unfold T55 at h; split at h <;> (first | exact h | exact h.out)
theorem T55_ok (k : Nat) (args : List (A PU)) (objs : List (AObj PU)) (K : A PU → List (AObj PU) → Prop) (h : T55 (k + 1) args objs K) : RowOk PE (PT k) (PC k) 55 args objs K := by
  unfold T55 at h; split at h
  · exact .fn fnok55 rfl (Hold.mp (by kernel_rfl) h.out)
  · exact h.elim
theorem T31_z (args : List (A PU)) (objs : List (AObj PU)) (K : A PU → List (AObj PU) → Prop) : ¬ T31 0 args objs K := by
  intro h; unfold T31 at h; split at h <;> (first | exact h | exact h.out)
theorem T31_ok (k : Nat) (args : List (A PU)) (objs : List (AObj PU)) (K : A PU → List (AObj PU) → Prop) (h : T31 (k + 1) args objs K) : RowOk PE (PT k) (PC k) 31 args objs K := by
  unfold T31 at h; split at h
  · exact .fn fnok31 rfl (Hold.mp (by kernel_rfl) h.out)
  · exact h.elim
theorem T57_z (args : List (A PU)) (objs : List (AObj PU)) (K : A PU → List (AObj PU) → Prop) : ¬ T57 0 args objs K := by
  intro h; unfold T57 at h; split at h <;> (first | exact h | exact h.out)
theorem T57_ok (k : Nat) (args : List (A PU)) (objs : List (AObj PU)) (K : A PU → List (AObj PU) → Prop) (h : T57 (k + 1) args objs K) : RowOk PE (PT k) (PC k) 57 args objs K := by
  unfold T57 at h; split at h
  · exact .fn fnok57 rfl (Hold.mp (by kernel_rfl) h.out)
  · exact h.elim
theorem T85_z (args : List (A PU)) (objs : List (AObj PU)) (K : A PU → List (AObj PU) → Prop) : ¬ T85 0 args objs K := by
  intro h; unfold T85 at h; split at h <;> (first | exact h | exact h.out)
theorem T85_ok (k : Nat) (args : List (A PU)) (objs : List (AObj PU)) (K : A PU → List (AObj PU) → Prop) (h : T85 (k + 1) args objs K) : RowOk PE (PT k) (PC k) 85 args objs K := by
  unfold T85 at h; split at h
  · exact .fn fnok85 rfl (Hold.mp (by kernel_rfl) h.out)
  · exact h.elim
theorem T75_z (args : List (A PU)) (objs : List (AObj PU)) (K : A PU → List (AObj PU) → Prop) : ¬ T75 0 args objs K := by
  intro h; unfold T75 at h; split at h <;> (first | exact h | exact h.out)
theorem T75_ok (k : Nat) (args : List (A PU)) (objs : List (AObj PU)) (K : A PU → List (AObj PU) → Prop) (h : T75 (k + 1) args objs K) : RowOk PE (PT k) (PC k) 75 args objs K := by
  unfold T75 at h; split at h
  · exact .fn fnok75 rfl (Hold.mp (by kernel_rfl) h.out)
  · exact h.elim
theorem T58_z (args : List (A PU)) (objs : List (AObj PU)) (K : A PU → List (AObj PU) → Prop) : ¬ T58 0 args objs K := by
  intro h; unfold T58 at h; split at h <;> (first | exact h | exact h.out)
theorem T58_ok (k : Nat) (args : List (A PU)) (objs : List (AObj PU)) (K : A PU → List (AObj PU) → Prop) (h : T58 (k + 1) args objs K) : RowOk PE (PT k) (PC k) 58 args objs K := by
  unfold T58 at h; split at h
  · exact .fn fnok58 rfl (Hold.mp (by kernel_rfl) h.out)
  · exact .fn fnok58 rfl (Hold.mp (by kernel_rfl) h.out)
  · exact h.elim
theorem T59_z (args : List (A PU)) (objs : List (AObj PU)) (K : A PU → List (AObj PU) → Prop) : ¬ T59 0 args objs K := by
  intro h; unfold T59 at h; split at h <;> (first | exact h | exact h.out)
theorem T59_ok (k : Nat) (args : List (A PU)) (objs : List (AObj PU)) (K : A PU → List (AObj PU) → Prop) (h : T59 (k + 1) args objs K) : RowOk PE (PT k) (PC k) 59 args objs K := by
  unfold T59 at h; split at h
  · exact .fn fnok59 rfl (Hold.mp (by kernel_rfl) h.out)
  · exact h.elim
theorem T33_z (args : List (A PU)) (objs : List (AObj PU)) (K : A PU → List (AObj PU) → Prop) : ¬ T33 0 args objs K := by
  intro h; unfold T33 at h; split at h <;> (first | exact h | exact h.out)
theorem T33_ok (k : Nat) (args : List (A PU)) (objs : List (AObj PU)) (K : A PU → List (AObj PU) → Prop) (h : T33 (k + 1) args objs K) : RowOk PE (PT k) (PC k) 33 args objs K := by
  unfold T33 at h; split at h
  · exact .fn fnok33 rfl (Hold.mp (by kernel_rfl) h.out)
  · exact .fn fnok33 rfl (Hold.mp (by kernel_rfl) h.out)
  · exact h.elim
theorem T32_z (args : List (A PU)) (objs : List (AObj PU)) (K : A PU → List (AObj PU) → Prop) : ¬ T32 0 args objs K := by
  intro h; unfold T32 at h; split at h <;> (first | exact h | exact h.out)
theorem T32_ok (k : Nat) (args : List (A PU)) (objs : List (AObj PU)) (K : A PU → List (AObj PU) → Prop) (h : T32 (k + 1) args objs K) : RowOk PE (PT k) (PC k) 32 args objs K := by
  unfold T32 at h; split at h
  · exact .fn fnok32 rfl (Hold.mp (by kernel_rfl) h.out)
  · exact h.elim
theorem T16_z (args : List (A PU)) (objs : List (AObj PU)) (K : A PU → List (AObj PU) → Prop) : ¬ T16 0 args objs K := by
  intro h; unfold T16 at h; split at h <;> (first | exact h | exact h.out)
theorem T16_ok (k : Nat) (args : List (A PU)) (objs : List (AObj PU)) (K : A PU → List (AObj PU) → Prop) (h : T16 (k + 1) args objs K) : RowOk PE (PT k) (PC k) 16 args objs K := by
  unfold T16 at h; split at h
  · exact .fn fnok16 rfl (Hold.mp (by kernel_rfl) h.out)
  · exact .fn fnok16 rfl (Hold.mp (by kernel_rfl) h.out)
  · exact h.elim
theorem T21y7_z (args : List (A PU)) (objs : List (AObj PU)) (K : A PU → List (AObj PU) → Prop) : ¬ T21y7 0 args objs K := by
  intro h; unfold T21y7 at h; split at h <;> (first | exact h | exact h.out)
theorem T21y7_ok (k : Nat) (args : List (A PU)) (objs : List (AObj PU)) (K : A PU → List (AObj PU) → Prop) (h : T21y7 (k + 1) args objs K) : RowOk PE (PT k) (PC k) 22000007 args objs K := by
  unfold T21y7 at h; split at h
  · exact .round 21 7 rfl fnok21 rfl (Hold.mp (by kernel_rfl) h.out)
  · exact h.elim
theorem T76_z (args : List (A PU)) (objs : List (AObj PU)) (K : A PU → List (AObj PU) → Prop) : ¬ T76 0 args objs K := by
  intro h; unfold T76 at h; split at h <;> (first | exact h | exact h.out)
theorem T76_ok (k : Nat) (args : List (A PU)) (objs : List (AObj PU)) (K : A PU → List (AObj PU) → Prop) (h : T76 (k + 1) args objs K) : RowOk PE (PT k) (PC k) 76 args objs K := by
  unfold T76 at h; split at h
  · exact .fn fnok76 rfl (Hold.mp (by kernel_rfl) h.out)
  · exact h.elim
theorem T60_z (args : List (A PU)) (objs : List (AObj PU)) (K : A PU → List (AObj PU) → Prop) : ¬ T60 0 args objs K := by
  intro h; unfold T60 at h; split at h <;> (first | exact h | exact h.out)
theorem T60_ok (k : Nat) (args : List (A PU)) (objs : List (AObj PU)) (K : A PU → List (AObj PU) → Prop) (h : T60 (k + 1) args objs K) : RowOk PE (PT k) (PC k) 60 args objs K := by
  unfold T60 at h; split at h
  · exact .fn fnok60 rfl (Hold.mp (by kernel_rfl) h.out)
  · exact h.elim
theorem T35_z (args : List (A PU)) (objs : List (AObj PU)) (K : A PU → List (AObj PU) → Prop) : ¬ T35 0 args objs K := by
  intro h; unfold T35 at h; split at h <;> (first | exact h | exact h.out)
theorem T35_ok (k : Nat) (args : List (A PU)) (objs : List (AObj PU)) (K : A PU → List (AObj PU) → Prop) (h : T35 (k + 1) args objs K) : RowOk PE (PT k) (PC k) 35 args objs K := by
  unfold T35 at h; split at h
  · exact .fn fnok35 rfl (Hold.mp (by kernel_rfl) h.out)
  · exact h.elim
theorem T53y3_z (args : List (A PU)) (objs : List (AObj PU)) (K : A PU → List (AObj PU) → Prop) : ¬ T53y3 0 args objs K := by
  intro h; unfold T53y3 at h; split at h <;> (first | exact h | exact h.out)
theorem T53y3_ok (k : Nat) (args : List (A PU)) (objs : List (AObj PU)) (K : A PU → List (AObj PU) → Prop) (h : T53y3 (k + 1) args objs K) : RowOk PE (PT k) (PC k) 54000003 args objs K := by
  unfold T53y3 at h; split at h
  · exact .round 53 3 rfl fnok53 rfl (Hold.mp (by kernel_rfl) h.out)
  · exact .round 53 3 rfl fnok53 rfl (Hold.mp (by kernel_rfl) h.out)
  · exact h.elim
theorem T74_z (args : List (A PU)) (objs : List (AObj PU)) (K : A PU → List (AObj PU) → Prop) : ¬ T74 0 args objs K := by
  intro h; unfold T74 at h; split at h <;> (first | exact h | exact h.out)
theorem T74_ok (k : Nat) (args : List (A PU)) (objs : List (AObj PU)) (K : A PU → List (AObj PU) → Prop) (h : T74 (k + 1) args objs K) : RowOk PE (PT k) (PC k) 74 args objs K := by
  unfold T74 at h; split at h
  · exact .fn fnok74 rfl (Hold.mp (by kernel_rfl) h.out)
  · exact .fn fnok74 rfl (Hold.mp (by kernel_rfl) h.out)
  · exact h.elim
theorem T53_z (args : List (A PU)) (objs : List (AObj PU)) (K : A PU → List (AObj PU) → Prop) : ¬ T53 0 args objs K := by
  intro h; unfold T53 at h; split at h <;> (first | exact h | exact h.out)
theorem T53_ok (k : Nat) (args : List (A PU)) (objs : List (AObj PU)) (K : A PU → List (AObj PU) → Prop) (h : T53 (k + 1) args objs K) : RowOk PE (PT k) (PC k) 53 args objs K := by
  unfold T53 at h; split at h
  · exact .fn fnok53 rfl (Hold.mp (by kernel_rfl) h.out)
  · exact .fn fnok53 rfl (Hold.mp (by kernel_rfl) h.out)
  · exact h.elim
theorem T21_z (args : List (A PU)) (objs : List (AObj PU)) (K : A PU → List (AObj PU) → Prop) : ¬ T21 0 args objs K := by
  intro h; unfold T21 at h; split at h <;> (first | exact h | exact h.out)
theorem T21_ok (k : Nat) (args : List (A PU)) (objs : List (AObj PU)) (K : A PU → List (AObj PU) → Prop) (h : T21 (k + 1) args objs K) : RowOk PE (PT k) (PC k) 21 args objs K := by
  unfold T21 at h; split at h
  · exact .fn fnok21 rfl (Hold.mp (by kernel_rfl) h.out)
  · exact h.elim
theorem T52y2_z (args : List (A PU)) (objs : List (AObj PU)) (K : A PU → List (AObj PU) → Prop) : ¬ T52y2 0 args objs K := by
  intro h; unfold T52y2 at h; split at h <;> (first | exact h | exact h.out)
theorem T52y2_ok (k : Nat) (args : List (A PU)) (objs : List (AObj PU)) (K : A PU → List (AObj PU) → Prop) (h : T52y2 (k + 1) args objs K) : RowOk PE (PT k) (PC k) 53000002 args objs K := by
  unfold T52y2 at h; split at h
  · exact .round 52 2 rfl fnok52 rfl (Hold.mp (by kernel_rfl) h.out)
  · exact h.elim
theorem T52_z (args : List (A PU)) (objs : List (AObj PU)) (K : A PU → List (AObj PU) → Prop) : ¬ T52 0 args objs K := by
  intro h; unfold T52 at h; split at h <;> (first | exact h | exact h.out)
theorem T52_ok (k : Nat) (args : List (A PU)) (objs : List (AObj PU)) (K : A PU → List (AObj PU) → Prop) (h : T52 (k + 1) args objs K) : RowOk PE (PT k) (PC k) 52 args objs K := by
  unfold T52 at h; split at h
  · exact .fn fnok52 rfl (Hold.mp (by kernel_rfl) h.out)
  · exact h.elim
theorem T27_z (args : List (A PU)) (objs : List (AObj PU)) (K : A PU → List (AObj PU) → Prop) : ¬ T27 0 args objs K := by
  intro h; unfold T27 at h; split at h <;> (first | exact h | exact h.out)
theorem T27_ok (k : Nat) (args : List (A PU)) (objs : List (AObj PU)) (K : A PU → List (AObj PU) → Prop) (h : T27 (k + 1) args objs K) : RowOk PE (PT k) (PC k) 27 args objs K := by
  unfold T27 at h; split at h
  · exact .fn fnok27 rfl (Hold.mp (by kernel_rfl) h.out)
  · exact h.elim
theorem T29_z (args : List (A PU)) (objs : List (AObj PU)) (K : A PU → List (AObj PU) → Prop) : ¬ T29 0 args objs K := by
  intro h; unfold T29 at h; split at h <;> (first | exact h | exact h.out)
theorem T29_ok (k : Nat) (args : List (A PU)) (objs : List (AObj PU)) (K : A PU → List (AObj PU) → Prop) (h : T29 (k + 1) args objs K) : RowOk PE (PT k) (PC k) 29 args objs K := by
  unfold T29 at h; split at h
  · exact .fn fnok29 rfl (Hold.mp (by kernel_rfl) h.out)
  · exact h.elim
theorem T30_z (args : List (A PU)) (objs : List (AObj PU)) (K : A PU → List (AObj PU) → Prop) : ¬ T30 0 args objs K := by
  intro h; unfold T30 at h; split at h <;> (first | exact h | exact h.out)
theorem T30_ok (k : Nat) (args : List (A PU)) (objs : List (AObj PU)) (K : A PU → List (AObj PU) → Prop) (h : T30 (k + 1) args objs K) : RowOk PE (PT k) (PC k) 30 args objs K := by
  unfold T30 at h; split at h
  · exact .fn fnok30 rfl (Hold.mp (by kernel_rfl) h.out)
  · exact h.elim
theorem T13_z (args : List (A PU)) (objs : List (AObj PU)) (K : A PU → List (AObj PU) → Prop) : ¬ T13 0 args objs K := by
  intro h; unfold T13 at h; split at h <;> (first | exact h | exact h.out)
theorem T13_ok (k : Nat) (args : List (A PU)) (objs : List (AObj PU)) (K : A PU → List (AObj PU) → Prop) (h : T13 (k + 1) args objs K) : RowOk PE (PT k) (PC k) 13 args objs K := by
  unfold T13 at h; split at h
  · exact .fn fnok13 rfl (Hold.mp (by kernel_rfl) h.out)
  · exact h.elim
theorem T9_z (args : List (A PU)) (objs : List (AObj PU)) (K : A PU → List (AObj PU) → Prop) : ¬ T9 0 args objs K := by
  intro h; unfold T9 at h; split at h <;> (first | exact h | exact h.out)
theorem T9_ok (k : Nat) (args : List (A PU)) (objs : List (AObj PU)) (K : A PU → List (AObj PU) → Prop) (h : T9 (k + 1) args objs K) : RowOk PE (PT k) (PC k) 9 args objs K := by
  unfold T9 at h; split at h
  · exact .fn fnok9 rfl (Hold.mp (by kernel_rfl) h.out)
  · exact h.elim
theorem T45_z (args : List (A PU)) (objs : List (AObj PU)) (K : A PU → List (AObj PU) → Prop) : ¬ T45 0 args objs K := by
  intro h; unfold T45 at h; split at h <;> (first | exact h | exact h.out)
theorem T45_ok (k : Nat) (args : List (A PU)) (objs : List (AObj PU)) (K : A PU → List (AObj PU) → Prop) (h : T45 (k + 1) args objs K) : RowOk PE (PT k) (PC k) 45 args objs K := by
  unfold T45 at h; split at h
  · exact .fn fnok45 rfl (Hold.mp (by kernel_rfl) h.out)
  · exact h.elim
theorem T22_z (args : List (A PU)) (objs : List (AObj PU)) (K : A PU → List (AObj PU) → Prop) : ¬ T22 0 args objs K := by
  intro h; unfold T22 at h; split at h <;> (first | exact h | exact h.out)
theorem T22_ok (k : Nat) (args : List (A PU)) (objs : List (AObj PU)) (K : A PU → List (AObj PU) → Prop) (h : T22 (k + 1) args objs K) : RowOk PE (PT k) (PC k) 22 args objs K := by
  unfold T22 at h; split at h
  · exact .fn fnok22 rfl (Hold.mp (by kernel_rfl) h.out)
  · exact h.elim
theorem T10_z (args : List (A PU)) (objs : List (AObj PU)) (K : A PU → List (AObj PU) → Prop) : ¬ T10 0 args objs K := by
  intro h; unfold T10 at h; split at h <;> (first | exact h | exact h.out)
theorem T10_ok (k : Nat) (args : List (A PU)) (objs : List (AObj PU)) (K : A PU → List (AObj PU) → Prop) (h : T10 (k + 1) args objs K) : RowOk PE (PT k) (PC k) 10 args objs K := by
  unfold T10 at h; split at h
  · exact .fn fnok10 rfl (Hold.mp (by kernel_rfl) h.out)
  · exact h.elim
theorem T15_z (args : List (A PU)) (objs : List (AObj PU)) (K : A PU → List (AObj PU) → Prop) : ¬ T15 0 args objs K := by
  intro h; unfold T15 at h; split at h <;> (first | exact h | exact h.out)
theorem T15_ok (k : Nat) (args : List (A PU)) (objs : List (AObj PU)) (K : A PU → List (AObj PU) → Prop) (h : T15 (k + 1) args objs K) : RowOk PE (PT k) (PC k) 15 args objs K := by
  unfold T15 at h; split at h
  · exact .fn fnok15 rfl (Hold.mp (by kernel_rfl) h.out)
  · exact h.elim
theorem T5_z (args : List (A PU)) (objs : List (AObj PU)) (K : A PU → List (AObj PU) → Prop) : ¬ T5 0 args objs K := by
  intro h; unfold T5 at h; split at h <;> (first | exact h | exact h.out)
theorem T5_ok (k : Nat) (args : List (A PU)) (objs : List (AObj PU)) (K : A PU → List (AObj PU) → Prop) (h : T5 (k + 1) args objs K) : RowOk PE (PT k) (PC k) 5 args objs K := by
  unfold T5 at h; split at h
  · exact .fn fnok5 rfl (Hold.mp (by kernel_rfl) h.out)
  · exact h.elim
theorem D19_2_z (nb : Nat) (vals : List (A PU)) (objs : List (AObj PU)) (K : A PU → List (AObj PU) → Prop) : ¬ D19_2 0 nb vals objs K := by
  intro h; unfold D19_2 at h; split at h <;> (first | exact h | exact h.out)
theorem D19_2_ok (k : Nat) (live : List Nat) (hl : cutOf 19 2 PE.cuts = some live) (nb : Nat) (vals : List (A PU)) (objs : List (AObj PU)) (K : A PU → List (AObj PU) → Prop) (h : D19_2 (k + 1) nb vals objs K) : fnOk PE.P 19 = true ∧ Hold (vcut PE (PT k) (PC k) 19 2 live nb vals objs K) := by
  obtain rfl : live = [2, 3, 7] := Option.some.inj (hl.symm.trans (by kernel_rfl : cutOf 19 2 PE.cuts = some [2, 3, 7]))
  refine ⟨fnok19, ?_⟩; unfold D19_2 at h; split at h
  · exact Hold.mp (by kernel_rfl) h.out
  · exact h.elim
theorem D44_4_z (nb : Nat) (vals : List (A PU)) (objs : List (AObj PU)) (K : A PU → List (AObj PU) → Prop) : ¬ D44_4 0 nb vals objs K := by
  intro h; unfold D44_4 at h; split at h <;> (first | exact h | exact h.out)
theorem D44_4_ok (k : Nat) (live : List Nat) (hl : cutOf 44 4 PE.cuts = some live) (nb : Nat) (vals : List (A PU)) (objs : List (AObj PU)) (K : A PU → List (AObj PU) → Prop) (h : D44_4 (k + 1) nb vals objs K) : fnOk PE.P 44 = true ∧ Hold (vcut PE (PT k) (PC k) 44 4 live nb vals objs K) := by
  obtain rfl : live = [1, 3] := Option.some.inj (hl.symm.trans (by kernel_rfl : cutOf 44 4 PE.cuts = some [1, 3]))
  refine ⟨fnok44, ?_⟩; unfold D44_4 at h; split at h
  · exact Hold.mp (by kernel_rfl) h.out
  · exact h.elim
theorem D56_3_z (nb : Nat) (vals : List (A PU)) (objs : List (AObj PU)) (K : A PU → List (AObj PU) → Prop) : ¬ D56_3 0 nb vals objs K := by
  intro h; unfold D56_3 at h; split at h <;> (first | exact h | exact h.out)
theorem D56_3_ok (k : Nat) (live : List Nat) (hl : cutOf 56 3 PE.cuts = some live) (nb : Nat) (vals : List (A PU)) (objs : List (AObj PU)) (K : A PU → List (AObj PU) → Prop) (h : D56_3 (k + 1) nb vals objs K) : fnOk PE.P 56 = true ∧ Hold (vcut PE (PT k) (PC k) 56 3 live nb vals objs K) := by
  obtain rfl : live = [5, 10, 11, 12] := Option.some.inj (hl.symm.trans (by kernel_rfl : cutOf 56 3 PE.cuts = some [5, 10, 11, 12]))
  refine ⟨fnok56, ?_⟩; unfold D56_3 at h; split at h
  · exact Hold.mp (by kernel_rfl) h.out
  · exact Hold.mp (by kernel_rfl) h.out
  · exact h.elim
theorem D75_2_z (nb : Nat) (vals : List (A PU)) (objs : List (AObj PU)) (K : A PU → List (AObj PU) → Prop) : ¬ D75_2 0 nb vals objs K := by
  intro h; unfold D75_2 at h; split at h <;> (first | exact h | exact h.out)
theorem D75_2_ok (k : Nat) (live : List Nat) (hl : cutOf 75 2 PE.cuts = some live) (nb : Nat) (vals : List (A PU)) (objs : List (AObj PU)) (K : A PU → List (AObj PU) → Prop) (h : D75_2 (k + 1) nb vals objs K) : fnOk PE.P 75 = true ∧ Hold (vcut PE (PT k) (PC k) 75 2 live nb vals objs K) := by
  obtain rfl : live = [0, 2, 25] := Option.some.inj (hl.symm.trans (by kernel_rfl : cutOf 75 2 PE.cuts = some [0, 2, 25]))
  refine ⟨fnok75, ?_⟩; unfold D75_2 at h; split at h
  · exact Hold.mp (by kernel_rfl) h.out
  · exact h.elim
theorem D75_11_z (nb : Nat) (vals : List (A PU)) (objs : List (AObj PU)) (K : A PU → List (AObj PU) → Prop) : ¬ D75_11 0 nb vals objs K := by
  intro h; unfold D75_11 at h; split at h <;> (first | exact h | exact h.out)
theorem D75_11_ok (k : Nat) (live : List Nat) (hl : cutOf 75 11 PE.cuts = some live) (nb : Nat) (vals : List (A PU)) (objs : List (AObj PU)) (K : A PU → List (AObj PU) → Prop) (h : D75_11 (k + 1) nb vals objs K) : fnOk PE.P 75 = true ∧ Hold (vcut PE (PT k) (PC k) 75 11 live nb vals objs K) := by
  obtain rfl : live = [0, 2, 25] := Option.some.inj (hl.symm.trans (by kernel_rfl : cutOf 75 11 PE.cuts = some [0, 2, 25]))
  refine ⟨fnok75, ?_⟩; unfold D75_11 at h; split at h
  · exact Hold.mp (by kernel_rfl) h.out
  · exact h.elim
theorem D75_14_z (nb : Nat) (vals : List (A PU)) (objs : List (AObj PU)) (K : A PU → List (AObj PU) → Prop) : ¬ D75_14 0 nb vals objs K := by
  intro h; unfold D75_14 at h; split at h <;> (first | exact h | exact h.out)
theorem D75_14_ok (k : Nat) (live : List Nat) (hl : cutOf 75 14 PE.cuts = some live) (nb : Nat) (vals : List (A PU)) (objs : List (AObj PU)) (K : A PU → List (AObj PU) → Prop) (h : D75_14 (k + 1) nb vals objs K) : fnOk PE.P 75 = true ∧ Hold (vcut PE (PT k) (PC k) 75 14 live nb vals objs K) := by
  obtain rfl : live = [0, 9, 10, 11, 12, 13, 14, 15, 16, 140, 141] := Option.some.inj (hl.symm.trans (by kernel_rfl : cutOf 75 14 PE.cuts = some [0, 9, 10, 11, 12, 13, 14, 15, 16, 140, 141]))
  refine ⟨fnok75, ?_⟩; unfold D75_14 at h; split at h
  · exact Hold.mp (by kernel_rfl) h.out
  · exact h.elim
theorem D75_23_z (nb : Nat) (vals : List (A PU)) (objs : List (AObj PU)) (K : A PU → List (AObj PU) → Prop) : ¬ D75_23 0 nb vals objs K := by
  intro h; unfold D75_23 at h; split at h <;> (first | exact h | exact h.out)
theorem D75_23_ok (k : Nat) (live : List Nat) (hl : cutOf 75 23 PE.cuts = some live) (nb : Nat) (vals : List (A PU)) (objs : List (AObj PU)) (K : A PU → List (AObj PU) → Prop) (h : D75_23 (k + 1) nb vals objs K) : fnOk PE.P 75 = true ∧ Hold (vcut PE (PT k) (PC k) 75 23 live nb vals objs K) := by
  obtain rfl : live = [0, 210, 211] := Option.some.inj (hl.symm.trans (by kernel_rfl : cutOf 75 23 PE.cuts = some [0, 210, 211]))
  refine ⟨fnok75, ?_⟩; unfold D75_23 at h; split at h
  · exact Hold.mp (by kernel_rfl) h.out
  · exact h.elim
theorem D58_3_z (nb : Nat) (vals : List (A PU)) (objs : List (AObj PU)) (K : A PU → List (AObj PU) → Prop) : ¬ D58_3 0 nb vals objs K := by
  intro h; unfold D58_3 at h; split at h <;> (first | exact h | exact h.out)
theorem D58_3_ok (k : Nat) (live : List Nat) (hl : cutOf 58 3 PE.cuts = some live) (nb : Nat) (vals : List (A PU)) (objs : List (AObj PU)) (K : A PU → List (AObj PU) → Prop) (h : D58_3 (k + 1) nb vals objs K) : fnOk PE.P 58 = true ∧ Hold (vcut PE (PT k) (PC k) 58 3 live nb vals objs K) := by
  obtain rfl : live = [0, 1] := Option.some.inj (hl.symm.trans (by kernel_rfl : cutOf 58 3 PE.cuts = some [0, 1]))
  refine ⟨fnok58, ?_⟩; unfold D58_3 at h; split at h
  · exact Hold.mp (by kernel_rfl) h.out
  · exact Hold.mp (by kernel_rfl) h.out
  · exact h.elim
theorem D59_9_z (nb : Nat) (vals : List (A PU)) (objs : List (AObj PU)) (K : A PU → List (AObj PU) → Prop) : ¬ D59_9 0 nb vals objs K := by
  intro h; unfold D59_9 at h; split at h <;> (first | exact h | exact h.out)
theorem D59_9_ok (k : Nat) (live : List Nat) (hl : cutOf 59 9 PE.cuts = some live) (nb : Nat) (vals : List (A PU)) (objs : List (AObj PU)) (K : A PU → List (AObj PU) → Prop) (h : D59_9 (k + 1) nb vals objs K) : fnOk PE.P 59 = true ∧ Hold (vcut PE (PT k) (PC k) 59 9 live nb vals objs K) := by
  obtain rfl : live = [0, 2, 3, 4, 5, 6, 22] := Option.some.inj (hl.symm.trans (by kernel_rfl : cutOf 59 9 PE.cuts = some [0, 2, 3, 4, 5, 6, 22]))
  refine ⟨fnok59, ?_⟩; unfold D59_9 at h; split at h
  · exact Hold.mp (by kernel_rfl) h.out
  · exact h.elim
theorem D59_15_z (nb : Nat) (vals : List (A PU)) (objs : List (AObj PU)) (K : A PU → List (AObj PU) → Prop) : ¬ D59_15 0 nb vals objs K := by
  intro h; unfold D59_15 at h; split at h <;> (first | exact h | exact h.out)
theorem D59_15_ok (k : Nat) (live : List Nat) (hl : cutOf 59 15 PE.cuts = some live) (nb : Nat) (vals : List (A PU)) (objs : List (AObj PU)) (K : A PU → List (AObj PU) → Prop) (h : D59_15 (k + 1) nb vals objs K) : fnOk PE.P 59 = true ∧ Hold (vcut PE (PT k) (PC k) 59 15 live nb vals objs K) := by
  obtain rfl : live = [2, 3, 4, 45] := Option.some.inj (hl.symm.trans (by kernel_rfl : cutOf 59 15 PE.cuts = some [2, 3, 4, 45]))
  refine ⟨fnok59, ?_⟩; unfold D59_15 at h; split at h
  · exact Hold.mp (by kernel_rfl) h.out
  · exact h.elim
theorem D32_4_z (nb : Nat) (vals : List (A PU)) (objs : List (AObj PU)) (K : A PU → List (AObj PU) → Prop) : ¬ D32_4 0 nb vals objs K := by
  intro h; unfold D32_4 at h; split at h <;> (first | exact h | exact h.out)
theorem D32_4_ok (k : Nat) (live : List Nat) (hl : cutOf 32 4 PE.cuts = some live) (nb : Nat) (vals : List (A PU)) (objs : List (AObj PU)) (K : A PU → List (AObj PU) → Prop) (h : D32_4 (k + 1) nb vals objs K) : fnOk PE.P 32 = true ∧ Hold (vcut PE (PT k) (PC k) 32 4 live nb vals objs K) := by
  obtain rfl : live = [4, 5] := Option.some.inj (hl.symm.trans (by kernel_rfl : cutOf 32 4 PE.cuts = some [4, 5]))
  refine ⟨fnok32, ?_⟩; unfold D32_4 at h; split at h
  · exact Hold.mp (by kernel_rfl) h.out
  · exact h.elim
theorem D74_1_z (nb : Nat) (vals : List (A PU)) (objs : List (AObj PU)) (K : A PU → List (AObj PU) → Prop) : ¬ D74_1 0 nb vals objs K := by
  intro h; unfold D74_1 at h; split at h <;> (first | exact h | exact h.out)
theorem D74_1_ok (k : Nat) (live : List Nat) (hl : cutOf 74 1 PE.cuts = some live) (nb : Nat) (vals : List (A PU)) (objs : List (AObj PU)) (K : A PU → List (AObj PU) → Prop) (h : D74_1 (k + 1) nb vals objs K) : fnOk PE.P 74 = true ∧ Hold (vcut PE (PT k) (PC k) 74 1 live nb vals objs K) := by
  obtain rfl : live = [0, 1, 3] := Option.some.inj (hl.symm.trans (by kernel_rfl : cutOf 74 1 PE.cuts = some [0, 1, 3]))
  refine ⟨fnok74, ?_⟩; unfold D74_1 at h; split at h
  · exact Hold.mp (by kernel_rfl) h.out
  · exact Hold.mp (by kernel_rfl) h.out
  · exact Hold.mp (by kernel_rfl) h.out
  · exact Hold.mp (by kernel_rfl) h.out
  · exact h.elim
theorem D74_3_z (nb : Nat) (vals : List (A PU)) (objs : List (AObj PU)) (K : A PU → List (AObj PU) → Prop) : ¬ D74_3 0 nb vals objs K := by
  intro h; unfold D74_3 at h; split at h <;> (first | exact h | exact h.out)
theorem D74_3_ok (k : Nat) (live : List Nat) (hl : cutOf 74 3 PE.cuts = some live) (nb : Nat) (vals : List (A PU)) (objs : List (AObj PU)) (K : A PU → List (AObj PU) → Prop) (h : D74_3 (k + 1) nb vals objs K) : fnOk PE.P 74 = true ∧ Hold (vcut PE (PT k) (PC k) 74 3 live nb vals objs K) := by
  obtain rfl : live = [0, 1, 3] := Option.some.inj (hl.symm.trans (by kernel_rfl : cutOf 74 3 PE.cuts = some [0, 1, 3]))
  refine ⟨fnok74, ?_⟩; unfold D74_3 at h; split at h
  · exact Hold.mp (by kernel_rfl) h.out
  · exact Hold.mp (by kernel_rfl) h.out
  · exact Hold.mp (by kernel_rfl) h.out
  · exact Hold.mp (by kernel_rfl) h.out
  · exact h.elim
theorem D29_1_z (nb : Nat) (vals : List (A PU)) (objs : List (AObj PU)) (K : A PU → List (AObj PU) → Prop) : ¬ D29_1 0 nb vals objs K := by
  intro h; unfold D29_1 at h; split at h <;> (first | exact h | exact h.out)
theorem D29_1_ok (k : Nat) (live : List Nat) (hl : cutOf 29 1 PE.cuts = some live) (nb : Nat) (vals : List (A PU)) (objs : List (AObj PU)) (K : A PU → List (AObj PU) → Prop) (h : D29_1 (k + 1) nb vals objs K) : fnOk PE.P 29 = true ∧ Hold (vcut PE (PT k) (PC k) 29 1 live nb vals objs K) := by
  obtain rfl : live = [0, 2, 3] := Option.some.inj (hl.symm.trans (by kernel_rfl : cutOf 29 1 PE.cuts = some [0, 2, 3]))
  refine ⟨fnok29, ?_⟩; unfold D29_1 at h; split at h
  · exact Hold.mp (by kernel_rfl) h.out
  · exact h.elim
theorem D30_4_z (nb : Nat) (vals : List (A PU)) (objs : List (AObj PU)) (K : A PU → List (AObj PU) → Prop) : ¬ D30_4 0 nb vals objs K := by
  intro h; unfold D30_4 at h; split at h <;> (first | exact h | exact h.out)
theorem D30_4_ok (k : Nat) (live : List Nat) (hl : cutOf 30 4 PE.cuts = some live) (nb : Nat) (vals : List (A PU)) (objs : List (AObj PU)) (K : A PU → List (AObj PU) → Prop) (h : D30_4 (k + 1) nb vals objs K) : fnOk PE.P 30 = true ∧ Hold (vcut PE (PT k) (PC k) 30 4 live nb vals objs K) := by
  obtain rfl : live = [0, 1, 12, 13] := Option.some.inj (hl.symm.trans (by kernel_rfl : cutOf 30 4 PE.cuts = some [0, 1, 12, 13]))
  refine ⟨fnok30, ?_⟩; unfold D30_4 at h; split at h
  · exact Hold.mp (by kernel_rfl) h.out
  · exact h.elim
theorem D13_14_z (nb : Nat) (vals : List (A PU)) (objs : List (AObj PU)) (K : A PU → List (AObj PU) → Prop) : ¬ D13_14 0 nb vals objs K := by
  intro h; unfold D13_14 at h; split at h <;> (first | exact h | exact h.out)
theorem D13_14_ok (k : Nat) (live : List Nat) (hl : cutOf 13 14 PE.cuts = some live) (nb : Nat) (vals : List (A PU)) (objs : List (AObj PU)) (K : A PU → List (AObj PU) → Prop) (h : D13_14 (k + 1) nb vals objs K) : fnOk PE.P 13 = true ∧ Hold (vcut PE (PT k) (PC k) 13 14 live nb vals objs K) := by
  obtain rfl : live = [21, 22, 63, 64] := Option.some.inj (hl.symm.trans (by kernel_rfl : cutOf 13 14 PE.cuts = some [21, 22, 63, 64]))
  refine ⟨fnok13, ?_⟩; unfold D13_14 at h; split at h
  · exact Hold.mp (by kernel_rfl) h.out
  · exact h.elim
theorem D45_4_z (nb : Nat) (vals : List (A PU)) (objs : List (AObj PU)) (K : A PU → List (AObj PU) → Prop) : ¬ D45_4 0 nb vals objs K := by
  intro h; unfold D45_4 at h; split at h <;> (first | exact h | exact h.out)
theorem D45_4_ok (k : Nat) (live : List Nat) (hl : cutOf 45 4 PE.cuts = some live) (nb : Nat) (vals : List (A PU)) (objs : List (AObj PU)) (K : A PU → List (AObj PU) → Prop) (h : D45_4 (k + 1) nb vals objs K) : fnOk PE.P 45 = true ∧ Hold (vcut PE (PT k) (PC k) 45 4 live nb vals objs K) := by
  obtain rfl : live = [0, 6, 7, 15, 16, 17] := Option.some.inj (hl.symm.trans (by kernel_rfl : cutOf 45 4 PE.cuts = some [0, 6, 7, 15, 16, 17]))
  refine ⟨fnok45, ?_⟩; unfold D45_4 at h; split at h
  · exact Hold.mp (by kernel_rfl) h.out
  · exact h.elim
theorem D15_4_z (nb : Nat) (vals : List (A PU)) (objs : List (AObj PU)) (K : A PU → List (AObj PU) → Prop) : ¬ D15_4 0 nb vals objs K := by
  intro h; unfold D15_4 at h; split at h <;> (first | exact h | exact h.out)
theorem D15_4_ok (k : Nat) (live : List Nat) (hl : cutOf 15 4 PE.cuts = some live) (nb : Nat) (vals : List (A PU)) (objs : List (AObj PU)) (K : A PU → List (AObj PU) → Prop) (h : D15_4 (k + 1) nb vals objs K) : fnOk PE.P 15 = true ∧ Hold (vcut PE (PT k) (PC k) 15 4 live nb vals objs K) := by
  obtain rfl : live = [1, 2, 3, 4, 5] := Option.some.inj (hl.symm.trans (by kernel_rfl : cutOf 15 4 PE.cuts = some [1, 2, 3, 4, 5]))
  refine ⟨fnok15, ?_⟩; unfold D15_4 at h; split at h
  · exact Hold.mp (by kernel_rfl) h.out
  · exact Hold.mp (by kernel_rfl) h.out
  · exact h.elim
theorem D15_5_z (nb : Nat) (vals : List (A PU)) (objs : List (AObj PU)) (K : A PU → List (AObj PU) → Prop) : ¬ D15_5 0 nb vals objs K := by
  intro h; unfold D15_5 at h; split at h <;> (first | exact h | exact h.out)
theorem D15_5_ok (k : Nat) (live : List Nat) (hl : cutOf 15 5 PE.cuts = some live) (nb : Nat) (vals : List (A PU)) (objs : List (AObj PU)) (K : A PU → List (AObj PU) → Prop) (h : D15_5 (k + 1) nb vals objs K) : fnOk PE.P 15 = true ∧ Hold (vcut PE (PT k) (PC k) 15 5 live nb vals objs K) := by
  obtain rfl : live = [1, 2, 3, 4, 5, 8] := Option.some.inj (hl.symm.trans (by kernel_rfl : cutOf 15 5 PE.cuts = some [1, 2, 3, 4, 5, 8]))
  refine ⟨fnok15, ?_⟩; unfold D15_5 at h; split at h
  · exact Hold.mp (by kernel_rfl) h.out
  · exact Hold.mp (by kernel_rfl) h.out
  · exact h.elim
theorem D15_6_z (nb : Nat) (vals : List (A PU)) (objs : List (AObj PU)) (K : A PU → List (AObj PU) → Prop) : ¬ D15_6 0 nb vals objs K := by
  intro h; unfold D15_6 at h; split at h <;> (first | exact h | exact h.out)
theorem D15_6_ok (k : Nat) (live : List Nat) (hl : cutOf 15 6 PE.cuts = some live) (nb : Nat) (vals : List (A PU)) (objs : List (AObj PU)) (K : A PU → List (AObj PU) → Prop) (h : D15_6 (k + 1) nb vals objs K) : fnOk PE.P 15 = true ∧ Hold (vcut PE (PT k) (PC k) 15 6 live nb vals objs K) := by
  obtain rfl : live = [3, 4, 5, 8, 11] := Option.some.inj (hl.symm.trans (by kernel_rfl : cutOf 15 6 PE.cuts = some [3, 4, 5, 8, 11]))
  refine ⟨fnok15, ?_⟩; unfold D15_6 at h; split at h
  · exact Hold.mp (by kernel_rfl) h.out
  · exact Hold.mp (by kernel_rfl) h.out
  · exact h.elim
theorem D5_4_z (nb : Nat) (vals : List (A PU)) (objs : List (AObj PU)) (K : A PU → List (AObj PU) → Prop) : ¬ D5_4 0 nb vals objs K := by
  intro h; unfold D5_4 at h; split at h <;> (first | exact h | exact h.out)
theorem D5_4_ok (k : Nat) (live : List Nat) (hl : cutOf 5 4 PE.cuts = some live) (nb : Nat) (vals : List (A PU)) (objs : List (AObj PU)) (K : A PU → List (AObj PU) → Prop) (h : D5_4 (k + 1) nb vals objs K) : fnOk PE.P 5 = true ∧ Hold (vcut PE (PT k) (PC k) 5 4 live nb vals objs K) := by
  obtain rfl : live = [0, 8, 9, 10, 11, 12, 13, 15, 16, 17] := Option.some.inj (hl.symm.trans (by kernel_rfl : cutOf 5 4 PE.cuts = some [0, 8, 9, 10, 11, 12, 13, 15, 16, 17]))
  refine ⟨fnok5, ?_⟩; unfold D5_4 at h; split at h
  · exact Hold.mp (by kernel_rfl) h.out
  · exact Hold.mp (by kernel_rfl) h.out
  · exact h.elim
theorem D5_5_z (nb : Nat) (vals : List (A PU)) (objs : List (AObj PU)) (K : A PU → List (AObj PU) → Prop) : ¬ D5_5 0 nb vals objs K := by
  intro h; unfold D5_5 at h; split at h <;> (first | exact h | exact h.out)
theorem D5_5_ok (k : Nat) (live : List Nat) (hl : cutOf 5 5 PE.cuts = some live) (nb : Nat) (vals : List (A PU)) (objs : List (AObj PU)) (K : A PU → List (AObj PU) → Prop) (h : D5_5 (k + 1) nb vals objs K) : fnOk PE.P 5 = true ∧ Hold (vcut PE (PT k) (PC k) 5 5 live nb vals objs K) := by
  obtain rfl : live = [15, 16, 17] := Option.some.inj (hl.symm.trans (by kernel_rfl : cutOf 5 5 PE.cuts = some [15, 16, 17]))
  refine ⟨fnok5, ?_⟩; unfold D5_5 at h; split at h
  · exact Hold.mp (by kernel_rfl) h.out
  · exact Hold.mp (by kernel_rfl) h.out
  · exact h.elim
theorem D5_6_z (nb : Nat) (vals : List (A PU)) (objs : List (AObj PU)) (K : A PU → List (AObj PU) → Prop) : ¬ D5_6 0 nb vals objs K := by
  intro h; unfold D5_6 at h; split at h <;> (first | exact h | exact h.out)
theorem D5_6_ok (k : Nat) (live : List Nat) (hl : cutOf 5 6 PE.cuts = some live) (nb : Nat) (vals : List (A PU)) (objs : List (AObj PU)) (K : A PU → List (AObj PU) → Prop) (h : D5_6 (k + 1) nb vals objs K) : fnOk PE.P 5 = true ∧ Hold (vcut PE (PT k) (PC k) 5 6 live nb vals objs K) := by
  obtain rfl : live = [0, 15, 16, 17] := Option.some.inj (hl.symm.trans (by kernel_rfl : cutOf 5 6 PE.cuts = some [0, 15, 16, 17]))
  refine ⟨fnok5, ?_⟩; unfold D5_6 at h; split at h
  · exact Hold.mp (by kernel_rfl) h.out
  · exact Hold.mp (by kernel_rfl) h.out
  · exact h.elim
theorem D5_7_z (nb : Nat) (vals : List (A PU)) (objs : List (AObj PU)) (K : A PU → List (AObj PU) → Prop) : ¬ D5_7 0 nb vals objs K := by
  intro h; unfold D5_7 at h; split at h <;> (first | exact h | exact h.out)
theorem D5_7_ok (k : Nat) (live : List Nat) (hl : cutOf 5 7 PE.cuts = some live) (nb : Nat) (vals : List (A PU)) (objs : List (AObj PU)) (K : A PU → List (AObj PU) → Prop) (h : D5_7 (k + 1) nb vals objs K) : fnOk PE.P 5 = true ∧ Hold (vcut PE (PT k) (PC k) 5 7 live nb vals objs K) := by
  obtain rfl : live = [0, 15, 16, 17, 18, 19] := Option.some.inj (hl.symm.trans (by kernel_rfl : cutOf 5 7 PE.cuts = some [0, 15, 16, 17, 18, 19]))
  refine ⟨fnok5, ?_⟩; unfold D5_7 at h; split at h
  · exact Hold.mp (by kernel_rfl) h.out
  · exact Hold.mp (by kernel_rfl) h.out
  · exact h.elim
theorem D5_8_z (nb : Nat) (vals : List (A PU)) (objs : List (AObj PU)) (K : A PU → List (AObj PU) → Prop) : ¬ D5_8 0 nb vals objs K := by
  intro h; unfold D5_8 at h; split at h <;> (first | exact h | exact h.out)
theorem D5_8_ok (k : Nat) (live : List Nat) (hl : cutOf 5 8 PE.cuts = some live) (nb : Nat) (vals : List (A PU)) (objs : List (AObj PU)) (K : A PU → List (AObj PU) → Prop) (h : D5_8 (k + 1) nb vals objs K) : fnOk PE.P 5 = true ∧ Hold (vcut PE (PT k) (PC k) 5 8 live nb vals objs K) := by
  obtain rfl : live = [15, 16, 17, 18, 19, 20, 21] := Option.some.inj (hl.symm.trans (by kernel_rfl : cutOf 5 8 PE.cuts = some [15, 16, 17, 18, 19, 20, 21]))
  refine ⟨fnok5, ?_⟩; unfold D5_8 at h; split at h
  · exact Hold.mp (by kernel_rfl) h.out
  · exact Hold.mp (by kernel_rfl) h.out
  · exact h.elim
theorem PSound (k : Nat) : TSound PE (PT k) ∧ CSound PE (PC k) :=
  tablesL PEok (by kernel_rfl) PTr PCr
    (List.forall_mem_cons.2 ⟨T64_z, List.forall_mem_cons.2 ⟨T40_z, List.forall_mem_cons.2 ⟨T19_z, List.forall_mem_cons.2 ⟨T44_z, List.forall_mem_cons.2 ⟨T28_z, List.forall_mem_cons.2 ⟨T56_z, List.forall_mem_cons.2 ⟨T54_z, List.forall_mem_cons.2 ⟨T55_z, List.forall_mem_cons.2 ⟨T31_z, List.forall_mem_cons.2 ⟨T57_z, List.forall_mem_cons.2 ⟨T85_z, List.forall_mem_cons.2 ⟨T75_z, List.forall_mem_cons.2 ⟨T58_z, List.forall_mem_cons.2 ⟨T59_z, List.forall_mem_cons.2 ⟨T33_z, List.forall_mem_cons.2 ⟨T32_z, List.forall_mem_cons.2 ⟨T16_z, List.forall_mem_cons.2 ⟨T21y7_z, List.forall_mem_cons.2 ⟨T76_z, List.forall_mem_cons.2 ⟨T60_z, List.forall_mem_cons.2 ⟨T35_z, List.forall_mem_cons.2 ⟨T53y3_z, List.forall_mem_cons.2 ⟨T74_z, List.forall_mem_cons.2 ⟨T53_z, List.forall_mem_cons.2 ⟨T21_z, List.forall_mem_cons.2 ⟨T52y2_z, List.forall_mem_cons.2 ⟨T52_z, List.forall_mem_cons.2 ⟨T27_z, List.forall_mem_cons.2 ⟨T29_z, List.forall_mem_cons.2 ⟨T30_z, List.forall_mem_cons.2 ⟨T13_z, List.forall_mem_cons.2 ⟨T9_z, List.forall_mem_cons.2 ⟨T45_z, List.forall_mem_cons.2 ⟨T22_z, List.forall_mem_cons.2 ⟨T10_z, List.forall_mem_cons.2 ⟨T15_z, List.forall_mem_cons.2 ⟨T5_z, (fun _ h => nomatch h)⟩⟩⟩⟩⟩⟩⟩⟩⟩⟩⟩⟩⟩⟩⟩⟩⟩⟩⟩⟩⟩⟩⟩⟩⟩⟩⟩⟩⟩⟩⟩⟩⟩⟩⟩⟩⟩)
    (List.forall_mem_cons.2 ⟨D19_2_z, List.forall_mem_cons.2 ⟨D44_4_z, List.forall_mem_cons.2 ⟨D56_3_z, List.forall_mem_cons.2 ⟨D75_2_z, List.forall_mem_cons.2 ⟨D75_11_z, List.forall_mem_cons.2 ⟨D75_14_z, List.forall_mem_cons.2 ⟨D75_23_z, List.forall_mem_cons.2 ⟨D58_3_z, List.forall_mem_cons.2 ⟨D59_9_z, List.forall_mem_cons.2 ⟨D59_15_z, List.forall_mem_cons.2 ⟨D32_4_z, List.forall_mem_cons.2 ⟨D74_1_z, List.forall_mem_cons.2 ⟨D74_3_z, List.forall_mem_cons.2 ⟨D29_1_z, List.forall_mem_cons.2 ⟨D30_4_z, List.forall_mem_cons.2 ⟨D13_14_z, List.forall_mem_cons.2 ⟨D45_4_z, List.forall_mem_cons.2 ⟨D15_4_z, List.forall_mem_cons.2 ⟨D15_5_z, List.forall_mem_cons.2 ⟨D15_6_z, List.forall_mem_cons.2 ⟨D5_4_z, List.forall_mem_cons.2 ⟨D5_5_z, List.forall_mem_cons.2 ⟨D5_6_z, List.forall_mem_cons.2 ⟨D5_7_z, List.forall_mem_cons.2 ⟨D5_8_z, (fun _ h => nomatch h)⟩⟩⟩⟩⟩⟩⟩⟩⟩⟩⟩⟩⟩⟩⟩⟩⟩⟩⟩⟩⟩⟩⟩⟩⟩)
    (fun k => List.forall_mem_cons.2 ⟨T64_ok k, List.forall_mem_cons.2 ⟨T40_ok k, List.forall_mem_cons.2 ⟨T19_ok k, List.forall_mem_cons.2 ⟨T44_ok k, List.forall_mem_cons.2 ⟨T28_ok k, List.forall_mem_cons.2 ⟨T56_ok k, List.forall_mem_cons.2 ⟨T54_ok k, List.forall_mem_cons.2 ⟨T55_ok k, List.forall_mem_cons.2 ⟨T31_ok k, List.forall_mem_cons.2 ⟨T57_ok k, List.forall_mem_cons.2 ⟨T85_ok k, List.forall_mem_cons.2 ⟨T75_ok k, List.forall_mem_cons.2 ⟨T58_ok k, List.forall_mem_cons.2 ⟨T59_ok k, List.forall_mem_cons.2 ⟨T33_ok k, List.forall_mem_cons.2 ⟨T32_ok k, List.forall_mem_cons.2 ⟨T16_ok k, List.forall_mem_cons.2 ⟨T21y7_ok k, List.forall_mem_cons.2 ⟨T76_ok k, List.forall_mem_cons.2 ⟨T60_ok k, List.forall_mem_cons.2 ⟨T35_ok k, List.forall_mem_cons.2 ⟨T53y3_ok k, List.forall_mem_cons.2 ⟨T74_ok k, List.forall_mem_cons.2 ⟨T53_ok k, List.forall_mem_cons.2 ⟨T21_ok k, List.forall_mem_cons.2 ⟨T52y2_ok k, List.forall_mem_cons.2 ⟨T52_ok k, List.forall_mem_cons.2 ⟨T27_ok k, List.forall_mem_cons.2 ⟨T29_ok k, List.forall_mem_cons.2 ⟨T30_ok k, List.forall_mem_cons.2 ⟨T13_ok k, List.forall_mem_cons.2 ⟨T9_ok k, List.forall_mem_cons.2 ⟨T45_ok k, List.forall_mem_cons.2 ⟨T22_ok k, List.forall_mem_cons.2 ⟨T10_ok k, List.forall_mem_cons.2 ⟨T15_ok k, List.forall_mem_cons.2 ⟨T5_ok k, (fun _ h => nomatch h)⟩⟩⟩⟩⟩⟩⟩⟩⟩⟩⟩⟩⟩⟩⟩⟩⟩⟩⟩⟩⟩⟩⟩⟩⟩⟩⟩⟩⟩⟩⟩⟩⟩⟩⟩⟩⟩)
    (fun k => List.forall_mem_cons.2 ⟨D19_2_ok k, List.forall_mem_cons.2 ⟨D44_4_ok k, List.forall_mem_cons.2 ⟨D56_3_ok k, List.forall_mem_cons.2 ⟨D75_2_ok k, List.forall_mem_cons.2 ⟨D75_11_ok k, List.forall_mem_cons.2 ⟨D75_14_ok k, List.forall_mem_cons.2 ⟨D75_23_ok k, List.forall_mem_cons.2 ⟨D58_3_ok k, List.forall_mem_cons.2 ⟨D59_9_ok k, List.forall_mem_cons.2 ⟨D59_15_ok k, List.forall_mem_cons.2 ⟨D32_4_ok k, List.forall_mem_cons.2 ⟨D74_1_ok k, List.forall_mem_cons.2 ⟨D74_3_ok k, List.forall_mem_cons.2 ⟨D29_1_ok k, List.forall_mem_cons.2 ⟨D30_4_ok k, List.forall_mem_cons.2 ⟨D13_14_ok k, List.forall_mem_cons.2 ⟨D45_4_ok k, List.forall_mem_cons.2 ⟨D15_4_ok k, List.forall_mem_cons.2 ⟨D15_5_ok k, List.forall_mem_cons.2 ⟨D15_6_ok k, List.forall_mem_cons.2 ⟨D5_4_ok k, List.forall_mem_cons.2 ⟨D5_5_ok k, List.forall_mem_cons.2 ⟨D5_6_ok k, List.forall_mem_cons.2 ⟨D5_7_ok k, List.forall_mem_cons.2 ⟨D5_8_ok k, (fun _ h => nomatch h)⟩⟩⟩⟩⟩⟩⟩⟩⟩⟩⟩⟩⟩⟩⟩⟩⟩⟩⟩⟩⟩⟩⟩⟩⟩) k
end Go.V
