import Derived.Test.YtepdmpjmlfeanaaVC06E
set_option linter.unusedVariables false
namespace Go.V
open Go
def T5 (k : Nat) : Fn PU := fun args boxes K => match args, boxes with
  | [.agg [.ro false 24 r1, .bool r2, .arr 5 32 r3, .arr 5 32 r4]], [] => Hold (F_r06_Own k r1 r2 r3 r4 (fun z0 z1 z2 z3 => K (.agg [.usl 24 z0, .bool z1, .arr 5 32 z2, .arr 5 32 z3]) []))
  | _, _ => False
def T12 (k : Nat) : Fn PU := fun args boxes K => match args, boxes with
  | [.int .u8 r1, .ro true 24 r2], [] => Hold (F_proof_bytes k r1 r2 (fun z0 => K (.usl 5 z0) []))
  | _, _ => False
def T23 (k : Nat) : Fn PU := fun args boxes K => match args, boxes with
  | [.int .i64 r1], [] => Hold (F_octet_groups k r1 (fun z0 => K (.clo 25 [.ptr 0 []]) [.box (.int .i64 z0)]))
  | _, _ => False
def T13y5 (k : Nat) : Fn PU := fun args boxes K => match args, boxes with
  | [.int .u8 r1, .ptr 0 []], [.box (.clip true 5 r2)] => Hold (F_octet_PutCount_y5 k r1 r2 (fun z0 => K (.clo 0 []) [.box (.own 1), .lst 5 z0]))
  | [.int .u8 r1, .ptr 0 []], [.box (.own 1), .lst 5 r2] => Hold (F_octet_PutCount_y5_s1 k r1 r2 (fun z0 => K (.clo 0 []) [.box (.own 2), .dead, .lst 5 z0]))
  | _, _ => False
def T25 (k : Nat) : Fn PU := fun args boxes K => match args, boxes with
  | [.yld 0, .ptr 1 []], [.lp 13 5 [6] [.ptr 2 []] 0, .box (.int .i64 r1), .box (.clip true 5 r2)] => Hold (F_octet_groups_1 k r1 r2 (fun z0 z1 => K (.tup []) [.lp 13 5 [6] [.ptr 2 []] 0, .box (.int .i64 z0), .box (.own 3), .lst 5 z1]))
  | _, _ => False
def T13 (k : Nat) : Fn PU := fun args boxes K => match args, boxes with
  | [.ro true 5 r1, .int .i64 r2], [] => Hold (F_octet_PutCount k r1 r2 (fun z0 z1 => K (.tup [.usl 5 z0, .int .i64 z1]) []))
  | _, _ => False
def T14 (k : Nat) : Fn PU := fun args boxes K => match args, boxes with
  | [.ro true 5 r1, .arr 5 32 r2], [] => Hold (F_octet_PutDigest k r1 r2 (fun z0 => K (.usl 5 z0) []))
  | _, _ => False
def T6 (k : Nat) : Fn PU := fun args boxes K => match args, boxes with
  | [.agg [.ro false 24 r1, .bool r2, .arr 5 32 r3, .arr 5 32 r4]], [] => Hold (F_proof_Put k r1 r2 r3 r4 (fun z0 z1 => K (.tup [.usl 5 z0, .int .i64 z1]) []))
  | [.agg [.ro true 24 r1, .bool r2, .arr 5 32 r3, .arr 5 32 r4]], [] => Hold (F_proof_Put k r1 r2 r3 r4 (fun z0 z1 => K (.tup [.usl 5 z0, .int .i64 z1]) []))
  | _, _ => False
def T15 (k : Nat) : Fn PU := fun args boxes K => match args, boxes with
  | [.agg [.ro true 24 r1, .bool r2, .arr 5 32 r3, .arr 5 32 r4]], [] => Hold (F_r06_plain k r1 r2 r3 r4 (fun z0 => K (.bool z0) []))
  | _, _ => False
def T16 (k : Nat) : Fn PU := fun args boxes K => match args, boxes with
  | [.int .i64 r1], [] => Hold (F_r01_Groups k r1 (fun z0 => K (.usl 5 z0) []))
  | _, _ => False
def T7 (k : Nat) : Fn PU := fun args boxes K => match args, boxes with
  | [.agg [.ro true 24 r1, .bool r2, .arr 5 32 r3, .arr 5 32 r4]], [] => Hold (F_r06_Put k r1 r2 r3 r4 (fun z0 z1 => K (.tup [.usl 5 z0, .int .i64 z1]) []))
  | _, _ => False
def T8 (k : Nat) : Fn PU := fun args boxes K => match args, boxes with
  | [.agg [.ro false 24 r1, .bool r2, .arr 5 32 r3, .arr 5 32 r4], .agg [.ro true 24 r5, .bool r6, .arr 5 32 r7, .arr 5 32 r8]], [] => Hold (F_r06_Same k r1 r2 r3 r4 r5 r6 r7 r8 (fun z0 => K (.bool z0) []))
  | [.agg [.ro true 24 r1, .bool r2, .arr 5 32 r3, .arr 5 32 r4], .agg [.ro true 24 r5, .bool r6, .arr 5 32 r7, .arr 5 32 r8]], [] => Hold (F_r06_Same k r1 r2 r3 r4 r5 r6 r7 r8 (fun z0 => K (.bool z0) []))
  | _, _ => False
def T17 (k : Nat) : Fn PU := fun args boxes K => match args, boxes with
  | [.ro true 5 r1], [] => Hold (F_octet_New k r1 (fun z0 => K (.ptr 0 []) [.box (.agg [.ro true 5 z0])]))
  | [.ro false 5 r1], [] => Hold (F_octet_New k r1 (fun z0 => K (.ptr 0 []) [.box (.agg [.ro false 5 z0])]))
  | _, _ => False
def T18 (k : Nat) : Fn PU := fun args boxes K => match args, boxes with
  | [.ptr 0 []], [.box (.agg [.ro true 5 r1])] => Hold (F_octet_Reader_Digest k r1 (fun z0 z1 z2 => K (.tup [.arr 5 32 z0, .int .i64 z1]) [.box (.agg [.ro true 5 z2])]))
  | [.ptr 0 []], [.box (.agg [.ro false 5 r1])] => Hold (F_octet_Reader_Digest k r1 (fun z0 z1 z2 => K (.tup [.arr 5 32 z0, .int .i64 z1]) [.box (.agg [.ro false 5 z2])]))
  | _, _ => False
def T24 (k : Nat) : Fn PU := fun args boxes K => match args, boxes with
  | [.ptr 0 []], [.box (.agg [.ro true 5 r1])] => Hold (F_octet_Reader_peek k r1 (fun z0 z1 z2 z3 => K (.tup [.int .i64 z0, .int .i64 z1, .int .i64 z2]) [.box (.agg [.ro true 5 z3])]))
  | [.ptr 0 []], [.box (.agg [.ro false 5 r1])] => Hold (F_octet_Reader_peek k r1 (fun z0 z1 z2 z3 => K (.tup [.int .i64 z0, .int .i64 z1, .int .i64 z2]) [.box (.agg [.ro false 5 z3])]))
  | _, _ => False
def T19 (k : Nat) : Fn PU := fun args boxes K => match args, boxes with
  | [.ptr 0 []], [.box (.agg [.ro true 5 r1])] => Hold (F_octet_Reader_Count k r1 (fun z0 z1 z2 => K (.tup [.int .i64 z0, .int .i64 z1]) [.box (.agg [.ro true 5 z2])]))
  | [.ptr 0 []], [.box (.agg [.ro false 5 r1])] => Hold (F_octet_Reader_Count k r1 (fun z0 z1 z2 => K (.tup [.int .i64 z0, .int .i64 z1]) [.box (.agg [.ro false 5 z2])]))
  | _, _ => False
def T20 (k : Nat) : Fn PU := fun args boxes K => match args, boxes with
  | [.ptr 0 []], [.box (.agg [.ro true 5 r1])] => Hold (F_octet_Reader_Left k r1 (fun z0 z1 => K (.int .i64 z0) [.box (.agg [.ro true 5 z1])]))
  | [.ptr 0 []], [.box (.agg [.ro false 5 r1])] => Hold (F_octet_Reader_Left k r1 (fun z0 z1 => K (.int .i64 z0) [.box (.agg [.ro false 5 z1])]))
  | _, _ => False
def T10 (k : Nat) : Fn PU := fun args boxes K => match args, boxes with
  | [.ro true 5 r1], [] => Hold (F_proof_Get k r1 (fun z0 z1 z2 z3 z4 => K (.tup [.agg [.usl 24 z0, .bool z1, .arr 5 32 z2, .arr 5 32 z3], .int .i64 z4]) []))
  | [.ro false 5 r1], [] => Hold (F_proof_Get k r1 (fun z0 z1 z2 z3 z4 => K (.tup [.agg [.usl 24 z0, .bool z1, .arr 5 32 z2, .arr 5 32 z3], .int .i64 z4]) []))
  | _, _ => False
def T9 (k : Nat) : Fn PU := fun args boxes K => match args, boxes with
  | [], [] => Hold (F_l06_puts k (fun z0 => K (.bool z0) []))
  | _, _ => False
def T3 (k : Nat) : Fn PU := fun args boxes K => match args, boxes with
  | [.agg [.ro false 24 r1, .bool r2, .arr 5 32 r3, .arr 5 32 r4]], [] => Hold (F_l06_ProofPuts k r1 r2 r3 r4 (fun z0 => K (.bool z0) []))
  | _, _ => False
def T21 (k : Nat) : Fn PU := fun args boxes K => match args, boxes with
  | [.ro false 5 r1], [] => Hold (F_r01_ReadDigest k r1 (fun z0 z1 z2 => K (.tup [.arr 5 32 z0, .int .i64 z1, .int .i64 z2]) []))
  | _, _ => False
def T22 (k : Nat) : Fn PU := fun args boxes K => match args, boxes with
  | [.ro false 5 r1], [] => Hold (F_r01_ReadCount k r1 (fun z0 z1 z2 => K (.tup [.int .i64 z0, .int .i64 z1, .int .i64 z2]) []))
  | _, _ => False
def T11 (k : Nat) : Fn PU := fun args boxes K => match args, boxes with
  | [.ro false 5 r1], [] => Hold (F_r06_Get k r1 (fun z0 z1 z2 z3 z4 => K (.tup [.agg [.usl 24 z0, .bool z1, .arr 5 32 z2, .arr 5 32 z3], .int .i64 z4]) []))
  | _, _ => False
def T4 (k : Nat) : Fn PU := fun args boxes K => match args, boxes with
  | [.ro false 5 r1], [] => Hold (F_l06_ProofGets k r1 (fun z0 => K (.bool z0) []))
  | _, _ => False
def D12_3 (k : Nat) : Nat → List (A PU) → List (AObj PU) → (A PU → List (AObj PU) → Prop) → Prop := fun nb vals objs K => match nb, vals, objs with
  | 0, [.own 0, .ro true 24 r3, .int .i64 r4, .int .i64 r5], [.lst 5 r6] => Hold (C_proof_bytes_3 k r3 r4 r5 r6 (fun z0 => K (.usl 5 z0) []))
  | _, _, _ => False
def D25_0 (k : Nat) : Nat → List (A PU) → List (AObj PU) → (A PU → List (AObj PU) → Prop) → Prop := fun nb vals objs K => match nb, vals, objs with
  | 3, [.yld 0, .ptr 1 []], [.lp 13 5 [6] [.ptr 2 []] 0, .box (.int .i64 r3), .box (.clip true 5 r4)] => Hold (C_octet_groups_1_0 k r3 r4 (fun z0 z1 => K (.tup []) [.lp 13 5 [6] [.ptr 2 []] 0, .box (.int .i64 z0), .box (.own 3), .lst 5 z1]))
  | 3, [.yld 0, .ptr 1 []], [.lp 13 5 [6] [.ptr 2 []] 0, .box (.int .i64 r8), .box (.own 3), .lst 5 r9] => Hold (C_octet_groups_1_0_1 k r8 r9 (fun z0 z1 => K (.tup []) [.lp 13 5 [6] [.ptr 2 []] 0, .box (.int .i64 z0), .box (.own 3), .lst 5 z1]))
  | _, _, _ => False
def D25_1 (k : Nat) : Nat → List (A PU) → List (AObj PU) → (A PU → List (AObj PU) → Prop) → Prop := fun nb vals objs K => match nb, vals, objs with
  | 3, [.yld 0, .ptr 1 []], [.lp 13 5 [6] [.ptr 2 []] 0, .box (.int .i64 r5), .box (.clip true 5 r6)] => Hold (C_octet_groups_1_1 k r5 r6 (fun z0 z1 => K (.tup []) [.lp 13 5 [6] [.ptr 2 []] 0, .box (.int .i64 z0), .box (.own 3), .lst 5 z1]))
  | 3, [.yld 0, .ptr 1 []], [.lp 13 5 [6] [.ptr 2 []] 0, .box (.int .i64 r10), .box (.own 3), .lst 5 r11] => Hold (C_octet_groups_1_1_1 k r10 r11 (fun z0 z1 => K (.tup []) [.lp 13 5 [6] [.ptr 2 []] 0, .box (.int .i64 z0), .box (.own 3), .lst 5 z1]))
  | _, _, _ => False
def D6_2 (k : Nat) : Nat → List (A PU) → List (AObj PU) → (A PU → List (AObj PU) → Prop) → Prop := fun nb vals objs K => match nb, vals, objs with
  | 0, [.ptr 0 [], .bool r5], [.box (.agg [.ro false 24 r6, .bool r7, .arr 5 32 r8, .arr 5 32 r9])] => Hold (C_proof_Put_2 k r5 r6 r7 r8 r9 (fun z0 z1 => K (.tup [.usl 5 z0, .int .i64 z1]) []))
  | 0, [.ptr 0 [], .bool r5], [.box (.agg [.ro true 24 r6, .bool r7, .arr 5 32 r8, .arr 5 32 r9])] => Hold (C_proof_Put_2 k r5 r6 r7 r8 r9 (fun z0 z1 => K (.tup [.usl 5 z0, .int .i64 z1]) []))
  | _, _, _ => False
def D6_7 (k : Nat) : Nat → List (A PU) → List (AObj PU) → (A PU → List (AObj PU) → Prop) → Prop := fun nb vals objs K => match nb, vals, objs with
  | 0, [.ptr 0 [], .own 1], [.box (.agg [.ro false 24 r11, .bool r12, .arr 5 32 r13, .arr 5 32 r14]), .lst 5 r15] => Hold (C_proof_Put_7 k r11 r12 r13 r14 r15 (fun z0 z1 => K (.tup [.usl 5 z0, .int .i64 z1]) []))
  | 0, [.ptr 0 [], .own 1], [.box (.agg [.ro true 24 r11, .bool r12, .arr 5 32 r13, .arr 5 32 r14]), .lst 5 r15] => Hold (C_proof_Put_7 k r11 r12 r13 r14 r15 (fun z0 z1 => K (.tup [.usl 5 z0, .int .i64 z1]) []))
  | _, _, _ => False
def D6_9 (k : Nat) : Nat → List (A PU) → List (AObj PU) → (A PU → List (AObj PU) → Prop) → Prop := fun nb vals objs K => match nb, vals, objs with
  | 0, [.own 0, .ro false 24 r18, .int .i64 r19, .int .i64 r20], [.lst 5 r21] => Hold (C_proof_Put_9 k r18 r19 r20 r21 (fun z0 z1 => K (.tup [.usl 5 z0, .int .i64 z1]) []))
  | 0, [.own 0, .ro true 24 r18, .int .i64 r19, .int .i64 r20], [.lst 5 r21] => Hold (C_proof_Put_9 k r18 r19 r20 r21 (fun z0 z1 => K (.tup [.usl 5 z0, .int .i64 z1]) []))
  | _, _, _ => False
def D7_8 (k : Nat) : Nat → List (A PU) → List (AObj PU) → (A PU → List (AObj PU) → Prop) → Prop := fun nb vals objs K => match nb, vals, objs with
  | 0, [.ptr 0 [], .own 1], [.box (.agg [.ro true 24 r6, .bool r7, .arr 5 32 r8, .arr 5 32 r9]), .lst 5 r10] => Hold (C_r06_Put_8 k r6 r7 r8 r9 r10 (fun z0 z1 => K (.tup [.usl 5 z0, .int .i64 z1]) []))
  | _, _, _ => False
def D7_11 (k : Nat) : Nat → List (A PU) → List (AObj PU) → (A PU → List (AObj PU) → Prop) → Prop := fun nb vals objs K => match nb, vals, objs with
  | 0, [.ptr 0 [], .own 1, .int .i64 r12], [.box (.agg [.ro true 24 r13, .bool r14, .arr 5 32 r15, .arr 5 32 r16]), .lst 5 r17] => Hold (C_r06_Put_11 k r12 r13 r14 r15 r16 r17 (fun z0 z1 => K (.tup [.usl 5 z0, .int .i64 z1]) []))
  | _, _, _ => False
def D8_4 (k : Nat) : Nat → List (A PU) → List (AObj PU) → (A PU → List (AObj PU) → Prop) → Prop := fun nb vals objs K => match nb, vals, objs with
  | 0, [.ptr 0 [], .ptr 1 [], .int .i64 r9], [.box (.agg [.ro false 24 r10, .bool r11, .arr 5 32 r12, .arr 5 32 r13]), .box (.agg [.ro true 24 r14, .bool r15, .arr 5 32 r16, .arr 5 32 r17])] => Hold (C_r06_Same_4 k r9 r10 r11 r12 r13 r14 r15 r16 r17 (fun z0 => K (.bool z0) []))
  | 0, [.ptr 0 [], .ptr 1 [], .int .i64 r9], [.box (.agg [.ro true 24 r10, .bool r11, .arr 5 32 r12, .arr 5 32 r13]), .box (.agg [.ro true 24 r14, .bool r15, .arr 5 32 r16, .arr 5 32 r17])] => Hold (C_r06_Same_4 k r9 r10 r11 r12 r13 r14 r15 r16 r17 (fun z0 => K (.bool z0) []))
  | _, _, _ => False
def D24_4 (k : Nat) : Nat → List (A PU) → List (AObj PU) → (A PU → List (AObj PU) → Prop) → Prop := fun nb vals objs K => match nb, vals, objs with
  | 1, [.ptr 0 [], .int .i64 r2, .ro true 5 r3, .int .i64 r4, .int .i64 r5], [.box (.agg [.ro true 5 r6])] => Hold (C_octet_Reader_peek_4 k r2 r3 r4 r5 r6 (fun z0 z1 z2 z3 => K (.tup [.int .i64 z0, .int .i64 z1, .int .i64 z2]) [.box (.agg [.ro true 5 z3])]))
  | 1, [.ptr 0 [], .int .i64 r2, .ro false 5 r3, .int .i64 r4, .int .i64 r5], [.box (.agg [.ro false 5 r6])] => Hold (C_octet_Reader_peek_4 k r2 r3 r4 r5 r6 (fun z0 z1 z2 z3 => K (.tup [.int .i64 z0, .int .i64 z1, .int .i64 z2]) [.box (.agg [.ro false 5 z3])]))
  | _, _, _ => False
def D10_12 (k : Nat) : Nat → List (A PU) → List (AObj PU) → (A PU → List (AObj PU) → Prop) → Prop := fun nb vals objs K => match nb, vals, objs with
  | 0, [.ptr 0 [], .ptr 1 [], .ptr 2 []], [.box (.agg [.own 3, .bool r9, .arr 5 32 r10, .arr 5 32 r11]), .box (.agg [.own 4, .bool r12, .arr 5 32 r13, .arr 5 32 r14]), .box (.agg [.ro true 5 r15]), .lst 24 r16, .lst 24 r17] => Hold (C_proof_Get_12 k r9 r10 r11 r12 r13 r14 r15 r16 r17 (fun z0 z1 z2 z3 z4 => K (.tup [.agg [.usl 24 z0, .bool z1, .arr 5 32 z2, .arr 5 32 z3], .int .i64 z4]) []))
  | 0, [.ptr 0 [], .ptr 1 [], .ptr 2 []], [.box (.agg [.own 3, .bool r9, .arr 5 32 r10, .arr 5 32 r11]), .box (.agg [.own 4, .bool r12, .arr 5 32 r13, .arr 5 32 r14]), .box (.agg [.ro false 5 r15]), .lst 24 r16, .lst 24 r17] => Hold (C_proof_Get_12 k r9 r10 r11 r12 r13 r14 r15 r16 r17 (fun z0 z1 z2 z3 z4 => K (.tup [.agg [.usl 24 z0, .bool z1, .arr 5 32 z2, .arr 5 32 z3], .int .i64 z4]) []))
  | _, _, _ => False
def D10_16 (k : Nat) : Nat → List (A PU) → List (AObj PU) → (A PU → List (AObj PU) → Prop) → Prop := fun nb vals objs K => match nb, vals, objs with
  | 0, [.ptr 0 [], .ptr 1 [], .ptr 2 [], .int .i64 r23, .int .i64 r24], [.box (.agg [.own 3, .bool r25, .arr 5 32 r26, .arr 5 32 r27]), .box (.agg [.own 4, .bool r28, .arr 5 32 r29, .arr 5 32 r30]), .box (.agg [.ro true 5 r31]), .lst 24 r32, .lst 24 r33] => Hold (C_proof_Get_16 k r23 r24 r25 r26 r27 r28 r29 r30 r31 r32 r33 (fun z0 z1 z2 z3 z4 => K (.tup [.agg [.usl 24 z0, .bool z1, .arr 5 32 z2, .arr 5 32 z3], .int .i64 z4]) []))
  | 0, [.ptr 0 [], .ptr 1 [], .ptr 2 [], .int .i64 r23, .int .i64 r24], [.box (.agg [.own 3, .bool r25, .arr 5 32 r26, .arr 5 32 r27]), .box (.agg [.own 4, .bool r28, .arr 5 32 r29, .arr 5 32 r30]), .box (.agg [.ro false 5 r31]), .lst 24 r32, .lst 24 r33] => Hold (C_proof_Get_16 k r23 r24 r25 r26 r27 r28 r29 r30 r31 r32 r33 (fun z0 z1 z2 z3 z4 => K (.tup [.agg [.usl 24 z0, .bool z1, .arr 5 32 z2, .arr 5 32 z3], .int .i64 z4]) []))
  | _, _, _ => False
def D21_5 (k : Nat) : Nat → List (A PU) → List (AObj PU) → (A PU → List (AObj PU) → Prop) → Prop := fun nb vals objs K => match nb, vals, objs with
  | 0, [.ro false 5 r2, .ptr 0 [], .ptr 1 [], .int .i64 r3], [.box (.arr 5 32 r4), .box (.arr 5 32 r5)] => Hold (C_r01_ReadDigest_5 k r2 r3 r4 r5 (fun z0 z1 z2 => K (.tup [.arr 5 32 z0, .int .i64 z1, .int .i64 z2]) []))
  | _, _, _ => False
def D22_4 (k : Nat) : Nat → List (A PU) → List (AObj PU) → (A PU → List (AObj PU) → Prop) → Prop := fun nb vals objs K => match nb, vals, objs with
  | 0, [.ro false 5 r2, .int .i64 r3, .int .i64 r4, .int .i64 r5], [] => Hold (C_r01_ReadCount_4 k r2 r3 r4 r5 (fun z0 z1 z2 => K (.tup [.int .i64 z0, .int .i64 z1, .int .i64 z2]) []))
  | _, _, _ => False
def D11_15 (k : Nat) : Nat → List (A PU) → List (AObj PU) → (A PU → List (AObj PU) → Prop) → Prop := fun nb vals objs K => match nb, vals, objs with
  | 0, [.ro false 5 r8, .ptr 0 [], .ptr 1 [], .ptr 2 [], .int .i64 r9], [.box (.agg [.own 3, .bool r10, .arr 5 32 r11, .arr 5 32 r12]), .box (.agg [.own 4, .bool r13, .arr 5 32 r14, .arr 5 32 r15]), .box (.agg [.own 5, .bool r16, .arr 5 32 r17, .arr 5 32 r18]), .lst 24 r19, .lst 24 r20, .lst 24 r21] => Hold (C_r06_Get_15 k r8 r9 r10 r11 r12 r13 r14 r15 r16 r17 r18 r19 r20 r21 (fun z0 z1 z2 z3 z4 => K (.tup [.agg [.usl 24 z0, .bool z1, .arr 5 32 z2, .arr 5 32 z3], .int .i64 z4]) []))
  | _, _, _ => False
def D11_20 (k : Nat) : Nat → List (A PU) → List (AObj PU) → (A PU → List (AObj PU) → Prop) → Prop := fun nb vals objs K => match nb, vals, objs with
  | 0, [.ro false 5 r25, .ptr 0 [], .ptr 1 [], .int .i64 r26, .int .i64 r27, .int .i64 r28], [.box (.agg [.own 2, .bool r29, .arr 5 32 r30, .arr 5 32 r31]), .box (.agg [.own 3, .bool r32, .arr 5 32 r33, .arr 5 32 r34]), .lst 24 r35, .lst 24 r36] => Hold (C_r06_Get_20 k r25 r26 r27 r28 r29 r30 r31 r32 r33 r34 r35 r36 (fun z0 z1 z2 z3 z4 => K (.tup [.agg [.usl 24 z0, .bool z1, .arr 5 32 z2, .arr 5 32 z3], .int .i64 z4]) []))
  | _, _, _ => False
def PTr (k : Nat) : List (Nat × Fn PU) := [(5, T5 k), (12, T12 k), (23, T23 k), (14000005, T13y5 k), (25, T25 k), (13, T13 k), (14, T14 k), (6, T6 k), (15, T15 k), (16, T16 k), (7, T7 k), (8, T8 k), (17, T17 k), (18, T18 k), (24, T24 k), (19, T19 k), (20, T20 k), (10, T10 k), (9, T9 k), (3, T3 k), (21, T21 k), (22, T22 k), (11, T11 k), (4, T4 k)]
def PCr (k : Nat) : List (Nat × Nat × (Nat → List (A PU) → List (AObj PU) → (A PU → List (AObj PU) → Prop) → Prop)) := [(12, 3, D12_3 k), (25, 0, D25_0 k), (25, 1, D25_1 k), (6, 2, D6_2 k), (6, 7, D6_7 k), (6, 9, D6_9 k), (7, 8, D7_8 k), (7, 11, D7_11 k), (8, 4, D8_4 k), (24, 4, D24_4 k), (10, 12, D10_12 k), (10, 16, D10_16 k), (21, 5, D21_5 k), (22, 4, D22_4 k), (11, 15, D11_15 k), (11, 20, D11_20 k)]
def PT (k : Nat) : Tab PU := fun f => lookT f (PTr k)
def PC (k : Nat) : Cut PU := fun f id => lookC f id (PCr k)
theorem fnok5 : fnOk PE.P 5 = true := by kernel_rfl
theorem fnok12 : fnOk PE.P 12 = true := by kernel_rfl
theorem fnok23 : fnOk PE.P 23 = true := by kernel_rfl
theorem fnok13 : fnOk PE.P 13 = true := by kernel_rfl
theorem fnok25 : fnOk PE.P 25 = true := by kernel_rfl
theorem fnok14 : fnOk PE.P 14 = true := by kernel_rfl
theorem fnok6 : fnOk PE.P 6 = true := by kernel_rfl
theorem fnok15 : fnOk PE.P 15 = true := by kernel_rfl
theorem fnok16 : fnOk PE.P 16 = true := by kernel_rfl
theorem fnok7 : fnOk PE.P 7 = true := by kernel_rfl
theorem fnok8 : fnOk PE.P 8 = true := by kernel_rfl
theorem fnok17 : fnOk PE.P 17 = true := by kernel_rfl
theorem fnok18 : fnOk PE.P 18 = true := by kernel_rfl
theorem fnok24 : fnOk PE.P 24 = true := by kernel_rfl
theorem fnok19 : fnOk PE.P 19 = true := by kernel_rfl
theorem fnok20 : fnOk PE.P 20 = true := by kernel_rfl
theorem fnok10 : fnOk PE.P 10 = true := by kernel_rfl
theorem fnok9 : fnOk PE.P 9 = true := by kernel_rfl
theorem fnok3 : fnOk PE.P 3 = true := by kernel_rfl
theorem fnok21 : fnOk PE.P 21 = true := by kernel_rfl
theorem fnok22 : fnOk PE.P 22 = true := by kernel_rfl
theorem fnok11 : fnOk PE.P 11 = true := by kernel_rfl
theorem fnok4 : fnOk PE.P 4 = true := by kernel_rfl
theorem T5_z (args : List (A PU)) (objs : List (AObj PU)) (K : A PU → List (AObj PU) → Prop) : ¬ T5 0 args objs K := by
  intro h; unfold T5 at h; split at h <;> (first | exact h | exact h.out)
theorem T5_ok (k : Nat) (args : List (A PU)) (objs : List (AObj PU)) (K : A PU → List (AObj PU) → Prop) (h : T5 (k + 1) args objs K) : RowOk PE (PT k) (PC k) 5 args objs K := by
  unfold T5 at h; split at h
  · exact .fn fnok5 rfl (Hold.mp (by kernel_rfl) h.out)
  · exact h.elim
theorem T12_z (args : List (A PU)) (objs : List (AObj PU)) (K : A PU → List (AObj PU) → Prop) : ¬ T12 0 args objs K := by
  intro h; unfold T12 at h; split at h <;> (first | exact h | exact h.out)
theorem T12_ok (k : Nat) (args : List (A PU)) (objs : List (AObj PU)) (K : A PU → List (AObj PU) → Prop) (h : T12 (k + 1) args objs K) : RowOk PE (PT k) (PC k) 12 args objs K := by
  unfold T12 at h; split at h
  · exact .fn fnok12 rfl (Hold.mp (by kernel_rfl) h.out)
  · exact h.elim
theorem T23_z (args : List (A PU)) (objs : List (AObj PU)) (K : A PU → List (AObj PU) → Prop) : ¬ T23 0 args objs K := by
  intro h; unfold T23 at h; split at h <;> (first | exact h | exact h.out)
theorem T23_ok (k : Nat) (args : List (A PU)) (objs : List (AObj PU)) (K : A PU → List (AObj PU) → Prop) (h : T23 (k + 1) args objs K) : RowOk PE (PT k) (PC k) 23 args objs K := by
  unfold T23 at h; split at h
  · exact .fn fnok23 rfl (Hold.mp (by kernel_rfl) h.out)
  · exact h.elim
theorem T13y5_z (args : List (A PU)) (objs : List (AObj PU)) (K : A PU → List (AObj PU) → Prop) : ¬ T13y5 0 args objs K := by
  intro h; unfold T13y5 at h; split at h <;> (first | exact h | exact h.out)
theorem T13y5_ok (k : Nat) (args : List (A PU)) (objs : List (AObj PU)) (K : A PU → List (AObj PU) → Prop) (h : T13y5 (k + 1) args objs K) : RowOk PE (PT k) (PC k) 14000005 args objs K := by
  unfold T13y5 at h; split at h
  · exact .round 13 5 rfl fnok13 rfl (Hold.mp (by kernel_rfl) h.out)
  · exact .round 13 5 rfl fnok13 rfl (Hold.mp (by kernel_rfl) h.out)
  · exact h.elim
theorem T25_z (args : List (A PU)) (objs : List (AObj PU)) (K : A PU → List (AObj PU) → Prop) : ¬ T25 0 args objs K := by
  intro h; unfold T25 at h; split at h <;> (first | exact h | exact h.out)
theorem T25_ok (k : Nat) (args : List (A PU)) (objs : List (AObj PU)) (K : A PU → List (AObj PU) → Prop) (h : T25 (k + 1) args objs K) : RowOk PE (PT k) (PC k) 25 args objs K := by
  unfold T25 at h; split at h
  · exact .fn fnok25 rfl (Hold.mp (by kernel_rfl) h.out)
  · exact h.elim
theorem T13_z (args : List (A PU)) (objs : List (AObj PU)) (K : A PU → List (AObj PU) → Prop) : ¬ T13 0 args objs K := by
  intro h; unfold T13 at h; split at h <;> (first | exact h | exact h.out)
theorem T13_ok (k : Nat) (args : List (A PU)) (objs : List (AObj PU)) (K : A PU → List (AObj PU) → Prop) (h : T13 (k + 1) args objs K) : RowOk PE (PT k) (PC k) 13 args objs K := by
  unfold T13 at h; split at h
  · exact .fn fnok13 rfl (Hold.mp (by kernel_rfl) h.out)
  · exact h.elim
theorem T14_z (args : List (A PU)) (objs : List (AObj PU)) (K : A PU → List (AObj PU) → Prop) : ¬ T14 0 args objs K := by
  intro h; unfold T14 at h; split at h <;> (first | exact h | exact h.out)
theorem T14_ok (k : Nat) (args : List (A PU)) (objs : List (AObj PU)) (K : A PU → List (AObj PU) → Prop) (h : T14 (k + 1) args objs K) : RowOk PE (PT k) (PC k) 14 args objs K := by
  unfold T14 at h; split at h
  · exact .fn fnok14 rfl (Hold.mp (by kernel_rfl) h.out)
  · exact h.elim
theorem T6_z (args : List (A PU)) (objs : List (AObj PU)) (K : A PU → List (AObj PU) → Prop) : ¬ T6 0 args objs K := by
  intro h; unfold T6 at h; split at h <;> (first | exact h | exact h.out)
theorem T6_ok (k : Nat) (args : List (A PU)) (objs : List (AObj PU)) (K : A PU → List (AObj PU) → Prop) (h : T6 (k + 1) args objs K) : RowOk PE (PT k) (PC k) 6 args objs K := by
  unfold T6 at h; split at h
  · exact .fn fnok6 rfl (Hold.mp (by kernel_rfl) h.out)
  · exact .fn fnok6 rfl (Hold.mp (by kernel_rfl) h.out)
  · exact h.elim
theorem T15_z (args : List (A PU)) (objs : List (AObj PU)) (K : A PU → List (AObj PU) → Prop) : ¬ T15 0 args objs K := by
  intro h; unfold T15 at h; split at h <;> (first | exact h | exact h.out)
theorem T15_ok (k : Nat) (args : List (A PU)) (objs : List (AObj PU)) (K : A PU → List (AObj PU) → Prop) (h : T15 (k + 1) args objs K) : RowOk PE (PT k) (PC k) 15 args objs K := by
  unfold T15 at h; split at h
  · exact .fn fnok15 rfl (Hold.mp (by kernel_rfl) h.out)
  · exact h.elim
theorem T16_z (args : List (A PU)) (objs : List (AObj PU)) (K : A PU → List (AObj PU) → Prop) : ¬ T16 0 args objs K := by
  intro h; unfold T16 at h; split at h <;> (first | exact h | exact h.out)
theorem T16_ok (k : Nat) (args : List (A PU)) (objs : List (AObj PU)) (K : A PU → List (AObj PU) → Prop) (h : T16 (k + 1) args objs K) : RowOk PE (PT k) (PC k) 16 args objs K := by
  unfold T16 at h; split at h
  · exact .fn fnok16 rfl (Hold.mp (by kernel_rfl) h.out)
  · exact h.elim
theorem T7_z (args : List (A PU)) (objs : List (AObj PU)) (K : A PU → List (AObj PU) → Prop) : ¬ T7 0 args objs K := by
  intro h; unfold T7 at h; split at h <;> (first | exact h | exact h.out)
theorem T7_ok (k : Nat) (args : List (A PU)) (objs : List (AObj PU)) (K : A PU → List (AObj PU) → Prop) (h : T7 (k + 1) args objs K) : RowOk PE (PT k) (PC k) 7 args objs K := by
  unfold T7 at h; split at h
  · exact .fn fnok7 rfl (Hold.mp (by kernel_rfl) h.out)
  · exact h.elim
theorem T8_z (args : List (A PU)) (objs : List (AObj PU)) (K : A PU → List (AObj PU) → Prop) : ¬ T8 0 args objs K := by
  intro h; unfold T8 at h; split at h <;> (first | exact h | exact h.out)
theorem T8_ok (k : Nat) (args : List (A PU)) (objs : List (AObj PU)) (K : A PU → List (AObj PU) → Prop) (h : T8 (k + 1) args objs K) : RowOk PE (PT k) (PC k) 8 args objs K := by
  unfold T8 at h; split at h
  · exact .fn fnok8 rfl (Hold.mp (by kernel_rfl) h.out)
  · exact .fn fnok8 rfl (Hold.mp (by kernel_rfl) h.out)
  · exact h.elim
theorem T17_z (args : List (A PU)) (objs : List (AObj PU)) (K : A PU → List (AObj PU) → Prop) : ¬ T17 0 args objs K := by
  intro h; unfold T17 at h; split at h <;> (first | exact h | exact h.out)
theorem T17_ok (k : Nat) (args : List (A PU)) (objs : List (AObj PU)) (K : A PU → List (AObj PU) → Prop) (h : T17 (k + 1) args objs K) : RowOk PE (PT k) (PC k) 17 args objs K := by
  unfold T17 at h; split at h
  · exact .fn fnok17 rfl (Hold.mp (by kernel_rfl) h.out)
  · exact .fn fnok17 rfl (Hold.mp (by kernel_rfl) h.out)
  · exact h.elim
theorem T18_z (args : List (A PU)) (objs : List (AObj PU)) (K : A PU → List (AObj PU) → Prop) : ¬ T18 0 args objs K := by
  intro h; unfold T18 at h; split at h <;> (first | exact h | exact h.out)
theorem T18_ok (k : Nat) (args : List (A PU)) (objs : List (AObj PU)) (K : A PU → List (AObj PU) → Prop) (h : T18 (k + 1) args objs K) : RowOk PE (PT k) (PC k) 18 args objs K := by
  unfold T18 at h; split at h
  · exact .fn fnok18 rfl (Hold.mp (by kernel_rfl) h.out)
  · exact .fn fnok18 rfl (Hold.mp (by kernel_rfl) h.out)
  · exact h.elim
theorem T24_z (args : List (A PU)) (objs : List (AObj PU)) (K : A PU → List (AObj PU) → Prop) : ¬ T24 0 args objs K := by
  intro h; unfold T24 at h; split at h <;> (first | exact h | exact h.out)
theorem T24_ok (k : Nat) (args : List (A PU)) (objs : List (AObj PU)) (K : A PU → List (AObj PU) → Prop) (h : T24 (k + 1) args objs K) : RowOk PE (PT k) (PC k) 24 args objs K := by
  unfold T24 at h; split at h
  · exact .fn fnok24 rfl (Hold.mp (by kernel_rfl) h.out)
  · exact .fn fnok24 rfl (Hold.mp (by kernel_rfl) h.out)
  · exact h.elim
theorem T19_z (args : List (A PU)) (objs : List (AObj PU)) (K : A PU → List (AObj PU) → Prop) : ¬ T19 0 args objs K := by
  intro h; unfold T19 at h; split at h <;> (first | exact h | exact h.out)
theorem T19_ok (k : Nat) (args : List (A PU)) (objs : List (AObj PU)) (K : A PU → List (AObj PU) → Prop) (h : T19 (k + 1) args objs K) : RowOk PE (PT k) (PC k) 19 args objs K := by
  unfold T19 at h; split at h
  · exact .fn fnok19 rfl (Hold.mp (by kernel_rfl) h.out)
  · exact .fn fnok19 rfl (Hold.mp (by kernel_rfl) h.out)
  · exact h.elim
theorem T20_z (args : List (A PU)) (objs : List (AObj PU)) (K : A PU → List (AObj PU) → Prop) : ¬ T20 0 args objs K := by
  intro h; unfold T20 at h; split at h <;> (first | exact h | exact h.out)
theorem T20_ok (k : Nat) (args : List (A PU)) (objs : List (AObj PU)) (K : A PU → List (AObj PU) → Prop) (h : T20 (k + 1) args objs K) : RowOk PE (PT k) (PC k) 20 args objs K := by
  unfold T20 at h; split at h
  · exact .fn fnok20 rfl (Hold.mp (by kernel_rfl) h.out)
  · exact .fn fnok20 rfl (Hold.mp (by kernel_rfl) h.out)
  · exact h.elim
theorem T10_z (args : List (A PU)) (objs : List (AObj PU)) (K : A PU → List (AObj PU) → Prop) : ¬ T10 0 args objs K := by
  intro h; unfold T10 at h; split at h <;> (first | exact h | exact h.out)
theorem T10_ok (k : Nat) (args : List (A PU)) (objs : List (AObj PU)) (K : A PU → List (AObj PU) → Prop) (h : T10 (k + 1) args objs K) : RowOk PE (PT k) (PC k) 10 args objs K := by
  unfold T10 at h; split at h
  · exact .fn fnok10 rfl (Hold.mp (by kernel_rfl) h.out)
  · exact .fn fnok10 rfl (Hold.mp (by kernel_rfl) h.out)
  · exact h.elim
theorem T9_z (args : List (A PU)) (objs : List (AObj PU)) (K : A PU → List (AObj PU) → Prop) : ¬ T9 0 args objs K := by
  intro h; unfold T9 at h; split at h <;> (first | exact h | exact h.out)
theorem T9_ok (k : Nat) (args : List (A PU)) (objs : List (AObj PU)) (K : A PU → List (AObj PU) → Prop) (h : T9 (k + 1) args objs K) : RowOk PE (PT k) (PC k) 9 args objs K := by
  unfold T9 at h; split at h
  · exact .fn fnok9 rfl (Hold.mp (by kernel_rfl) h.out)
  · exact h.elim
theorem T3_z (args : List (A PU)) (objs : List (AObj PU)) (K : A PU → List (AObj PU) → Prop) : ¬ T3 0 args objs K := by
  intro h; unfold T3 at h; split at h <;> (first | exact h | exact h.out)
theorem T3_ok (k : Nat) (args : List (A PU)) (objs : List (AObj PU)) (K : A PU → List (AObj PU) → Prop) (h : T3 (k + 1) args objs K) : RowOk PE (PT k) (PC k) 3 args objs K := by
  unfold T3 at h; split at h
  · exact .fn fnok3 rfl (Hold.mp (by kernel_rfl) h.out)
  · exact h.elim
theorem T21_z (args : List (A PU)) (objs : List (AObj PU)) (K : A PU → List (AObj PU) → Prop) : ¬ T21 0 args objs K := by
  intro h; unfold T21 at h; split at h <;> (first | exact h | exact h.out)
theorem T21_ok (k : Nat) (args : List (A PU)) (objs : List (AObj PU)) (K : A PU → List (AObj PU) → Prop) (h : T21 (k + 1) args objs K) : RowOk PE (PT k) (PC k) 21 args objs K := by
  unfold T21 at h; split at h
  · exact .fn fnok21 rfl (Hold.mp (by kernel_rfl) h.out)
  · exact h.elim
theorem T22_z (args : List (A PU)) (objs : List (AObj PU)) (K : A PU → List (AObj PU) → Prop) : ¬ T22 0 args objs K := by
  intro h; unfold T22 at h; split at h <;> (first | exact h | exact h.out)
theorem T22_ok (k : Nat) (args : List (A PU)) (objs : List (AObj PU)) (K : A PU → List (AObj PU) → Prop) (h : T22 (k + 1) args objs K) : RowOk PE (PT k) (PC k) 22 args objs K := by
  unfold T22 at h; split at h
  · exact .fn fnok22 rfl (Hold.mp (by kernel_rfl) h.out)
  · exact h.elim
theorem T11_z (args : List (A PU)) (objs : List (AObj PU)) (K : A PU → List (AObj PU) → Prop) : ¬ T11 0 args objs K := by
  intro h; unfold T11 at h; split at h <;> (first | exact h | exact h.out)
theorem T11_ok (k : Nat) (args : List (A PU)) (objs : List (AObj PU)) (K : A PU → List (AObj PU) → Prop) (h : T11 (k + 1) args objs K) : RowOk PE (PT k) (PC k) 11 args objs K := by
  unfold T11 at h; split at h
  · exact .fn fnok11 rfl (Hold.mp (by kernel_rfl) h.out)
  · exact h.elim
theorem T4_z (args : List (A PU)) (objs : List (AObj PU)) (K : A PU → List (AObj PU) → Prop) : ¬ T4 0 args objs K := by
  intro h; unfold T4 at h; split at h <;> (first | exact h | exact h.out)
theorem T4_ok (k : Nat) (args : List (A PU)) (objs : List (AObj PU)) (K : A PU → List (AObj PU) → Prop) (h : T4 (k + 1) args objs K) : RowOk PE (PT k) (PC k) 4 args objs K := by
  unfold T4 at h; split at h
  · exact .fn fnok4 rfl (Hold.mp (by kernel_rfl) h.out)
  · exact h.elim
theorem D12_3_z (nb : Nat) (vals : List (A PU)) (objs : List (AObj PU)) (K : A PU → List (AObj PU) → Prop) : ¬ D12_3 0 nb vals objs K := by
  intro h; unfold D12_3 at h; split at h <;> (first | exact h | exact h.out)
theorem D12_3_ok (k : Nat) (live : List Nat) (hl : cutOf 12 3 PE.cuts = some live) (nb : Nat) (vals : List (A PU)) (objs : List (AObj PU)) (K : A PU → List (AObj PU) → Prop) (h : D12_3 (k + 1) nb vals objs K) : fnOk PE.P 12 = true ∧ Hold (vcut PE (PT k) (PC k) 12 3 live nb vals objs K) := by
  obtain rfl : live = [5, 10, 11, 12] := Option.some.inj (hl.symm.trans (by kernel_rfl : cutOf 12 3 PE.cuts = some [5, 10, 11, 12]))
  refine ⟨fnok12, ?_⟩; unfold D12_3 at h; split at h
  · exact Hold.mp (by kernel_rfl) h.out
  · exact h.elim
theorem D25_0_z (nb : Nat) (vals : List (A PU)) (objs : List (AObj PU)) (K : A PU → List (AObj PU) → Prop) : ¬ D25_0 0 nb vals objs K := by
  intro h; unfold D25_0 at h; split at h <;> (first | exact h | exact h.out)
theorem D25_0_ok (k : Nat) (live : List Nat) (hl : cutOf 25 0 PE.cuts = some live) (nb : Nat) (vals : List (A PU)) (objs : List (AObj PU)) (K : A PU → List (AObj PU) → Prop) (h : D25_0 (k + 1) nb vals objs K) : fnOk PE.P 25 = true ∧ Hold (vcut PE (PT k) (PC k) 25 0 live nb vals objs K) := by
  obtain rfl : live = [0, 1] := Option.some.inj (hl.symm.trans (by kernel_rfl : cutOf 25 0 PE.cuts = some [0, 1]))
  refine ⟨fnok25, ?_⟩; unfold D25_0 at h; split at h
  · exact Hold.mp (by kernel_rfl) h.out
  · exact Hold.mp (by kernel_rfl) h.out
  · exact h.elim
theorem D25_1_z (nb : Nat) (vals : List (A PU)) (objs : List (AObj PU)) (K : A PU → List (AObj PU) → Prop) : ¬ D25_1 0 nb vals objs K := by
  intro h; unfold D25_1 at h; split at h <;> (first | exact h | exact h.out)
theorem D25_1_ok (k : Nat) (live : List Nat) (hl : cutOf 25 1 PE.cuts = some live) (nb : Nat) (vals : List (A PU)) (objs : List (AObj PU)) (K : A PU → List (AObj PU) → Prop) (h : D25_1 (k + 1) nb vals objs K) : fnOk PE.P 25 = true ∧ Hold (vcut PE (PT k) (PC k) 25 1 live nb vals objs K) := by
  obtain rfl : live = [0, 1] := Option.some.inj (hl.symm.trans (by kernel_rfl : cutOf 25 1 PE.cuts = some [0, 1]))
  refine ⟨fnok25, ?_⟩; unfold D25_1 at h; split at h
  · exact Hold.mp (by kernel_rfl) h.out
  · exact Hold.mp (by kernel_rfl) h.out
  · exact h.elim
theorem D6_2_z (nb : Nat) (vals : List (A PU)) (objs : List (AObj PU)) (K : A PU → List (AObj PU) → Prop) : ¬ D6_2 0 nb vals objs K := by
  intro h; unfold D6_2 at h; split at h <;> (first | exact h | exact h.out)
theorem D6_2_ok (k : Nat) (live : List Nat) (hl : cutOf 6 2 PE.cuts = some live) (nb : Nat) (vals : List (A PU)) (objs : List (AObj PU)) (K : A PU → List (AObj PU) → Prop) (h : D6_2 (k + 1) nb vals objs K) : fnOk PE.P 6 = true ∧ Hold (vcut PE (PT k) (PC k) 6 2 live nb vals objs K) := by
  obtain rfl : live = [1, 4] := Option.some.inj (hl.symm.trans (by kernel_rfl : cutOf 6 2 PE.cuts = some [1, 4]))
  refine ⟨fnok6, ?_⟩; unfold D6_2 at h; split at h
  · exact Hold.mp (by kernel_rfl) h.out
  · exact Hold.mp (by kernel_rfl) h.out
  · exact h.elim
theorem D6_7_z (nb : Nat) (vals : List (A PU)) (objs : List (AObj PU)) (K : A PU → List (AObj PU) → Prop) : ¬ D6_7 0 nb vals objs K := by
  intro h; unfold D6_7 at h; split at h <;> (first | exact h | exact h.out)
theorem D6_7_ok (k : Nat) (live : List Nat) (hl : cutOf 6 7 PE.cuts = some live) (nb : Nat) (vals : List (A PU)) (objs : List (AObj PU)) (K : A PU → List (AObj PU) → Prop) (h : D6_7 (k + 1) nb vals objs K) : fnOk PE.P 6 = true ∧ Hold (vcut PE (PT k) (PC k) 6 7 live nb vals objs K) := by
  obtain rfl : live = [1, 5] := Option.some.inj (hl.symm.trans (by kernel_rfl : cutOf 6 7 PE.cuts = some [1, 5]))
  refine ⟨fnok6, ?_⟩; unfold D6_7 at h; split at h
  · exact Hold.mp (by kernel_rfl) h.out
  · exact Hold.mp (by kernel_rfl) h.out
  · exact h.elim
theorem D6_9_z (nb : Nat) (vals : List (A PU)) (objs : List (AObj PU)) (K : A PU → List (AObj PU) → Prop) : ¬ D6_9 0 nb vals objs K := by
  intro h; unfold D6_9 at h; split at h <;> (first | exact h | exact h.out)
theorem D6_9_ok (k : Nat) (live : List Nat) (hl : cutOf 6 9 PE.cuts = some live) (nb : Nat) (vals : List (A PU)) (objs : List (AObj PU)) (K : A PU → List (AObj PU) → Prop) (h : D6_9 (k + 1) nb vals objs K) : fnOk PE.P 6 = true ∧ Hold (vcut PE (PT k) (PC k) 6 9 live nb vals objs K) := by
  obtain rfl : live = [5, 49, 50, 51] := Option.some.inj (hl.symm.trans (by kernel_rfl : cutOf 6 9 PE.cuts = some [5, 49, 50, 51]))
  refine ⟨fnok6, ?_⟩; unfold D6_9 at h; split at h
  · exact Hold.mp (by kernel_rfl) h.out
  · exact Hold.mp (by kernel_rfl) h.out
  · exact h.elim
theorem D7_8_z (nb : Nat) (vals : List (A PU)) (objs : List (AObj PU)) (K : A PU → List (AObj PU) → Prop) : ¬ D7_8 0 nb vals objs K := by
  intro h; unfold D7_8 at h; split at h <;> (first | exact h | exact h.out)
theorem D7_8_ok (k : Nat) (live : List Nat) (hl : cutOf 7 8 PE.cuts = some live) (nb : Nat) (vals : List (A PU)) (objs : List (AObj PU)) (K : A PU → List (AObj PU) → Prop) (h : D7_8 (k + 1) nb vals objs K) : fnOk PE.P 7 = true ∧ Hold (vcut PE (PT k) (PC k) 7 8 live nb vals objs K) := by
  obtain rfl : live = [1, 4] := Option.some.inj (hl.symm.trans (by kernel_rfl : cutOf 7 8 PE.cuts = some [1, 4]))
  refine ⟨fnok7, ?_⟩; unfold D7_8 at h; split at h
  · exact Hold.mp (by kernel_rfl) h.out
  · exact h.elim
theorem D7_11_z (nb : Nat) (vals : List (A PU)) (objs : List (AObj PU)) (K : A PU → List (AObj PU) → Prop) : ¬ D7_11 0 nb vals objs K := by
  intro h; unfold D7_11 at h; split at h <;> (first | exact h | exact h.out)
theorem D7_11_ok (k : Nat) (live : List Nat) (hl : cutOf 7 11 PE.cuts = some live) (nb : Nat) (vals : List (A PU)) (objs : List (AObj PU)) (K : A PU → List (AObj PU) → Prop) (h : D7_11 (k + 1) nb vals objs K) : fnOk PE.P 7 = true ∧ Hold (vcut PE (PT k) (PC k) 7 11 live nb vals objs K) := by
  obtain rfl : live = [1, 4, 6] := Option.some.inj (hl.symm.trans (by kernel_rfl : cutOf 7 11 PE.cuts = some [1, 4, 6]))
  refine ⟨fnok7, ?_⟩; unfold D7_11 at h; split at h
  · exact Hold.mp (by kernel_rfl) h.out
  · exact h.elim
theorem D8_4_z (nb : Nat) (vals : List (A PU)) (objs : List (AObj PU)) (K : A PU → List (AObj PU) → Prop) : ¬ D8_4 0 nb vals objs K := by
  intro h; unfold D8_4 at h; split at h <;> (first | exact h | exact h.out)
theorem D8_4_ok (k : Nat) (live : List Nat) (hl : cutOf 8 4 PE.cuts = some live) (nb : Nat) (vals : List (A PU)) (objs : List (AObj PU)) (K : A PU → List (AObj PU) → Prop) (h : D8_4 (k + 1) nb vals objs K) : fnOk PE.P 8 = true ∧ Hold (vcut PE (PT k) (PC k) 8 4 live nb vals objs K) := by
  obtain rfl : live = [2, 3, 5] := Option.some.inj (hl.symm.trans (by kernel_rfl : cutOf 8 4 PE.cuts = some [2, 3, 5]))
  refine ⟨fnok8, ?_⟩; unfold D8_4 at h; split at h
  · exact Hold.mp (by kernel_rfl) h.out
  · exact Hold.mp (by kernel_rfl) h.out
  · exact h.elim
theorem D24_4_z (nb : Nat) (vals : List (A PU)) (objs : List (AObj PU)) (K : A PU → List (AObj PU) → Prop) : ¬ D24_4 0 nb vals objs K := by
  intro h; unfold D24_4 at h; split at h <;> (first | exact h | exact h.out)
theorem D24_4_ok (k : Nat) (live : List Nat) (hl : cutOf 24 4 PE.cuts = some live) (nb : Nat) (vals : List (A PU)) (objs : List (AObj PU)) (K : A PU → List (AObj PU) → Prop) (h : D24_4 (k + 1) nb vals objs K) : fnOk PE.P 24 = true ∧ Hold (vcut PE (PT k) (PC k) 24 4 live nb vals objs K) := by
  obtain rfl : live = [0, 2, 19, 20, 21] := Option.some.inj (hl.symm.trans (by kernel_rfl : cutOf 24 4 PE.cuts = some [0, 2, 19, 20, 21]))
  refine ⟨fnok24, ?_⟩; unfold D24_4 at h; split at h
  · exact Hold.mp (by kernel_rfl) h.out
  · exact Hold.mp (by kernel_rfl) h.out
  · exact h.elim
theorem D10_12_z (nb : Nat) (vals : List (A PU)) (objs : List (AObj PU)) (K : A PU → List (AObj PU) → Prop) : ¬ D10_12 0 nb vals objs K := by
  intro h; unfold D10_12 at h; split at h <;> (first | exact h | exact h.out)
theorem D10_12_ok (k : Nat) (live : List Nat) (hl : cutOf 10 12 PE.cuts = some live) (nb : Nat) (vals : List (A PU)) (objs : List (AObj PU)) (K : A PU → List (AObj PU) → Prop) (h : D10_12 (k + 1) nb vals objs K) : fnOk PE.P 10 = true ∧ Hold (vcut PE (PT k) (PC k) 10 12 live nb vals objs K) := by
  obtain rfl : live = [2, 4, 5] := Option.some.inj (hl.symm.trans (by kernel_rfl : cutOf 10 12 PE.cuts = some [2, 4, 5]))
  refine ⟨fnok10, ?_⟩; unfold D10_12 at h; split at h
  · exact Hold.mp (by kernel_rfl) h.out
  · exact Hold.mp (by kernel_rfl) h.out
  · exact h.elim
theorem D10_16_z (nb : Nat) (vals : List (A PU)) (objs : List (AObj PU)) (K : A PU → List (AObj PU) → Prop) : ¬ D10_16 0 nb vals objs K := by
  intro h; unfold D10_16 at h; split at h <;> (first | exact h | exact h.out)
theorem D10_16_ok (k : Nat) (live : List Nat) (hl : cutOf 10 16 PE.cuts = some live) (nb : Nat) (vals : List (A PU)) (objs : List (AObj PU)) (K : A PU → List (AObj PU) → Prop) (h : D10_16 (k + 1) nb vals objs K) : fnOk PE.P 10 = true ∧ Hold (vcut PE (PT k) (PC k) 10 16 live nb vals objs K) := by
  obtain rfl : live = [2, 4, 5, 65, 66] := Option.some.inj (hl.symm.trans (by kernel_rfl : cutOf 10 16 PE.cuts = some [2, 4, 5, 65, 66]))
  refine ⟨fnok10, ?_⟩; unfold D10_16 at h; split at h
  · exact Hold.mp (by kernel_rfl) h.out
  · exact Hold.mp (by kernel_rfl) h.out
  · exact h.elim
theorem D21_5_z (nb : Nat) (vals : List (A PU)) (objs : List (AObj PU)) (K : A PU → List (AObj PU) → Prop) : ¬ D21_5 0 nb vals objs K := by
  intro h; unfold D21_5 at h; split at h <;> (first | exact h | exact h.out)
theorem D21_5_ok (k : Nat) (live : List Nat) (hl : cutOf 21 5 PE.cuts = some live) (nb : Nat) (vals : List (A PU)) (objs : List (AObj PU)) (K : A PU → List (AObj PU) → Prop) (h : D21_5 (k + 1) nb vals objs K) : fnOk PE.P 21 = true ∧ Hold (vcut PE (PT k) (PC k) 21 5 live nb vals objs K) := by
  obtain rfl : live = [0, 2, 5, 6] := Option.some.inj (hl.symm.trans (by kernel_rfl : cutOf 21 5 PE.cuts = some [0, 2, 5, 6]))
  refine ⟨fnok21, ?_⟩; unfold D21_5 at h; split at h
  · exact Hold.mp (by kernel_rfl) h.out
  · exact h.elim
theorem D22_4_z (nb : Nat) (vals : List (A PU)) (objs : List (AObj PU)) (K : A PU → List (AObj PU) → Prop) : ¬ D22_4 0 nb vals objs K := by
  intro h; unfold D22_4 at h; split at h <;> (first | exact h | exact h.out)
theorem D22_4_ok (k : Nat) (live : List Nat) (hl : cutOf 22 4 PE.cuts = some live) (nb : Nat) (vals : List (A PU)) (objs : List (AObj PU)) (K : A PU → List (AObj PU) → Prop) (h : D22_4 (k + 1) nb vals objs K) : fnOk PE.P 22 = true ∧ Hold (vcut PE (PT k) (PC k) 22 4 live nb vals objs K) := by
  obtain rfl : live = [0, 5, 6, 7] := Option.some.inj (hl.symm.trans (by kernel_rfl : cutOf 22 4 PE.cuts = some [0, 5, 6, 7]))
  refine ⟨fnok22, ?_⟩; unfold D22_4 at h; split at h
  · exact Hold.mp (by kernel_rfl) h.out
  · exact h.elim
theorem D11_15_z (nb : Nat) (vals : List (A PU)) (objs : List (AObj PU)) (K : A PU → List (AObj PU) → Prop) : ¬ D11_15 0 nb vals objs K := by
  intro h; unfold D11_15 at h; split at h <;> (first | exact h | exact h.out)
theorem D11_15_ok (k : Nat) (live : List Nat) (hl : cutOf 11 15 PE.cuts = some live) (nb : Nat) (vals : List (A PU)) (objs : List (AObj PU)) (K : A PU → List (AObj PU) → Prop) (h : D11_15 (k + 1) nb vals objs K) : fnOk PE.P 11 = true ∧ Hold (vcut PE (PT k) (PC k) 11 15 live nb vals objs K) := by
  obtain rfl : live = [0, 2, 4, 5, 6] := Option.some.inj (hl.symm.trans (by kernel_rfl : cutOf 11 15 PE.cuts = some [0, 2, 4, 5, 6]))
  refine ⟨fnok11, ?_⟩; unfold D11_15 at h; split at h
  · exact Hold.mp (by kernel_rfl) h.out
  · exact h.elim
theorem D11_20_z (nb : Nat) (vals : List (A PU)) (objs : List (AObj PU)) (K : A PU → List (AObj PU) → Prop) : ¬ D11_20 0 nb vals objs K := by
  intro h; unfold D11_20 at h; split at h <;> (first | exact h | exact h.out)
theorem D11_20_ok (k : Nat) (live : List Nat) (hl : cutOf 11 20 PE.cuts = some live) (nb : Nat) (vals : List (A PU)) (objs : List (AObj PU)) (K : A PU → List (AObj PU) → Prop) (h : D11_20 (k + 1) nb vals objs K) : fnOk PE.P 11 = true ∧ Hold (vcut PE (PT k) (PC k) 11 20 live nb vals objs K) := by
  obtain rfl : live = [0, 2, 4, 6, 13, 16] := Option.some.inj (hl.symm.trans (by kernel_rfl : cutOf 11 20 PE.cuts = some [0, 2, 4, 6, 13, 16]))
  refine ⟨fnok11, ?_⟩; unfold D11_20 at h; split at h
  · exact Hold.mp (by kernel_rfl) h.out
  · exact h.elim
theorem PSound (k : Nat) : TSound PE (PT k) ∧ CSound PE (PC k) :=
  tablesL PEok (by kernel_rfl) PTr PCr
    (List.forall_mem_cons.2 ⟨T5_z, List.forall_mem_cons.2 ⟨T12_z, List.forall_mem_cons.2 ⟨T23_z, List.forall_mem_cons.2 ⟨T13y5_z, List.forall_mem_cons.2 ⟨T25_z, List.forall_mem_cons.2 ⟨T13_z, List.forall_mem_cons.2 ⟨T14_z, List.forall_mem_cons.2 ⟨T6_z, List.forall_mem_cons.2 ⟨T15_z, List.forall_mem_cons.2 ⟨T16_z, List.forall_mem_cons.2 ⟨T7_z, List.forall_mem_cons.2 ⟨T8_z, List.forall_mem_cons.2 ⟨T17_z, List.forall_mem_cons.2 ⟨T18_z, List.forall_mem_cons.2 ⟨T24_z, List.forall_mem_cons.2 ⟨T19_z, List.forall_mem_cons.2 ⟨T20_z, List.forall_mem_cons.2 ⟨T10_z, List.forall_mem_cons.2 ⟨T9_z, List.forall_mem_cons.2 ⟨T3_z, List.forall_mem_cons.2 ⟨T21_z, List.forall_mem_cons.2 ⟨T22_z, List.forall_mem_cons.2 ⟨T11_z, List.forall_mem_cons.2 ⟨T4_z, (fun _ h => nomatch h)⟩⟩⟩⟩⟩⟩⟩⟩⟩⟩⟩⟩⟩⟩⟩⟩⟩⟩⟩⟩⟩⟩⟩⟩)
    (List.forall_mem_cons.2 ⟨D12_3_z, List.forall_mem_cons.2 ⟨D25_0_z, List.forall_mem_cons.2 ⟨D25_1_z, List.forall_mem_cons.2 ⟨D6_2_z, List.forall_mem_cons.2 ⟨D6_7_z, List.forall_mem_cons.2 ⟨D6_9_z, List.forall_mem_cons.2 ⟨D7_8_z, List.forall_mem_cons.2 ⟨D7_11_z, List.forall_mem_cons.2 ⟨D8_4_z, List.forall_mem_cons.2 ⟨D24_4_z, List.forall_mem_cons.2 ⟨D10_12_z, List.forall_mem_cons.2 ⟨D10_16_z, List.forall_mem_cons.2 ⟨D21_5_z, List.forall_mem_cons.2 ⟨D22_4_z, List.forall_mem_cons.2 ⟨D11_15_z, List.forall_mem_cons.2 ⟨D11_20_z, (fun _ h => nomatch h)⟩⟩⟩⟩⟩⟩⟩⟩⟩⟩⟩⟩⟩⟩⟩⟩)
    (fun k => List.forall_mem_cons.2 ⟨T5_ok k, List.forall_mem_cons.2 ⟨T12_ok k, List.forall_mem_cons.2 ⟨T23_ok k, List.forall_mem_cons.2 ⟨T13y5_ok k, List.forall_mem_cons.2 ⟨T25_ok k, List.forall_mem_cons.2 ⟨T13_ok k, List.forall_mem_cons.2 ⟨T14_ok k, List.forall_mem_cons.2 ⟨T6_ok k, List.forall_mem_cons.2 ⟨T15_ok k, List.forall_mem_cons.2 ⟨T16_ok k, List.forall_mem_cons.2 ⟨T7_ok k, List.forall_mem_cons.2 ⟨T8_ok k, List.forall_mem_cons.2 ⟨T17_ok k, List.forall_mem_cons.2 ⟨T18_ok k, List.forall_mem_cons.2 ⟨T24_ok k, List.forall_mem_cons.2 ⟨T19_ok k, List.forall_mem_cons.2 ⟨T20_ok k, List.forall_mem_cons.2 ⟨T10_ok k, List.forall_mem_cons.2 ⟨T9_ok k, List.forall_mem_cons.2 ⟨T3_ok k, List.forall_mem_cons.2 ⟨T21_ok k, List.forall_mem_cons.2 ⟨T22_ok k, List.forall_mem_cons.2 ⟨T11_ok k, List.forall_mem_cons.2 ⟨T4_ok k, (fun _ h => nomatch h)⟩⟩⟩⟩⟩⟩⟩⟩⟩⟩⟩⟩⟩⟩⟩⟩⟩⟩⟩⟩⟩⟩⟩⟩)
    (fun k => List.forall_mem_cons.2 ⟨D12_3_ok k, List.forall_mem_cons.2 ⟨D25_0_ok k, List.forall_mem_cons.2 ⟨D25_1_ok k, List.forall_mem_cons.2 ⟨D6_2_ok k, List.forall_mem_cons.2 ⟨D6_7_ok k, List.forall_mem_cons.2 ⟨D6_9_ok k, List.forall_mem_cons.2 ⟨D7_8_ok k, List.forall_mem_cons.2 ⟨D7_11_ok k, List.forall_mem_cons.2 ⟨D8_4_ok k, List.forall_mem_cons.2 ⟨D24_4_ok k, List.forall_mem_cons.2 ⟨D10_12_ok k, List.forall_mem_cons.2 ⟨D10_16_ok k, List.forall_mem_cons.2 ⟨D21_5_ok k, List.forall_mem_cons.2 ⟨D22_4_ok k, List.forall_mem_cons.2 ⟨D11_15_ok k, List.forall_mem_cons.2 ⟨D11_20_ok k, (fun _ h => nomatch h)⟩⟩⟩⟩⟩⟩⟩⟩⟩⟩⟩⟩⟩⟩⟩⟩) k
end Go.V
