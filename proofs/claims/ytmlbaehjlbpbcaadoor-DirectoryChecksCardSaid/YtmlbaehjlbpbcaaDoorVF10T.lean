import Derived.Test.YtmlbaehjlbpbcaaDoorVF10E
set_option maxHeartbeats 4000000
set_option linter.unusedVariables false
namespace Go.V
open Go
def T12 (k : Nat) : Fn PU := fun args boxes K => match args, boxes with
  | [.agg [.int .i64 r1, .ro false 42 r2, .ro false 50 r3, .ro false 53 r4]], [] => Hold (F_r08_BigDirectory k r1 r2 r3 r4 (fun z0 => K (.bool z0) []))
  | _, _ => False
def T4 (k : Nat) : Fn PU := fun args boxes K => match args, boxes with
  | [.agg [.int .i64 r1, .ro false 42 r2, .ro false 50 r3, .ro false 53 r4], .agg [.int .i64 r5, .int .i64 r6, .int .i64 r7, .str r8, .str r9, .int .i64 r10, .arr 5 32 r11]], [] => Hold (F_l10_large k r1 r2 r3 r4 r5 r6 r7 r8 r9 r10 r11 (fun z0 => K (.bool z0) []))
  | _, _ => False
def T5 (k : Nat) : Fn PU := fun args boxes K => match args, boxes with
  | [.agg [.int .i64 r1, .ro false 42 r2, .ro false 50 r3, .ro false 53 r4]], [] => Hold (F_r08_OwnDirectory k r1 r2 r3 r4 (fun z0 z1 z2 z3 => K (.agg [.int .i64 z0, .usl 42 z1, .usl 50 z2, .usl 53 z3]) []))
  | _, _ => False
def T13 (k : Nat) : Fn PU := fun args boxes K => match args, boxes with
  | [.int .i64 r1, .int .i64 r2, .int .i64 r3], [] => Hold (F_directory_within k r1 r2 r3 (fun z0 => K (.bool z0) []))
  | _, _ => False
def T14 (k : Nat) : Fn PU := fun args boxes K => match args, boxes with
  | [.str r1], [] => Hold (F_directory_name k r1 (fun z0 => K (.bool z0) []))
  | _, _ => False
def T23 (k : Nat) : Fn PU := fun args boxes K => match args, boxes with
  | [.ro false 48 r1], [] => Hold (F_version_last k r1 (fun z0 z1 z2 => K (.agg [.int .i64 z0, .int .i64 z1, .str z2]) []))
  | _, _ => False
def T24 (k : Nat) : Fn PU := fun args boxes K => match args, boxes with
  | [.agg [.int .i64 r1, .int .i64 r2, .str r3]], [] => Hold (F_version_may k r1 r2 r3 (fun z0 => K (.bool z0) []))
  | _, _ => False
def T25 (k : Nat) : Fn PU := fun args boxes K => match args, boxes with
  | [.agg [.int .i64 r1, .int .i64 r2, .str r3]], [] => Hold (F_version_open k r1 r2 r3 (fun z0 => K (.bool z0) []))
  | _, _ => False
def T15 (k : Nat) : Fn PU := fun args boxes K => match args, boxes with
  | [.ro false 48 r1], [] => Hold (F_version_Check k r1 (fun z0 => K (.int .i64 z0) []))
  | _, _ => False
def T41 (k : Nat) : Fn PU := fun args boxes K => match args, boxes with
  | [.int .i64 r1], [] => Hold (F_octet_groups k r1 (fun z0 => K (.clo 48 [.ptr 0 []]) [.box (.int .i64 z0)]))
  | _, _ => False
def T34y5 (k : Nat) : Fn PU := fun args boxes K => match args, boxes with
  | [.int .u8 r1, .ptr 0 []], [.box (.clip false 5 r2)] => Hold (F_octet_PutCount_y5 k r1 r2 (fun z0 => K (.clo 0 []) [.box (.own 1), .lst 5 z0]))
  | [.int .u8 r1, .ptr 0 []], [.box (.own 1), .lst 5 r2] => Hold (F_octet_PutCount_y5_s1 k r1 r2 (fun z0 => K (.clo 0 []) [.box (.own 2), .dead, .lst 5 z0]))
  | _, _ => False
def T48 (k : Nat) : Fn PU := fun args boxes K => match args, boxes with
  | [.yld 0, .ptr 1 []], [.lp 34 5 [6] [.ptr 2 []] 0, .box (.int .i64 r1), .box (.clip false 5 r2)] => Hold (F_octet_groups_1 k r1 r2 (fun z0 z1 => K (.tup []) [.lp 34 5 [6] [.ptr 2 []] 0, .box (.int .i64 z0), .box (.own 3), .lst 5 z1]))
  | _, _ => False
def T34 (k : Nat) : Fn PU := fun args boxes K => match args, boxes with
  | [.ro false 5 r1, .int .i64 r2], [] => Hold (F_octet_PutCount k r1 r2 (fun z0 z1 => K (.tup [.usl 5 z0, .int .i64 z1]) []))
  | _, _ => False
def T35 (k : Nat) : Fn PU := fun args boxes K => match args, boxes with
  | [.ro true 5 r1, .arr 5 32 r2], [] => Hold (F_octet_PutDigest k r1 r2 (fun z0 => K (.usl 5 z0) []))
  | _, _ => False
def T29 (k : Nat) : Fn PU := fun args boxes K => match args, boxes with
  | [.agg [.int .i64 r1, .arr 5 32 r2, .arr 5 32 r3]], [] => Hold (F_head_Bytes k r1 r2 r3 (fun z0 z1 => K (.tup [.usl 5 z0, .int .i64 z1]) []))
  | _, _ => False
def T36 (k : Nat) : Fn PU := fun args boxes K => match args, boxes with
  | [], [] => Hold (F_sha_New k (fun z0 z1 z2 => K (.ptr 0 []) [.box (.agg [.arr 77 8 z0, .arr 5 64 z1, .int .i64 z2])]))
  | _, _ => False
def T49 (k : Nat) : Fn PU := fun args boxes K => match args, boxes with
  | [.int .u32 r1, .int .i64 r2], [] => Hold (F_math_bits_RotateLeft32 k r1 r2 (fun z0 => K (.int .u32 z0) []))
  | _, _ => False
def T42 (k : Nat) : Fn PU := fun args boxes K => match args, boxes with
  | [.ptr 0 []], [.box (.agg [.arr 77 8 r1, .arr 5 64 r2, .int .i64 r3])] => Hold (F_sha_Hash_mix k r1 r2 r3 (fun z0 z1 z2 => K (.tup []) [.box (.agg [.arr 77 8 z0, .arr 5 64 z1, .int .i64 z2])]))
  | _, _ => False
def T37 (k : Nat) : Fn PU := fun args boxes K => match args, boxes with
  | [.ptr 0 [], .ro true 5 r1], [.box (.agg [.arr 77 8 r2, .arr 5 64 r3, .int .i64 r4])] => Hold (F_sha_Hash_Write k r1 r2 r3 r4 (fun z0 z1 z2 z3 => K (.int .i64 z0) [.box (.agg [.arr 77 8 z1, .arr 5 64 z2, .int .i64 z3])]))
  | [.ptr 0 [], .ro false 5 r1], [.box (.agg [.arr 77 8 r2, .arr 5 64 r3, .int .i64 r4])] => Hold (F_sha_Hash_Write k r1 r2 r3 r4 (fun z0 z1 z2 z3 => K (.int .i64 z0) [.box (.agg [.arr 77 8 z1, .arr 5 64 z2, .int .i64 z3])]))
  | _, _ => False
def T38 (k : Nat) : Fn PU := fun args boxes K => match args, boxes with
  | [.ptr 0 []], [.box (.agg [.arr 77 8 r1, .arr 5 64 r2, .int .i64 r3])] => Hold (F_sha_Hash_Sum k r1 r2 r3 (fun z0 z1 z2 z3 => K (.arr 5 32 z0) [.box (.agg [.arr 77 8 z1, .arr 5 64 z2, .int .i64 z3])]))
  | _, _ => False
def T30 (k : Nat) : Fn PU := fun args boxes K => match args, boxes with
  | [.ro true 5 r1], [] => Hold (F_sha_Sum k r1 (fun z0 => K (.arr 5 32 z0) []))
  | _, _ => False
def T26 (k : Nat) : Fn PU := fun args boxes K => match args, boxes with
  | [.agg [.int .i64 r1, .arr 5 32 r2, .arr 5 32 r3]], [] => Hold (F_head_Digest k r1 r2 r3 (fun z0 z1 => K (.tup [.arr 5 32 z0, .int .i64 z1]) []))
  | _, _ => False
def T16 (k : Nat) : Fn PU := fun args boxes K => match args, boxes with
  | [.ro false 50 r1], [] => Hold (F_directory_prev k r1 (fun z0 => K (.arr 5 32 z0) []))
  | _, _ => False
def T6 (k : Nat) : Fn PU := fun args boxes K => match args, boxes with
  | [.agg [.int .i64 r1, .ro false 42 r2, .ro false 50 r3, .ro false 53 r4]], [] => Hold (F_directory_Check k r1 r2 r3 r4 (fun z0 => K (.int .i64 z0) []))
  | _, _ => False
def T17 (k : Nat) : Fn PU := fun args boxes K => match args, boxes with
  | [.int .i64 r1, .str r2], [] => Hold (F_l10_put k r1 r2 (fun z0 z1 z2 z3 z4 z5 z6 => K (.agg [.int .i64 z0, .int .i64 z1, .int .i64 z2, .str z3, .str z4, .int .i64 z5, .arr 5 32 z6]) []))
  | _, _ => False
def T9 (k : Nat) : Fn PU := fun args boxes K => match args, boxes with
  | [.agg [.int .i64 r1, .int .i64 r2, .int .i64 r3, .str r4, .str r5, .int .i64 r6, .arr 5 32 r7]], [] => Hold (F_directory_May k r1 r2 r3 r4 r5 r6 r7 (fun z0 => K (.bool z0) []))
  | _, _ => False
def T7 (k : Nat) : Fn PU := fun args boxes K => match args, boxes with
  | [], [] => Hold (F_l10_fresh k (fun z0 => K (.bool z0) []))
  | _, _ => False
def T18 (k : Nat) : Fn PU := fun args boxes K => match args, boxes with
  | [.int .i64 r1, .int .i64 r2, .int .i64 r3], [] => Hold (F_r10_within k r1 r2 r3 (fun z0 => K (.bool z0) []))
  | _, _ => False
def T21 (k : Nat) : Fn PU := fun args boxes K => match args, boxes with
  | [.str r1], [] => Hold (F_r10_Name k r1 (fun z0 => K (.bool z0) []))
  | _, _ => False
def T31 (k : Nat) : Fn PU := fun args boxes K => match args, boxes with
  | [.agg [.int .i64 r1, .int .i64 r2, .str r3]], [] => Hold (F_r07_May k r1 r2 r3 (fun z0 => K (.bool z0) []))
  | _, _ => False
def T32 (k : Nat) : Fn PU := fun args boxes K => match args, boxes with
  | [.int .i64 r1, .int .i64 r2], [] => Hold (F_r07_follows k r1 r2 (fun z0 => K (.bool z0) []))
  | _, _ => False
def T27 (k : Nat) : Fn PU := fun args boxes K => match args, boxes with
  | [.ro false 48 r1], [] => Hold (F_r07_Is k r1 (fun z0 => K (.bool z0) []))
  | _, _ => False
def T19 (k : Nat) : Fn PU := fun args boxes K => match args, boxes with
  | [.ro true 42 r1, .int .i64 r2], [] => Hold (F_r10_users k r1 r2 (fun z0 => K (.bool z0) []))
  | _, _ => False
def T43 (k : Nat) : Fn PU := fun args boxes K => match args, boxes with
  | [.agg [.int .i64 r1, .arr 5 32 r2, .arr 5 32 r3]], [] => Hold (F_r09_May k r1 r2 r3 (fun z0 => K (.bool z0) []))
  | _, _ => False
def T44 (k : Nat) : Fn PU := fun args boxes K => match args, boxes with
  | [.int .i64 r1], [] => Hold (F_r01_Groups k r1 (fun z0 => K (.usl 5 z0) []))
  | _, _ => False
def T39 (k : Nat) : Fn PU := fun args boxes K => match args, boxes with
  | [.agg [.int .i64 r1, .arr 5 32 r2, .arr 5 32 r3]], [] => Hold (F_r09_Bytes k r1 r2 r3 (fun z0 z1 => K (.tup [.usl 5 z0, .int .i64 z1]) []))
  | _, _ => False
def T45 (k : Nat) : Fn PU := fun args boxes K => match args, boxes with
  | [.ro true 5 r1], [] => Hold (F_r02_Padded k r1 (fun z0 => K (.usl 5 z0) []))
  | _, _ => False
def T46 (k : Nat) : Fn PU := fun args boxes K => match args, boxes with
  | [], [] => Hold (F_r02_begin k (fun z0 => K (.arr 77 8 z0) []))
  | _, _ => False
def T50 (k : Nat) : Fn PU := fun args boxes K => match args, boxes with
  | [.int .u32 r1, .int .i64 r2], [] => Hold (F_r02_turned k r1 r2 (fun z0 => K (.int .u32 z0) []))
  | _, _ => False
def T47 (k : Nat) : Fn PU := fun args boxes K => match args, boxes with
  | [.arr 77 8 r1, .ro true 5 r2], [] => Hold (F_r02_block k r1 r2 (fun z0 => K (.arr 77 8 z0) []))
  | _, _ => False
def T40 (k : Nat) : Fn PU := fun args boxes K => match args, boxes with
  | [.ro true 5 r1], [] => Hold (F_r02_Sum k r1 (fun z0 => K (.arr 5 32 z0) []))
  | _, _ => False
def T33 (k : Nat) : Fn PU := fun args boxes K => match args, boxes with
  | [.agg [.int .i64 r1, .arr 5 32 r2, .arr 5 32 r3]], [] => Hold (F_r09_Digest k r1 r2 r3 (fun z0 z1 => K (.tup [.arr 5 32 z0, .int .i64 z1]) []))
  | _, _ => False
def T28 (k : Nat) : Fn PU := fun args boxes K => match args, boxes with
  | [.ro true 50 r1], [] => Hold (F_r10_Prev k r1 (fun z0 => K (.arr 5 32 z0) []))
  | _, _ => False
def T20 (k : Nat) : Fn PU := fun args boxes K => match args, boxes with
  | [.ro true 50 r1, .int .i64 r2], [] => Hold (F_r10_heads k r1 r2 (fun z0 => K (.bool z0) []))
  | _, _ => False
def T8 (k : Nat) : Fn PU := fun args boxes K => match args, boxes with
  | [.agg [.int .i64 r1, .ro true 42 r2, .ro true 50 r3, .ro true 53 r4]], [] => Hold (F_r10_Right k r1 r2 r3 r4 (fun z0 => K (.bool z0) []))
  | _, _ => False
def T10 (k : Nat) : Fn PU := fun args boxes K => match args, boxes with
  | [.agg [.int .i64 r1, .int .i64 r2, .int .i64 r3, .str r4, .str r5, .int .i64 r6, .arr 5 32 r7]], [] => Hold (F_r10_May k r1 r2 r3 r4 r5 r6 r7 (fun z0 => K (.bool z0) []))
  | _, _ => False
def T22 (k : Nat) : Fn PU := fun args boxes K => match args, boxes with
  | [.ro false 48 r1, .ro false 48 r2], [] => Hold (F_r08_SameVersions k r1 r2 (fun z0 => K (.bool z0) []))
  | _, _ => False
def T11 (k : Nat) : Fn PU := fun args boxes K => match args, boxes with
  | [.agg [.int .i64 r1, .ro false 42 r2, .ro false 50 r3, .ro false 53 r4], .agg [.int .i64 r5, .ro true 42 r6, .ro true 50 r7, .ro true 53 r8]], [] => Hold (F_r08_SameDirectory k r1 r2 r3 r4 r5 r6 r7 r8 (fun z0 => K (.bool z0) []))
  | _, _ => False
def T3 (k : Nat) : Fn PU := fun args boxes K => match args, boxes with
  | [.agg [.int .i64 r1, .ro false 42 r2, .ro false 50 r3, .ro false 53 r4], .agg [.int .i64 r5, .int .i64 r6, .int .i64 r7, .str r8, .str r9, .int .i64 r10, .arr 5 32 r11]], [] => Hold (F_l10_DirectoryChecks k r1 r2 r3 r4 r5 r6 r7 r8 r9 r10 r11 (fun z0 => K (.bool z0) []))
  | _, _ => False
def D12_5 (k : Nat) : Nat → List (A PU) → List (AObj PU) → (A PU → List (AObj PU) → Prop) → Prop := fun nb vals objs K => match nb, vals, objs with
  | 0, [.ptr 0 [], .int .i64 r5, .int .i64 r6], [.box (.agg [.int .i64 r7, .ro false 42 r8, .ro false 50 r9, .ro false 53 r10])] => Hold (C_r08_BigDirectory_5 k r5 r6 r7 r8 r9 r10 (fun z0 => K (.bool z0) []))
  | _, _, _ => False
def D5_3 (k : Nat) : Nat → List (A PU) → List (AObj PU) → (A PU → List (AObj PU) → Prop) → Prop := fun nb vals objs K => match nb, vals, objs with
  | 0, [.ptr 0 [], .ptr 1 [], .ptr 2 [], .int .i64 r5], [.box (.agg [.int .i64 r6, .ro false 42 r7, .ro false 50 r8, .ro false 53 r9]), .box (.agg [.int .i64 r10, .own 3, .own 4, .own 5]), .box (.agg [.int .i64 r11, .own 6, .own 7, .own 8]), .lst 42 r12, .lst 50 r13, .lst 53 r14, .lst 42 r15, .lst 50 r16, .lst 53 r17] => Hold (C_r08_OwnDirectory_3 k r5 r6 r7 r8 r9 r10 r11 r12 r13 r14 r15 r16 r17 (fun z0 z1 z2 z3 => K (.agg [.int .i64 z0, .usl 42 z1, .usl 50 z2, .usl 53 z3]) []))
  | _, _, _ => False
def D24_3 (k : Nat) : Nat → List (A PU) → List (AObj PU) → (A PU → List (AObj PU) → Prop) → Prop := fun nb vals objs K => match nb, vals, objs with
  | 0, [.ptr 0 [], .bool r4, .int .i64 r5], [.box (.agg [.int .i64 r6, .int .i64 r7, .str r8])] => Hold (C_version_may_3 k r4 r5 r6 r7 r8 (fun z0 => K (.bool z0) []))
  | _, _, _ => False
def D15_3 (k : Nat) : Nat → List (A PU) → List (AObj PU) → (A PU → List (AObj PU) → Prop) → Prop := fun nb vals objs K => match nb, vals, objs with
  | 0, [.ro false 48 r2, .bool r3, .int .i64 r4], [] => Hold (C_version_Check_3 k r2 r3 r4 (fun z0 => K (.int .i64 z0) []))
  | _, _, _ => False
def D15_4 (k : Nat) : Nat → List (A PU) → List (AObj PU) → (A PU → List (AObj PU) → Prop) → Prop := fun nb vals objs K => match nb, vals, objs with
  | 0, [.ro false 48 r10, .bool r11, .int .i64 r12], [] => Hold (C_version_Check_4 k r10 r11 r12 (fun z0 => K (.int .i64 z0) []))
  | _, _, _ => False
def D48_0 (k : Nat) : Nat → List (A PU) → List (AObj PU) → (A PU → List (AObj PU) → Prop) → Prop := fun nb vals objs K => match nb, vals, objs with
  | 3, [.yld 0, .ptr 1 []], [.lp 34 5 [6] [.ptr 2 []] 0, .box (.int .i64 r3), .box (.clip false 5 r4)] => Hold (C_octet_groups_1_0 k r3 r4 (fun z0 z1 => K (.tup []) [.lp 34 5 [6] [.ptr 2 []] 0, .box (.int .i64 z0), .box (.own 3), .lst 5 z1]))
  | 3, [.yld 0, .ptr 1 []], [.lp 34 5 [6] [.ptr 2 []] 0, .box (.int .i64 r8), .box (.own 3), .lst 5 r9] => Hold (C_octet_groups_1_0_1 k r8 r9 (fun z0 z1 => K (.tup []) [.lp 34 5 [6] [.ptr 2 []] 0, .box (.int .i64 z0), .box (.own 3), .lst 5 z1]))
  | _, _, _ => False
def D48_1 (k : Nat) : Nat → List (A PU) → List (AObj PU) → (A PU → List (AObj PU) → Prop) → Prop := fun nb vals objs K => match nb, vals, objs with
  | 3, [.yld 0, .ptr 1 []], [.lp 34 5 [6] [.ptr 2 []] 0, .box (.int .i64 r5), .box (.clip false 5 r6)] => Hold (C_octet_groups_1_1 k r5 r6 (fun z0 z1 => K (.tup []) [.lp 34 5 [6] [.ptr 2 []] 0, .box (.int .i64 z0), .box (.own 3), .lst 5 z1]))
  | 3, [.yld 0, .ptr 1 []], [.lp 34 5 [6] [.ptr 2 []] 0, .box (.int .i64 r10), .box (.own 3), .lst 5 r11] => Hold (C_octet_groups_1_1_1 k r10 r11 (fun z0 z1 => K (.tup []) [.lp 34 5 [6] [.ptr 2 []] 0, .box (.int .i64 z0), .box (.own 3), .lst 5 z1]))
  | _, _, _ => False
def D42_2 (k : Nat) : Nat → List (A PU) → List (AObj PU) → (A PU → List (AObj PU) → Prop) → Prop := fun nb vals objs K => match nb, vals, objs with
  | 1, [.ptr 0 [], .ptr 1 [], .int .i64 r4], [.box (.agg [.arr 77 8 r5, .arr 5 64 r6, .int .i64 r7]), .box (.arr 77 64 r8)] => Hold (C_sha_Hash_mix_2 k r4 r5 r6 r7 r8 (fun z0 z1 z2 => K (.tup []) [.box (.agg [.arr 77 8 z0, .arr 5 64 z1, .int .i64 z2])]))
  | _, _, _ => False
def D42_11 (k : Nat) : Nat → List (A PU) → List (AObj PU) → (A PU → List (AObj PU) → Prop) → Prop := fun nb vals objs K => match nb, vals, objs with
  | 1, [.ptr 0 [], .ptr 1 [], .int .i64 r9], [.box (.agg [.arr 77 8 r10, .arr 5 64 r11, .int .i64 r12]), .box (.arr 77 64 r13)] => Hold (C_sha_Hash_mix_11 k r9 r10 r11 r12 r13 (fun z0 z1 z2 => K (.tup []) [.box (.agg [.arr 77 8 z0, .arr 5 64 z1, .int .i64 z2])]))
  | _, _, _ => False
def D42_14 (k : Nat) : Nat → List (A PU) → List (AObj PU) → (A PU → List (AObj PU) → Prop) → Prop := fun nb vals objs K => match nb, vals, objs with
  | 1, [.ptr 0 [], .int .u32 r18, .int .u32 r19, .int .u32 r20, .int .u32 r21, .int .u32 r22, .int .u32 r23, .int .u32 r24, .int .u32 r25, .arr 77 64 r26, .int .i64 r27], [.box (.agg [.arr 77 8 r28, .arr 5 64 r29, .int .i64 r30])] => Hold (C_sha_Hash_mix_14 k r18 r19 r20 r21 r22 r23 r24 r25 r26 r27 r28 r29 r30 (fun z0 z1 z2 => K (.tup []) [.box (.agg [.arr 77 8 z0, .arr 5 64 z1, .int .i64 z2])]))
  | _, _, _ => False
def D42_23 (k : Nat) : Nat → List (A PU) → List (AObj PU) → (A PU → List (AObj PU) → Prop) → Prop := fun nb vals objs K => match nb, vals, objs with
  | 1, [.ptr 0 [], .arr 77 8 r37, .int .i64 r38], [.box (.agg [.arr 77 8 r39, .arr 5 64 r40, .int .i64 r41])] => Hold (C_sha_Hash_mix_23 k r37 r38 r39 r40 r41 (fun z0 z1 z2 => K (.tup []) [.box (.agg [.arr 77 8 z0, .arr 5 64 z1, .int .i64 z2])]))
  | _, _, _ => False
def D37_3 (k : Nat) : Nat → List (A PU) → List (AObj PU) → (A PU → List (AObj PU) → Prop) → Prop := fun nb vals objs K => match nb, vals, objs with
  | 1, [.ptr 0 [], .ro true 5 r5], [.box (.agg [.arr 77 8 r6, .arr 5 64 r7, .int .i64 r8])] => Hold (C_sha_Hash_Write_3 k r5 r6 r7 r8 (fun z0 z1 z2 z3 => K (.int .i64 z0) [.box (.agg [.arr 77 8 z1, .arr 5 64 z2, .int .i64 z3])]))
  | 1, [.ptr 0 [], .ro false 5 r5], [.box (.agg [.arr 77 8 r6, .arr 5 64 r7, .int .i64 r8])] => Hold (C_sha_Hash_Write_3 k r5 r6 r7 r8 (fun z0 z1 z2 z3 => K (.int .i64 z0) [.box (.agg [.arr 77 8 z1, .arr 5 64 z2, .int .i64 z3])]))
  | _, _, _ => False
def D38_9 (k : Nat) : Nat → List (A PU) → List (AObj PU) → (A PU → List (AObj PU) → Prop) → Prop := fun nb vals objs K => match nb, vals, objs with
  | 1, [.ptr 0 [], .ptr 1 [], .ptr 2 [], .ptr 3 [], .ptr 4 [], .int .i64 r8, .int .i64 r9], [.box (.agg [.arr 77 8 r10, .arr 5 64 r11, .int .i64 r12]), .box (.arr 5 32 r13), .box (.arr 5 32 r14), .box (.agg [.arr 77 8 r15, .arr 5 64 r16, .int .i64 r17]), .box (.arr 5 72 r18)] => Hold (C_sha_Hash_Sum_9 k r8 r9 r10 r11 r12 r13 r14 r15 r16 r17 r18 (fun z0 z1 z2 z3 => K (.arr 5 32 z0) [.box (.agg [.arr 77 8 z1, .arr 5 64 z2, .int .i64 z3])]))
  | _, _, _ => False
def D38_15 (k : Nat) : Nat → List (A PU) → List (AObj PU) → (A PU → List (AObj PU) → Prop) → Prop := fun nb vals objs K => match nb, vals, objs with
  | 1, [.ptr 1 [], .ptr 2 [], .ptr 3 [], .int .i64 r23], [.box (.agg [.arr 77 8 r24, .arr 5 64 r25, .int .i64 r26]), .box (.arr 5 32 r27), .box (.arr 5 32 r28), .box (.agg [.arr 77 8 r29, .arr 5 64 r30, .int .i64 r31])] => Hold (C_sha_Hash_Sum_15 k r23 r24 r25 r26 r27 r28 r29 r30 r31 (fun z0 z1 z2 z3 => K (.arr 5 32 z0) [.box (.agg [.arr 77 8 z1, .arr 5 64 z2, .int .i64 z3])]))
  | _, _, _ => False
def D6_2 (k : Nat) : Nat → List (A PU) → List (AObj PU) → (A PU → List (AObj PU) → Prop) → Prop := fun nb vals objs K => match nb, vals, objs with
  | 0, [.ptr 0 [], .bool r6], [.box (.agg [.int .i64 r7, .ro false 42 r8, .ro false 50 r9, .ro false 53 r10])] => Hold (C_directory_Check_2 k r6 r7 r8 r9 r10 (fun z0 => K (.int .i64 z0) []))
  | _, _, _ => False
def D6_6 (k : Nat) : Nat → List (A PU) → List (AObj PU) → (A PU → List (AObj PU) → Prop) → Prop := fun nb vals objs K => match nb, vals, objs with
  | 0, [.ptr 0 [], .bool r11, .str r12, .ro false 42 r13, .int .i64 r14, .int .i64 r15], [.box (.agg [.int .i64 r16, .ro false 42 r17, .ro false 50 r18, .ro false 53 r19])] => Hold (C_directory_Check_6 k r11 r12 r13 r14 r15 r16 r17 r18 r19 (fun z0 => K (.int .i64 z0) []))
  | _, _, _ => False
def D6_9 (k : Nat) : Nat → List (A PU) → List (AObj PU) → (A PU → List (AObj PU) → Prop) → Prop := fun nb vals objs K => match nb, vals, objs with
  | 0, [.ptr 0 [], .bool r22, .ptr 1 [], .ro false 42 r23, .int .i64 r24, .int .i64 r25], [.box (.agg [.int .i64 r26, .ro false 42 r27, .ro false 50 r28, .ro false 53 r29]), .box (.agg [.str r30, .ro false 48 r31])] => Hold (C_directory_Check_9 k r22 r23 r24 r25 r26 r27 r28 r29 r30 r31 (fun z0 => K (.int .i64 z0) []))
  | _, _, _ => False
def D6_10 (k : Nat) : Nat → List (A PU) → List (AObj PU) → (A PU → List (AObj PU) → Prop) → Prop := fun nb vals objs K => match nb, vals, objs with
  | 0, [.ptr 0 [], .bool r32, .str r33, .ro false 42 r34, .int .i64 r35, .int .i64 r36], [.box (.agg [.int .i64 r37, .ro false 42 r38, .ro false 50 r39, .ro false 53 r40])] => Hold (C_directory_Check_10 k r32 r33 r34 r35 r36 r37 r38 r39 r40 (fun z0 => K (.int .i64 z0) []))
  | _, _, _ => False
def D6_12 (k : Nat) : Nat → List (A PU) → List (AObj PU) → (A PU → List (AObj PU) → Prop) → Prop := fun nb vals objs K => match nb, vals, objs with
  | 0, [.ptr 0 [], .bool r41, .ro false 50 r42, .int .i64 r43, .int .i64 r44], [.box (.agg [.int .i64 r45, .ro false 42 r46, .ro false 50 r47, .ro false 53 r48])] => Hold (C_directory_Check_12 k r41 r42 r43 r44 r45 r46 r47 r48 (fun z0 => K (.int .i64 z0) []))
  | _, _, _ => False
def D6_15 (k : Nat) : Nat → List (A PU) → List (AObj PU) → (A PU → List (AObj PU) → Prop) → Prop := fun nb vals objs K => match nb, vals, objs with
  | 0, [.ptr 0 [], .bool r50, .ro false 50 r51, .int .i64 r52, .int .i64 r53], [.box (.agg [.int .i64 r54, .ro false 42 r55, .ro false 50 r56, .ro false 53 r57])] => Hold (C_directory_Check_15 k r50 r51 r52 r53 r54 r55 r56 r57 (fun z0 => K (.int .i64 z0) []))
  | _, _, _ => False
def D6_18 (k : Nat) : Nat → List (A PU) → List (AObj PU) → (A PU → List (AObj PU) → Prop) → Prop := fun nb vals objs K => match nb, vals, objs with
  | 0, [.ptr 0 [], .bool r58, .int .i64 r59, .ro false 53 r60, .int .i64 r61, .int .i64 r62], [.box (.agg [.int .i64 r63, .ro false 42 r64, .ro false 50 r65, .ro false 53 r66])] => Hold (C_directory_Check_18 k r58 r59 r60 r61 r62 r63 r64 r65 r66 (fun z0 => K (.int .i64 z0) []))
  | _, _, _ => False
def D6_21 (k : Nat) : Nat → List (A PU) → List (AObj PU) → (A PU → List (AObj PU) → Prop) → Prop := fun nb vals objs K => match nb, vals, objs with
  | 0, [.ptr 0 [], .bool r70, .ptr 1 [], .ro false 53 r71, .int .i64 r72, .int .i64 r73], [.box (.agg [.int .i64 r74, .ro false 42 r75, .ro false 50 r76, .ro false 53 r77]), .box (.agg [.int .i64 r78, .int .i64 r79, .int .i64 r80, .int .i64 r81])] => Hold (C_directory_Check_21 k r70 r71 r72 r73 r74 r75 r76 r77 r78 r79 r80 r81 (fun z0 => K (.int .i64 z0) []))
  | _, _, _ => False
def D6_22 (k : Nat) : Nat → List (A PU) → List (AObj PU) → (A PU → List (AObj PU) → Prop) → Prop := fun nb vals objs K => match nb, vals, objs with
  | 0, [.ptr 0 [], .bool r82, .int .i64 r83, .ro false 53 r84, .int .i64 r85, .int .i64 r86], [.box (.agg [.int .i64 r87, .ro false 42 r88, .ro false 50 r89, .ro false 53 r90])] => Hold (C_directory_Check_22 k r82 r83 r84 r85 r86 r87 r88 r89 r90 (fun z0 => K (.int .i64 z0) []))
  | _, _, _ => False
def D9_8 (k : Nat) : Nat → List (A PU) → List (AObj PU) → (A PU → List (AObj PU) → Prop) → Prop := fun nb vals objs K => match nb, vals, objs with
  | 0, [.ptr 0 [], .ptr 1 []], [.box (.agg [.int .i64 r8, .int .i64 r9, .int .i64 r10, .str r11, .str r12, .int .i64 r13, .arr 5 32 r14]), .box (.agg [.int .i64 r15, .int .i64 r16, .int .i64 r17, .str r18, .str r19, .int .i64 r20, .arr 5 32 r21])] => Hold (C_directory_May_8 k r8 r9 r10 r11 r12 r13 r14 r15 r16 r17 r18 r19 r20 r21 (fun z0 => K (.bool z0) []))
  | _, _, _ => False
def D9_12 (k : Nat) : Nat → List (A PU) → List (AObj PU) → (A PU → List (AObj PU) → Prop) → Prop := fun nb vals objs K => match nb, vals, objs with
  | 0, [.ptr 0 [], .ptr 1 [], .bool r23], [.box (.agg [.int .i64 r24, .int .i64 r25, .int .i64 r26, .str r27, .str r28, .int .i64 r29, .arr 5 32 r30]), .box (.agg [.int .i64 r31, .int .i64 r32, .int .i64 r33, .str r34, .str r35, .int .i64 r36, .arr 5 32 r37])] => Hold (C_directory_May_12 k r23 r24 r25 r26 r27 r28 r29 r30 r31 r32 r33 r34 r35 r36 r37 (fun z0 => K (.bool z0) []))
  | _, _, _ => False
def D9_13 (k : Nat) : Nat → List (A PU) → List (AObj PU) → (A PU → List (AObj PU) → Prop) → Prop := fun nb vals objs K => match nb, vals, objs with
  | 0, [.ptr 0 [], .ptr 1 [], .int .i64 r41], [.box (.agg [.int .i64 r42, .int .i64 r43, .int .i64 r44, .str r45, .str r46, .int .i64 r47, .arr 5 32 r48]), .box (.agg [.int .i64 r49, .int .i64 r50, .int .i64 r51, .str r52, .str r53, .int .i64 r54, .arr 5 32 r55])] => Hold (C_directory_May_13 k r41 r42 r43 r44 r45 r46 r47 r48 r49 r50 r51 r52 r53 r54 r55 (fun z0 => K (.bool z0) []))
  | _, _, _ => False
def D9_16 (k : Nat) : Nat → List (A PU) → List (AObj PU) → (A PU → List (AObj PU) → Prop) → Prop := fun nb vals objs K => match nb, vals, objs with
  | 0, [.ptr 0 [], .ptr 1 []], [.box (.agg [.int .i64 r56, .int .i64 r57, .int .i64 r58, .str r59, .str r60, .int .i64 r61, .arr 5 32 r62]), .box (.agg [.int .i64 r63, .int .i64 r64, .int .i64 r65, .str r66, .str r67, .int .i64 r68, .arr 5 32 r69])] => Hold (C_directory_May_16 k r56 r57 r58 r59 r60 r61 r62 r63 r64 r65 r66 r67 r68 r69 (fun z0 => K (.bool z0) []))
  | _, _, _ => False
def D9_17 (k : Nat) : Nat → List (A PU) → List (AObj PU) → (A PU → List (AObj PU) → Prop) → Prop := fun nb vals objs K => match nb, vals, objs with
  | 0, [.ptr 0 [], .ptr 1 []], [.box (.agg [.int .i64 r70, .int .i64 r71, .int .i64 r72, .str r73, .str r74, .int .i64 r75, .arr 5 32 r76]), .box (.agg [.int .i64 r77, .int .i64 r78, .int .i64 r79, .str r80, .str r81, .int .i64 r82, .arr 5 32 r83])] => Hold (C_directory_May_17 k r70 r71 r72 r73 r74 r75 r76 r77 r78 r79 r80 r81 r82 r83 (fun z0 => K (.bool z0) []))
  | _, _, _ => False
def D27_3 (k : Nat) : Nat → List (A PU) → List (AObj PU) → (A PU → List (AObj PU) → Prop) → Prop := fun nb vals objs K => match nb, vals, objs with
  | 0, [.ro false 48 r2, .ptr 0 [], .int .i64 r3], [.box (.agg [.int .i64 r4, .int .i64 r5, .str r6])] => Hold (C_r07_Is_3 k r2 r3 r4 r5 r6 (fun z0 => K (.bool z0) []))
  | _, _, _ => False
def D19_4 (k : Nat) : Nat → List (A PU) → List (AObj PU) → (A PU → List (AObj PU) → Prop) → Prop := fun nb vals objs K => match nb, vals, objs with
  | 0, [.ro true 42 r3, .int .i64 r4, .int .i64 r5], [] => Hold (C_r10_users_4 k r3 r4 r5 (fun z0 => K (.bool z0) []))
  | _, _, _ => False
def D45_4 (k : Nat) : Nat → List (A PU) → List (AObj PU) → (A PU → List (AObj PU) → Prop) → Prop := fun nb vals objs K => match nb, vals, objs with
  | 0, [.ro true 5 r2, .own 0], [.lst 5 r3] => Hold (C_r02_Padded_4 k r2 r3 (fun z0 => K (.usl 5 z0) []))
  | _, _, _ => False
def D45_8 (k : Nat) : Nat → List (A PU) → List (AObj PU) → (A PU → List (AObj PU) → Prop) → Prop := fun nb vals objs K => match nb, vals, objs with
  | 0, [.own 0, .int .u64 r4, .int .i64 r5], [.lst 5 r6] => Hold (C_r02_Padded_8 k r4 r5 r6 (fun z0 => K (.usl 5 z0) []))
  | _, _, _ => False
def D47_3 (k : Nat) : Nat → List (A PU) → List (AObj PU) → (A PU → List (AObj PU) → Prop) → Prop := fun nb vals objs K => match nb, vals, objs with
  | 0, [.ro true 5 r3, .ptr 0 [], .ptr 1 [], .ptr 2 [], .int .i64 r4], [.box (.arr 77 8 r5), .box (.arr 77 8 r6), .box (.arr 77 64 r7)] => Hold (C_r02_block_3 k r3 r4 r5 r6 r7 (fun z0 => K (.arr 77 8 z0) []))
  | _, _, _ => False
def D47_7 (k : Nat) : Nat → List (A PU) → List (AObj PU) → (A PU → List (AObj PU) → Prop) → Prop := fun nb vals objs K => match nb, vals, objs with
  | 0, [.ptr 0 [], .ptr 1 [], .ptr 2 [], .int .i64 r8], [.box (.arr 77 8 r9), .box (.arr 77 8 r10), .box (.arr 77 64 r11)] => Hold (C_r02_block_7 k r8 r9 r10 r11 (fun z0 => K (.arr 77 8 z0) []))
  | _, _, _ => False
def D47_14 (k : Nat) : Nat → List (A PU) → List (AObj PU) → (A PU → List (AObj PU) → Prop) → Prop := fun nb vals objs K => match nb, vals, objs with
  | 0, [.ptr 0 [], .ptr 1 [], .ptr 2 [], .ptr 3 [], .int .i64 r16], [.box (.arr 77 8 r17), .box (.arr 77 8 r18), .box (.arr 77 64 r19), .box (.arr 77 8 r20)] => Hold (C_r02_block_14 k r16 r17 r18 r19 r20 (fun z0 => K (.arr 77 8 z0) []))
  | _, _, _ => False
def D47_22 (k : Nat) : Nat → List (A PU) → List (AObj PU) → (A PU → List (AObj PU) → Prop) → Prop := fun nb vals objs K => match nb, vals, objs with
  | 0, [.ptr 0 [], .ptr 1 [], .ptr 2 [], .int .i64 r27], [.box (.arr 77 8 r28), .box (.arr 77 8 r29), .box (.arr 77 8 r30)] => Hold (C_r02_block_22 k r27 r28 r29 r30 (fun z0 => K (.arr 77 8 z0) []))
  | _, _, _ => False
def D40_4 (k : Nat) : Nat → List (A PU) → List (AObj PU) → (A PU → List (AObj PU) → Prop) → Prop := fun nb vals objs K => match nb, vals, objs with
  | 0, [.ptr 0 [], .own 1, .ptr 2 [], .int .i64 r4], [.box (.arr 5 32 r5), .lst 5 r6, .box (.arr 77 8 r7)] => Hold (C_r02_Sum_4 k r4 r5 r6 r7 (fun z0 => K (.arr 5 32 z0) []))
  | _, _, _ => False
def D40_9 (k : Nat) : Nat → List (A PU) → List (AObj PU) → (A PU → List (AObj PU) → Prop) → Prop := fun nb vals objs K => match nb, vals, objs with
  | 0, [.ptr 0 [], .ptr 1 [], .ptr 2 [], .int .i64 r9], [.box (.arr 5 32 r10), .box (.arr 77 8 r11), .box (.arr 5 32 r12)] => Hold (C_r02_Sum_9 k r9 r10 r11 r12 (fun z0 => K (.arr 5 32 z0) []))
  | _, _, _ => False
def D20_4 (k : Nat) : Nat → List (A PU) → List (AObj PU) → (A PU → List (AObj PU) → Prop) → Prop := fun nb vals objs K => match nb, vals, objs with
  | 0, [.ro true 50 r3, .int .i64 r4], [] => Hold (C_r10_heads_4 k r3 r4 (fun z0 => K (.bool z0) []))
  | _, _, _ => False
def D8_4 (k : Nat) : Nat → List (A PU) → List (AObj PU) → (A PU → List (AObj PU) → Prop) → Prop := fun nb vals objs K => match nb, vals, objs with
  | 0, [.ptr 0 [], .int .i64 r8], [.box (.agg [.int .i64 r9, .ro true 42 r10, .ro true 50 r11, .ro true 53 r12])] => Hold (C_r10_Right_4 k r8 r9 r10 r11 r12 (fun z0 => K (.bool z0) []))
  | _, _, _ => False
def D10_2 (k : Nat) : Nat → List (A PU) → List (AObj PU) → (A PU → List (AObj PU) → Prop) → Prop := fun nb vals objs K => match nb, vals, objs with
  | 0, [.ptr 0 [], .bool r11], [.box (.agg [.int .i64 r12, .int .i64 r13, .int .i64 r14, .str r15, .str r16, .int .i64 r17, .arr 5 32 r18])] => Hold (C_r10_May_2 k r11 r12 r13 r14 r15 r16 r17 r18 (fun z0 => K (.bool z0) []))
  | _, _, _ => False
def D10_3 (k : Nat) : Nat → List (A PU) → List (AObj PU) → (A PU → List (AObj PU) → Prop) → Prop := fun nb vals objs K => match nb, vals, objs with
  | 0, [.ptr 0 [], .bool r20, .bool r21], [.box (.agg [.int .i64 r22, .int .i64 r23, .int .i64 r24, .str r25, .str r26, .int .i64 r27, .arr 5 32 r28])] => Hold (C_r10_May_3 k r20 r21 r22 r23 r24 r25 r26 r27 r28 (fun z0 => K (.bool z0) []))
  | _, _, _ => False
def D10_4 (k : Nat) : Nat → List (A PU) → List (AObj PU) → (A PU → List (AObj PU) → Prop) → Prop := fun nb vals objs K => match nb, vals, objs with
  | 0, [.ptr 0 [], .bool r29, .bool r30, .int .i64 r31], [.box (.agg [.int .i64 r32, .int .i64 r33, .int .i64 r34, .str r35, .str r36, .int .i64 r37, .arr 5 32 r38])] => Hold (C_r10_May_4 k r29 r30 r31 r32 r33 r34 r35 r36 r37 r38 (fun z0 => K (.bool z0) []))
  | _, _, _ => False
def D10_7 (k : Nat) : Nat → List (A PU) → List (AObj PU) → (A PU → List (AObj PU) → Prop) → Prop := fun nb vals objs K => match nb, vals, objs with
  | 0, [.ptr 0 [], .bool r40, .bool r41, .int .i64 r42], [.box (.agg [.int .i64 r43, .int .i64 r44, .int .i64 r45, .str r46, .str r47, .int .i64 r48, .arr 5 32 r49])] => Hold (C_r10_May_7 k r40 r41 r42 r43 r44 r45 r46 r47 r48 r49 (fun z0 => K (.bool z0) []))
  | _, _, _ => False
def D22_4 (k : Nat) : Nat → List (A PU) → List (AObj PU) → (A PU → List (AObj PU) → Prop) → Prop := fun nb vals objs K => match nb, vals, objs with
  | 0, [.ro false 48 r3, .ro false 48 r4, .int .i64 r5], [] => Hold (C_r08_SameVersions_4 k r3 r4 r5 (fun z0 => K (.bool z0) []))
  | _, _, _ => False
def D11_4 (k : Nat) : Nat → List (A PU) → List (AObj PU) → (A PU → List (AObj PU) → Prop) → Prop := fun nb vals objs K => match nb, vals, objs with
  | 0, [.ptr 0 [], .ptr 1 [], .int .i64 r9], [.box (.agg [.int .i64 r10, .ro false 42 r11, .ro false 50 r12, .ro false 53 r13]), .box (.agg [.int .i64 r14, .ro true 42 r15, .ro true 50 r16, .ro true 53 r17])] => Hold (C_r08_SameDirectory_4 k r9 r10 r11 r12 r13 r14 r15 r16 r17 (fun z0 => K (.bool z0) []))
  | _, _, _ => False
def D11_9 (k : Nat) : Nat → List (A PU) → List (AObj PU) → (A PU → List (AObj PU) → Prop) → Prop := fun nb vals objs K => match nb, vals, objs with
  | 0, [.ptr 0 [], .ptr 1 [], .int .i64 r19], [.box (.agg [.int .i64 r20, .ro false 42 r21, .ro false 50 r22, .ro false 53 r23]), .box (.agg [.int .i64 r24, .ro true 42 r25, .ro true 50 r26, .ro true 53 r27])] => Hold (C_r08_SameDirectory_9 k r19 r20 r21 r22 r23 r24 r25 r26 r27 (fun z0 => K (.bool z0) []))
  | _, _, _ => False
def D11_14 (k : Nat) : Nat → List (A PU) → List (AObj PU) → (A PU → List (AObj PU) → Prop) → Prop := fun nb vals objs K => match nb, vals, objs with
  | 0, [.ptr 0 [], .ptr 1 [], .int .i64 r28], [.box (.agg [.int .i64 r29, .ro false 42 r30, .ro false 50 r31, .ro false 53 r32]), .box (.agg [.int .i64 r33, .ro true 42 r34, .ro true 50 r35, .ro true 53 r36])] => Hold (C_r08_SameDirectory_14 k r28 r29 r30 r31 r32 r33 r34 r35 r36 (fun z0 => K (.bool z0) []))
  | _, _, _ => False
def PTr (k : Nat) : List (Nat × Fn PU) := [(12, T12 k), (4, T4 k), (5, T5 k), (13, T13 k), (14, T14 k), (23, T23 k), (24, T24 k), (25, T25 k), (15, T15 k), (41, T41 k), (35000005, T34y5 k), (48, T48 k), (34, T34 k), (35, T35 k), (29, T29 k), (36, T36 k), (49, T49 k), (42, T42 k), (37, T37 k), (38, T38 k), (30, T30 k), (26, T26 k), (16, T16 k), (6, T6 k), (17, T17 k), (9, T9 k), (7, T7 k), (18, T18 k), (21, T21 k), (31, T31 k), (32, T32 k), (27, T27 k), (19, T19 k), (43, T43 k), (44, T44 k), (39, T39 k), (45, T45 k), (46, T46 k), (50, T50 k), (47, T47 k), (40, T40 k), (33, T33 k), (28, T28 k), (20, T20 k), (8, T8 k), (10, T10 k), (22, T22 k), (11, T11 k), (3, T3 k)]
def PCr (k : Nat) : List (Nat × Nat × (Nat → List (A PU) → List (AObj PU) → (A PU → List (AObj PU) → Prop) → Prop)) := [(12, 5, D12_5 k), (5, 3, D5_3 k), (24, 3, D24_3 k), (15, 3, D15_3 k), (15, 4, D15_4 k), (48, 0, D48_0 k), (48, 1, D48_1 k), (42, 2, D42_2 k), (42, 11, D42_11 k), (42, 14, D42_14 k), (42, 23, D42_23 k), (37, 3, D37_3 k), (38, 9, D38_9 k), (38, 15, D38_15 k), (6, 2, D6_2 k), (6, 6, D6_6 k), (6, 9, D6_9 k), (6, 10, D6_10 k), (6, 12, D6_12 k), (6, 15, D6_15 k), (6, 18, D6_18 k), (6, 21, D6_21 k), (6, 22, D6_22 k), (9, 8, D9_8 k), (9, 12, D9_12 k), (9, 13, D9_13 k), (9, 16, D9_16 k), (9, 17, D9_17 k), (27, 3, D27_3 k), (19, 4, D19_4 k), (45, 4, D45_4 k), (45, 8, D45_8 k), (47, 3, D47_3 k), (47, 7, D47_7 k), (47, 14, D47_14 k), (47, 22, D47_22 k), (40, 4, D40_4 k), (40, 9, D40_9 k), (20, 4, D20_4 k), (8, 4, D8_4 k), (10, 2, D10_2 k), (10, 3, D10_3 k), (10, 4, D10_4 k), (10, 7, D10_7 k), (22, 4, D22_4 k), (11, 4, D11_4 k), (11, 9, D11_9 k), (11, 14, D11_14 k)]
def PT (k : Nat) : Tab PU := fun f => lookT f (PTr k)
def PC (k : Nat) : Cut PU := fun f id => lookC f id (PCr k)
theorem fnok12 : fnOk PE.P 12 = true := by kernel_rfl
theorem fnok4 : fnOk PE.P 4 = true := by kernel_rfl
theorem fnok5 : fnOk PE.P 5 = true := by kernel_rfl
theorem fnok13 : fnOk PE.P 13 = true := by kernel_rfl
theorem fnok14 : fnOk PE.P 14 = true := by kernel_rfl
theorem fnok23 : fnOk PE.P 23 = true := by kernel_rfl
theorem fnok24 : fnOk PE.P 24 = true := by kernel_rfl
theorem fnok25 : fnOk PE.P 25 = true := by kernel_rfl
theorem fnok15 : fnOk PE.P 15 = true := by kernel_rfl
theorem fnok41 : fnOk PE.P 41 = true := by kernel_rfl
theorem fnok34 : fnOk PE.P 34 = true := by kernel_rfl
theorem fnok48 : fnOk PE.P 48 = true := by kernel_rfl
theorem fnok35 : fnOk PE.P 35 = true := by kernel_rfl
theorem fnok29 : fnOk PE.P 29 = true := by kernel_rfl
theorem fnok36 : fnOk PE.P 36 = true := by kernel_rfl
theorem fnok49 : fnOk PE.P 49 = true := by kernel_rfl
theorem fnok42 : fnOk PE.P 42 = true := by kernel_rfl
theorem fnok37 : fnOk PE.P 37 = true := by kernel_rfl
theorem fnok38 : fnOk PE.P 38 = true := by kernel_rfl
theorem fnok30 : fnOk PE.P 30 = true := by kernel_rfl
theorem fnok26 : fnOk PE.P 26 = true := by kernel_rfl
theorem fnok16 : fnOk PE.P 16 = true := by kernel_rfl
theorem fnok6 : fnOk PE.P 6 = true := by kernel_rfl
theorem fnok17 : fnOk PE.P 17 = true := by kernel_rfl
theorem fnok9 : fnOk PE.P 9 = true := by kernel_rfl
theorem fnok7 : fnOk PE.P 7 = true := by kernel_rfl
theorem fnok18 : fnOk PE.P 18 = true := by kernel_rfl
theorem fnok21 : fnOk PE.P 21 = true := by kernel_rfl
theorem fnok31 : fnOk PE.P 31 = true := by kernel_rfl
theorem fnok32 : fnOk PE.P 32 = true := by kernel_rfl
theorem fnok27 : fnOk PE.P 27 = true := by kernel_rfl
theorem fnok19 : fnOk PE.P 19 = true := by kernel_rfl
theorem fnok43 : fnOk PE.P 43 = true := by kernel_rfl
theorem fnok44 : fnOk PE.P 44 = true := by kernel_rfl
theorem fnok39 : fnOk PE.P 39 = true := by kernel_rfl
theorem fnok45 : fnOk PE.P 45 = true := by kernel_rfl
theorem fnok46 : fnOk PE.P 46 = true := by kernel_rfl
theorem fnok50 : fnOk PE.P 50 = true := by kernel_rfl
theorem fnok47 : fnOk PE.P 47 = true := by kernel_rfl
theorem fnok40 : fnOk PE.P 40 = true := by kernel_rfl
theorem fnok33 : fnOk PE.P 33 = true := by kernel_rfl
theorem fnok28 : fnOk PE.P 28 = true := by kernel_rfl
theorem fnok20 : fnOk PE.P 20 = true := by kernel_rfl
theorem fnok8 : fnOk PE.P 8 = true := by kernel_rfl
theorem fnok10 : fnOk PE.P 10 = true := by kernel_rfl
theorem fnok22 : fnOk PE.P 22 = true := by kernel_rfl
theorem fnok11 : fnOk PE.P 11 = true := by kernel_rfl
theorem fnok3 : fnOk PE.P 3 = true := by kernel_rfl
theorem T12_z (args : List (A PU)) (objs : List (AObj PU)) (K : A PU → List (AObj PU) → Prop) : ¬ T12 0 args objs K := by
  intro h; unfold T12 at h; split at h <;> (first | exact h | exact h.out)
theorem T12_ok (k : Nat) (args : List (A PU)) (objs : List (AObj PU)) (K : A PU → List (AObj PU) → Prop) (h : T12 (k + 1) args objs K) : RowOk PE (PT k) (PC k) 12 args objs K := by
  unfold T12 at h; split at h
  · exact .fn fnok12 rfl (Hold.mp (by kernel_rfl) h.out)
  · exact h.elim
theorem T4_z (args : List (A PU)) (objs : List (AObj PU)) (K : A PU → List (AObj PU) → Prop) : ¬ T4 0 args objs K := by
  intro h; unfold T4 at h; split at h <;> (first | exact h | exact h.out)
theorem T4_ok (k : Nat) (args : List (A PU)) (objs : List (AObj PU)) (K : A PU → List (AObj PU) → Prop) (h : T4 (k + 1) args objs K) : RowOk PE (PT k) (PC k) 4 args objs K := by
  unfold T4 at h; split at h
  · exact .fn fnok4 rfl (Hold.mp (by kernel_rfl) h.out)
  · exact h.elim
theorem T5_z (args : List (A PU)) (objs : List (AObj PU)) (K : A PU → List (AObj PU) → Prop) : ¬ T5 0 args objs K := by
  intro h; unfold T5 at h; split at h <;> (first | exact h | exact h.out)
theorem T5_ok (k : Nat) (args : List (A PU)) (objs : List (AObj PU)) (K : A PU → List (AObj PU) → Prop) (h : T5 (k + 1) args objs K) : RowOk PE (PT k) (PC k) 5 args objs K := by
  unfold T5 at h; split at h
  · exact .fn fnok5 rfl (Hold.mp (by kernel_rfl) h.out)
  · exact h.elim
theorem T13_z (args : List (A PU)) (objs : List (AObj PU)) (K : A PU → List (AObj PU) → Prop) : ¬ T13 0 args objs K := by
  intro h; unfold T13 at h; split at h <;> (first | exact h | exact h.out)
theorem T13_ok (k : Nat) (args : List (A PU)) (objs : List (AObj PU)) (K : A PU → List (AObj PU) → Prop) (h : T13 (k + 1) args objs K) : RowOk PE (PT k) (PC k) 13 args objs K := by
  unfold T13 at h; split at h
  · exact .fn fnok13 rfl (Hold.mp (by kernel_rfl) h.out)
  · exact h.elim
theorem T14_z (args : List (A PU)) (objs : List (AObj PU)) (K : A PU → List (AObj PU) → Prop) : ¬ T14 0 args objs K := by
  intro h; unfold T14 at h; split at h <;> (first | exact h | exact h.out)
theorem T14_ok (k : Nat) (args : List (A PU)) (objs : List (AObj PU)) (K : A PU → List (AObj PU) → Prop) (h : T14 (k + 1) args objs K) : RowOk PE (PT k) (PC k) 14 args objs K := by
  unfold T14 at h; split at h
  · exact .fn fnok14 rfl (Hold.mp (by kernel_rfl) h.out)
  · exact h.elim
theorem T23_z (args : List (A PU)) (objs : List (AObj PU)) (K : A PU → List (AObj PU) → Prop) : ¬ T23 0 args objs K := by
  intro h; unfold T23 at h; split at h <;> (first | exact h | exact h.out)
theorem T23_ok (k : Nat) (args : List (A PU)) (objs : List (AObj PU)) (K : A PU → List (AObj PU) → Prop) (h : T23 (k + 1) args objs K) : RowOk PE (PT k) (PC k) 23 args objs K := by
  unfold T23 at h; split at h
  · exact .fn fnok23 rfl (Hold.mp (by kernel_rfl) h.out)
  · exact h.elim
theorem T24_z (args : List (A PU)) (objs : List (AObj PU)) (K : A PU → List (AObj PU) → Prop) : ¬ T24 0 args objs K := by
  intro h; unfold T24 at h; split at h <;> (first | exact h | exact h.out)
theorem T24_ok (k : Nat) (args : List (A PU)) (objs : List (AObj PU)) (K : A PU → List (AObj PU) → Prop) (h : T24 (k + 1) args objs K) : RowOk PE (PT k) (PC k) 24 args objs K := by
  unfold T24 at h; split at h
  · exact .fn fnok24 rfl (Hold.mp (by kernel_rfl) h.out)
  · exact h.elim
theorem T25_z (args : List (A PU)) (objs : List (AObj PU)) (K : A PU → List (AObj PU) → Prop) : ¬ T25 0 args objs K := by
  intro h; unfold T25 at h; split at h <;> (first | exact h | exact h.out)
theorem T25_ok (k : Nat) (args : List (A PU)) (objs : List (AObj PU)) (K : A PU → List (AObj PU) → Prop) (h : T25 (k + 1) args objs K) : RowOk PE (PT k) (PC k) 25 args objs K := by
  unfold T25 at h; split at h
  · exact .fn fnok25 rfl (Hold.mp (by kernel_rfl) h.out)
  · exact h.elim
theorem T15_z (args : List (A PU)) (objs : List (AObj PU)) (K : A PU → List (AObj PU) → Prop) : ¬ T15 0 args objs K := by
  intro h; unfold T15 at h; split at h <;> (first | exact h | exact h.out)
theorem T15_ok (k : Nat) (args : List (A PU)) (objs : List (AObj PU)) (K : A PU → List (AObj PU) → Prop) (h : T15 (k + 1) args objs K) : RowOk PE (PT k) (PC k) 15 args objs K := by
  unfold T15 at h; split at h
  · exact .fn fnok15 rfl (Hold.mp (by kernel_rfl) h.out)
  · exact h.elim
theorem T41_z (args : List (A PU)) (objs : List (AObj PU)) (K : A PU → List (AObj PU) → Prop) : ¬ T41 0 args objs K := by
  intro h; unfold T41 at h; split at h <;> (first | exact h | exact h.out)
theorem T41_ok (k : Nat) (args : List (A PU)) (objs : List (AObj PU)) (K : A PU → List (AObj PU) → Prop) (h : T41 (k + 1) args objs K) : RowOk PE (PT k) (PC k) 41 args objs K := by
  unfold T41 at h; split at h
  · exact .fn fnok41 rfl (Hold.mp (by kernel_rfl) h.out)
  · exact h.elim
theorem T34y5_z (args : List (A PU)) (objs : List (AObj PU)) (K : A PU → List (AObj PU) → Prop) : ¬ T34y5 0 args objs K := by
  intro h; unfold T34y5 at h; split at h <;> (first | exact h | exact h.out)
theorem T34y5_ok (k : Nat) (args : List (A PU)) (objs : List (AObj PU)) (K : A PU → List (AObj PU) → Prop) (h : T34y5 (k + 1) args objs K) : RowOk PE (PT k) (PC k) 35000005 args objs K := by
  unfold T34y5 at h; split at h
  · exact .round 34 5 rfl fnok34 rfl (Hold.mp (by kernel_rfl) h.out)
  · exact .round 34 5 rfl fnok34 rfl (Hold.mp (by kernel_rfl) h.out)
  · exact h.elim
theorem T48_z (args : List (A PU)) (objs : List (AObj PU)) (K : A PU → List (AObj PU) → Prop) : ¬ T48 0 args objs K := by
  intro h; unfold T48 at h; split at h <;> (first | exact h | exact h.out)
theorem T48_ok (k : Nat) (args : List (A PU)) (objs : List (AObj PU)) (K : A PU → List (AObj PU) → Prop) (h : T48 (k + 1) args objs K) : RowOk PE (PT k) (PC k) 48 args objs K := by
  unfold T48 at h; split at h
  · exact .fn fnok48 rfl (Hold.mp (by kernel_rfl) h.out)
  · exact h.elim
theorem T34_z (args : List (A PU)) (objs : List (AObj PU)) (K : A PU → List (AObj PU) → Prop) : ¬ T34 0 args objs K := by
  intro h; unfold T34 at h; split at h <;> (first | exact h | exact h.out)
theorem T34_ok (k : Nat) (args : List (A PU)) (objs : List (AObj PU)) (K : A PU → List (AObj PU) → Prop) (h : T34 (k + 1) args objs K) : RowOk PE (PT k) (PC k) 34 args objs K := by
  unfold T34 at h; split at h
  · exact .fn fnok34 rfl (Hold.mp (by kernel_rfl) h.out)
  · exact h.elim
theorem T35_z (args : List (A PU)) (objs : List (AObj PU)) (K : A PU → List (AObj PU) → Prop) : ¬ T35 0 args objs K := by
  intro h; unfold T35 at h; split at h <;> (first | exact h | exact h.out)
theorem T35_ok (k : Nat) (args : List (A PU)) (objs : List (AObj PU)) (K : A PU → List (AObj PU) → Prop) (h : T35 (k + 1) args objs K) : RowOk PE (PT k) (PC k) 35 args objs K := by
  unfold T35 at h; split at h
  · exact .fn fnok35 rfl (Hold.mp (by kernel_rfl) h.out)
  · exact h.elim
theorem T29_z (args : List (A PU)) (objs : List (AObj PU)) (K : A PU → List (AObj PU) → Prop) : ¬ T29 0 args objs K := by
  intro h; unfold T29 at h; split at h <;> (first | exact h | exact h.out)
theorem T29_ok (k : Nat) (args : List (A PU)) (objs : List (AObj PU)) (K : A PU → List (AObj PU) → Prop) (h : T29 (k + 1) args objs K) : RowOk PE (PT k) (PC k) 29 args objs K := by
  unfold T29 at h; split at h
  · exact .fn fnok29 rfl (Hold.mp (by kernel_rfl) h.out)
  · exact h.elim
theorem T36_z (args : List (A PU)) (objs : List (AObj PU)) (K : A PU → List (AObj PU) → Prop) : ¬ T36 0 args objs K := by
  intro h; unfold T36 at h; split at h <;> (first | exact h | exact h.out)
theorem T36_ok (k : Nat) (args : List (A PU)) (objs : List (AObj PU)) (K : A PU → List (AObj PU) → Prop) (h : T36 (k + 1) args objs K) : RowOk PE (PT k) (PC k) 36 args objs K := by
  unfold T36 at h; split at h
  · exact .fn fnok36 rfl (Hold.mp (by kernel_rfl) h.out)
  · exact h.elim
theorem T49_z (args : List (A PU)) (objs : List (AObj PU)) (K : A PU → List (AObj PU) → Prop) : ¬ T49 0 args objs K := by
  intro h; unfold T49 at h; split at h <;> (first | exact h | exact h.out)
theorem T49_ok (k : Nat) (args : List (A PU)) (objs : List (AObj PU)) (K : A PU → List (AObj PU) → Prop) (h : T49 (k + 1) args objs K) : RowOk PE (PT k) (PC k) 49 args objs K := by
  unfold T49 at h; split at h
  · exact .fn fnok49 rfl (Hold.mp (by kernel_rfl) h.out)
  · exact h.elim
theorem T42_z (args : List (A PU)) (objs : List (AObj PU)) (K : A PU → List (AObj PU) → Prop) : ¬ T42 0 args objs K := by
  intro h; unfold T42 at h; split at h <;> (first | exact h | exact h.out)
theorem T42_ok (k : Nat) (args : List (A PU)) (objs : List (AObj PU)) (K : A PU → List (AObj PU) → Prop) (h : T42 (k + 1) args objs K) : RowOk PE (PT k) (PC k) 42 args objs K := by
  unfold T42 at h; split at h
  · exact .fn fnok42 rfl (Hold.mp (by kernel_rfl) h.out)
  · exact h.elim
theorem T37_z (args : List (A PU)) (objs : List (AObj PU)) (K : A PU → List (AObj PU) → Prop) : ¬ T37 0 args objs K := by
  intro h; unfold T37 at h; split at h <;> (first | exact h | exact h.out)
theorem T37_ok (k : Nat) (args : List (A PU)) (objs : List (AObj PU)) (K : A PU → List (AObj PU) → Prop) (h : T37 (k + 1) args objs K) : RowOk PE (PT k) (PC k) 37 args objs K := by
  unfold T37 at h; split at h
  · exact .fn fnok37 rfl (Hold.mp (by kernel_rfl) h.out)
  · exact .fn fnok37 rfl (Hold.mp (by kernel_rfl) h.out)
  · exact h.elim
theorem T38_z (args : List (A PU)) (objs : List (AObj PU)) (K : A PU → List (AObj PU) → Prop) : ¬ T38 0 args objs K := by
  intro h; unfold T38 at h; split at h <;> (first | exact h | exact h.out)
theorem T38_ok (k : Nat) (args : List (A PU)) (objs : List (AObj PU)) (K : A PU → List (AObj PU) → Prop) (h : T38 (k + 1) args objs K) : RowOk PE (PT k) (PC k) 38 args objs K := by
  unfold T38 at h; split at h
  · exact .fn fnok38 rfl (Hold.mp (by kernel_rfl) h.out)
  · exact h.elim
theorem T30_z (args : List (A PU)) (objs : List (AObj PU)) (K : A PU → List (AObj PU) → Prop) : ¬ T30 0 args objs K := by
  intro h; unfold T30 at h; split at h <;> (first | exact h | exact h.out)
theorem T30_ok (k : Nat) (args : List (A PU)) (objs : List (AObj PU)) (K : A PU → List (AObj PU) → Prop) (h : T30 (k + 1) args objs K) : RowOk PE (PT k) (PC k) 30 args objs K := by
  unfold T30 at h; split at h
  · exact .fn fnok30 rfl (Hold.mp (by kernel_rfl) h.out)
  · exact h.elim
theorem T26_z (args : List (A PU)) (objs : List (AObj PU)) (K : A PU → List (AObj PU) → Prop) : ¬ T26 0 args objs K := by
  intro h; unfold T26 at h; split at h <;> (first | exact h | exact h.out)
theorem T26_ok (k : Nat) (args : List (A PU)) (objs : List (AObj PU)) (K : A PU → List (AObj PU) → Prop) (h : T26 (k + 1) args objs K) : RowOk PE (PT k) (PC k) 26 args objs K := by
  unfold T26 at h; split at h
  · exact .fn fnok26 rfl (Hold.mp (by kernel_rfl) h.out)
  · exact h.elim
theorem T16_z (args : List (A PU)) (objs : List (AObj PU)) (K : A PU → List (AObj PU) → Prop) : ¬ T16 0 args objs K := by
  intro h; unfold T16 at h; split at h <;> (first | exact h | exact h.out)
theorem T16_ok (k : Nat) (args : List (A PU)) (objs : List (AObj PU)) (K : A PU → List (AObj PU) → Prop) (h : T16 (k + 1) args objs K) : RowOk PE (PT k) (PC k) 16 args objs K := by
  unfold T16 at h; split at h
  · exact .fn fnok16 rfl (Hold.mp (by kernel_rfl) h.out)
  · exact h.elim
theorem T6_z (args : List (A PU)) (objs : List (AObj PU)) (K : A PU → List (AObj PU) → Prop) : ¬ T6 0 args objs K := by
  intro h; unfold T6 at h; split at h <;> (first | exact h | exact h.out)
theorem T6_ok (k : Nat) (args : List (A PU)) (objs : List (AObj PU)) (K : A PU → List (AObj PU) → Prop) (h : T6 (k + 1) args objs K) : RowOk PE (PT k) (PC k) 6 args objs K := by
  unfold T6 at h; split at h
  · exact .fn fnok6 rfl (Hold.mp (by kernel_rfl) h.out)
  · exact h.elim
theorem T17_z (args : List (A PU)) (objs : List (AObj PU)) (K : A PU → List (AObj PU) → Prop) : ¬ T17 0 args objs K := by
  intro h; unfold T17 at h; split at h <;> (first | exact h | exact h.out)
theorem T17_ok (k : Nat) (args : List (A PU)) (objs : List (AObj PU)) (K : A PU → List (AObj PU) → Prop) (h : T17 (k + 1) args objs K) : RowOk PE (PT k) (PC k) 17 args objs K := by
  unfold T17 at h; split at h
  · exact .fn fnok17 rfl (Hold.mp (by kernel_rfl) h.out)
  · exact h.elim
theorem T9_z (args : List (A PU)) (objs : List (AObj PU)) (K : A PU → List (AObj PU) → Prop) : ¬ T9 0 args objs K := by
  intro h; unfold T9 at h; split at h <;> (first | exact h | exact h.out)
theorem T9_ok (k : Nat) (args : List (A PU)) (objs : List (AObj PU)) (K : A PU → List (AObj PU) → Prop) (h : T9 (k + 1) args objs K) : RowOk PE (PT k) (PC k) 9 args objs K := by
  unfold T9 at h; split at h
  · exact .fn fnok9 rfl (Hold.mp (by kernel_rfl) h.out)
  · exact h.elim
theorem T7_z (args : List (A PU)) (objs : List (AObj PU)) (K : A PU → List (AObj PU) → Prop) : ¬ T7 0 args objs K := by
  intro h; unfold T7 at h; split at h <;> (first | exact h | exact h.out)
theorem T7_ok (k : Nat) (args : List (A PU)) (objs : List (AObj PU)) (K : A PU → List (AObj PU) → Prop) (h : T7 (k + 1) args objs K) : RowOk PE (PT k) (PC k) 7 args objs K := by
  unfold T7 at h; split at h
  · exact .fn fnok7 rfl (Hold.mp (by kernel_rfl) h.out)
  · exact h.elim
theorem T18_z (args : List (A PU)) (objs : List (AObj PU)) (K : A PU → List (AObj PU) → Prop) : ¬ T18 0 args objs K := by
  intro h; unfold T18 at h; split at h <;> (first | exact h | exact h.out)
theorem T18_ok (k : Nat) (args : List (A PU)) (objs : List (AObj PU)) (K : A PU → List (AObj PU) → Prop) (h : T18 (k + 1) args objs K) : RowOk PE (PT k) (PC k) 18 args objs K := by
  unfold T18 at h; split at h
  · exact .fn fnok18 rfl (Hold.mp (by kernel_rfl) h.out)
  · exact h.elim
theorem T21_z (args : List (A PU)) (objs : List (AObj PU)) (K : A PU → List (AObj PU) → Prop) : ¬ T21 0 args objs K := by
  intro h; unfold T21 at h; split at h <;> (first | exact h | exact h.out)
theorem T21_ok (k : Nat) (args : List (A PU)) (objs : List (AObj PU)) (K : A PU → List (AObj PU) → Prop) (h : T21 (k + 1) args objs K) : RowOk PE (PT k) (PC k) 21 args objs K := by
  unfold T21 at h; split at h
  · exact .fn fnok21 rfl (Hold.mp (by kernel_rfl) h.out)
  · exact h.elim
theorem T31_z (args : List (A PU)) (objs : List (AObj PU)) (K : A PU → List (AObj PU) → Prop) : ¬ T31 0 args objs K := by
  intro h; unfold T31 at h; split at h <;> (first | exact h | exact h.out)
theorem T31_ok (k : Nat) (args : List (A PU)) (objs : List (AObj PU)) (K : A PU → List (AObj PU) → Prop) (h : T31 (k + 1) args objs K) : RowOk PE (PT k) (PC k) 31 args objs K := by
  unfold T31 at h; split at h
  · exact .fn fnok31 rfl (Hold.mp (by kernel_rfl) h.out)
  · exact h.elim
theorem T32_z (args : List (A PU)) (objs : List (AObj PU)) (K : A PU → List (AObj PU) → Prop) : ¬ T32 0 args objs K := by
  intro h; unfold T32 at h; split at h <;> (first | exact h | exact h.out)
theorem T32_ok (k : Nat) (args : List (A PU)) (objs : List (AObj PU)) (K : A PU → List (AObj PU) → Prop) (h : T32 (k + 1) args objs K) : RowOk PE (PT k) (PC k) 32 args objs K := by
  unfold T32 at h; split at h
  · exact .fn fnok32 rfl (Hold.mp (by kernel_rfl) h.out)
  · exact h.elim
theorem T27_z (args : List (A PU)) (objs : List (AObj PU)) (K : A PU → List (AObj PU) → Prop) : ¬ T27 0 args objs K := by
  intro h; unfold T27 at h; split at h <;> (first | exact h | exact h.out)
theorem T27_ok (k : Nat) (args : List (A PU)) (objs : List (AObj PU)) (K : A PU → List (AObj PU) → Prop) (h : T27 (k + 1) args objs K) : RowOk PE (PT k) (PC k) 27 args objs K := by
  unfold T27 at h; split at h
  · exact .fn fnok27 rfl (Hold.mp (by kernel_rfl) h.out)
  · exact h.elim
theorem T19_z (args : List (A PU)) (objs : List (AObj PU)) (K : A PU → List (AObj PU) → Prop) : ¬ T19 0 args objs K := by
  intro h; unfold T19 at h; split at h <;> (first | exact h | exact h.out)
theorem T19_ok (k : Nat) (args : List (A PU)) (objs : List (AObj PU)) (K : A PU → List (AObj PU) → Prop) (h : T19 (k + 1) args objs K) : RowOk PE (PT k) (PC k) 19 args objs K := by
  unfold T19 at h; split at h
  · exact .fn fnok19 rfl (Hold.mp (by kernel_rfl) h.out)
  · exact h.elim
theorem T43_z (args : List (A PU)) (objs : List (AObj PU)) (K : A PU → List (AObj PU) → Prop) : ¬ T43 0 args objs K := by
  intro h; unfold T43 at h; split at h <;> (first | exact h | exact h.out)
theorem T43_ok (k : Nat) (args : List (A PU)) (objs : List (AObj PU)) (K : A PU → List (AObj PU) → Prop) (h : T43 (k + 1) args objs K) : RowOk PE (PT k) (PC k) 43 args objs K := by
  unfold T43 at h; split at h
  · exact .fn fnok43 rfl (Hold.mp (by kernel_rfl) h.out)
  · exact h.elim
theorem T44_z (args : List (A PU)) (objs : List (AObj PU)) (K : A PU → List (AObj PU) → Prop) : ¬ T44 0 args objs K := by
  intro h; unfold T44 at h; split at h <;> (first | exact h | exact h.out)
theorem T44_ok (k : Nat) (args : List (A PU)) (objs : List (AObj PU)) (K : A PU → List (AObj PU) → Prop) (h : T44 (k + 1) args objs K) : RowOk PE (PT k) (PC k) 44 args objs K := by
  unfold T44 at h; split at h
  · exact .fn fnok44 rfl (Hold.mp (by kernel_rfl) h.out)
  · exact h.elim
theorem T39_z (args : List (A PU)) (objs : List (AObj PU)) (K : A PU → List (AObj PU) → Prop) : ¬ T39 0 args objs K := by
  intro h; unfold T39 at h; split at h <;> (first | exact h | exact h.out)
theorem T39_ok (k : Nat) (args : List (A PU)) (objs : List (AObj PU)) (K : A PU → List (AObj PU) → Prop) (h : T39 (k + 1) args objs K) : RowOk PE (PT k) (PC k) 39 args objs K := by
  unfold T39 at h; split at h
  · exact .fn fnok39 rfl (Hold.mp (by kernel_rfl) h.out)
  · exact h.elim
theorem T45_z (args : List (A PU)) (objs : List (AObj PU)) (K : A PU → List (AObj PU) → Prop) : ¬ T45 0 args objs K := by
  intro h; unfold T45 at h; split at h <;> (first | exact h | exact h.out)
theorem T45_ok (k : Nat) (args : List (A PU)) (objs : List (AObj PU)) (K : A PU → List (AObj PU) → Prop) (h : T45 (k + 1) args objs K) : RowOk PE (PT k) (PC k) 45 args objs K := by
  unfold T45 at h; split at h
  · exact .fn fnok45 rfl (Hold.mp (by kernel_rfl) h.out)
  · exact h.elim
theorem T46_z (args : List (A PU)) (objs : List (AObj PU)) (K : A PU → List (AObj PU) → Prop) : ¬ T46 0 args objs K := by
  intro h; unfold T46 at h; split at h <;> (first | exact h | exact h.out)
theorem T46_ok (k : Nat) (args : List (A PU)) (objs : List (AObj PU)) (K : A PU → List (AObj PU) → Prop) (h : T46 (k + 1) args objs K) : RowOk PE (PT k) (PC k) 46 args objs K := by
  unfold T46 at h; split at h
  · exact .fn fnok46 rfl (Hold.mp (by kernel_rfl) h.out)
  · exact h.elim
theorem T50_z (args : List (A PU)) (objs : List (AObj PU)) (K : A PU → List (AObj PU) → Prop) : ¬ T50 0 args objs K := by
  intro h; unfold T50 at h; split at h <;> (first | exact h | exact h.out)
theorem T50_ok (k : Nat) (args : List (A PU)) (objs : List (AObj PU)) (K : A PU → List (AObj PU) → Prop) (h : T50 (k + 1) args objs K) : RowOk PE (PT k) (PC k) 50 args objs K := by
  unfold T50 at h; split at h
  · exact .fn fnok50 rfl (Hold.mp (by kernel_rfl) h.out)
  · exact h.elim
theorem T47_z (args : List (A PU)) (objs : List (AObj PU)) (K : A PU → List (AObj PU) → Prop) : ¬ T47 0 args objs K := by
  intro h; unfold T47 at h; split at h <;> (first | exact h | exact h.out)
theorem T47_ok (k : Nat) (args : List (A PU)) (objs : List (AObj PU)) (K : A PU → List (AObj PU) → Prop) (h : T47 (k + 1) args objs K) : RowOk PE (PT k) (PC k) 47 args objs K := by
  unfold T47 at h; split at h
  · exact .fn fnok47 rfl (Hold.mp (by kernel_rfl) h.out)
  · exact h.elim
theorem T40_z (args : List (A PU)) (objs : List (AObj PU)) (K : A PU → List (AObj PU) → Prop) : ¬ T40 0 args objs K := by
  intro h; unfold T40 at h; split at h <;> (first | exact h | exact h.out)
theorem T40_ok (k : Nat) (args : List (A PU)) (objs : List (AObj PU)) (K : A PU → List (AObj PU) → Prop) (h : T40 (k + 1) args objs K) : RowOk PE (PT k) (PC k) 40 args objs K := by
  unfold T40 at h; split at h
  · exact .fn fnok40 rfl (Hold.mp (by kernel_rfl) h.out)
  · exact h.elim
theorem T33_z (args : List (A PU)) (objs : List (AObj PU)) (K : A PU → List (AObj PU) → Prop) : ¬ T33 0 args objs K := by
  intro h; unfold T33 at h; split at h <;> (first | exact h | exact h.out)
theorem T33_ok (k : Nat) (args : List (A PU)) (objs : List (AObj PU)) (K : A PU → List (AObj PU) → Prop) (h : T33 (k + 1) args objs K) : RowOk PE (PT k) (PC k) 33 args objs K := by
  unfold T33 at h; split at h
  · exact .fn fnok33 rfl (Hold.mp (by kernel_rfl) h.out)
  · exact h.elim
theorem T28_z (args : List (A PU)) (objs : List (AObj PU)) (K : A PU → List (AObj PU) → Prop) : ¬ T28 0 args objs K := by
  intro h; unfold T28 at h; split at h <;> (first | exact h | exact h.out)
theorem T28_ok (k : Nat) (args : List (A PU)) (objs : List (AObj PU)) (K : A PU → List (AObj PU) → Prop) (h : T28 (k + 1) args objs K) : RowOk PE (PT k) (PC k) 28 args objs K := by
  unfold T28 at h; split at h
  · exact .fn fnok28 rfl (Hold.mp (by kernel_rfl) h.out)
  · exact h.elim
theorem T20_z (args : List (A PU)) (objs : List (AObj PU)) (K : A PU → List (AObj PU) → Prop) : ¬ T20 0 args objs K := by
  intro h; unfold T20 at h; split at h <;> (first | exact h | exact h.out)
theorem T20_ok (k : Nat) (args : List (A PU)) (objs : List (AObj PU)) (K : A PU → List (AObj PU) → Prop) (h : T20 (k + 1) args objs K) : RowOk PE (PT k) (PC k) 20 args objs K := by
  unfold T20 at h; split at h
  · exact .fn fnok20 rfl (Hold.mp (by kernel_rfl) h.out)
  · exact h.elim
theorem T8_z (args : List (A PU)) (objs : List (AObj PU)) (K : A PU → List (AObj PU) → Prop) : ¬ T8 0 args objs K := by
  intro h; unfold T8 at h; split at h <;> (first | exact h | exact h.out)
theorem T8_ok (k : Nat) (args : List (A PU)) (objs : List (AObj PU)) (K : A PU → List (AObj PU) → Prop) (h : T8 (k + 1) args objs K) : RowOk PE (PT k) (PC k) 8 args objs K := by
  unfold T8 at h; split at h
  · exact .fn fnok8 rfl (Hold.mp (by kernel_rfl) h.out)
  · exact h.elim
theorem T10_z (args : List (A PU)) (objs : List (AObj PU)) (K : A PU → List (AObj PU) → Prop) : ¬ T10 0 args objs K := by
  intro h; unfold T10 at h; split at h <;> (first | exact h | exact h.out)
theorem T10_ok (k : Nat) (args : List (A PU)) (objs : List (AObj PU)) (K : A PU → List (AObj PU) → Prop) (h : T10 (k + 1) args objs K) : RowOk PE (PT k) (PC k) 10 args objs K := by
  unfold T10 at h; split at h
  · exact .fn fnok10 rfl (Hold.mp (by kernel_rfl) h.out)
  · exact h.elim
theorem T22_z (args : List (A PU)) (objs : List (AObj PU)) (K : A PU → List (AObj PU) → Prop) : ¬ T22 0 args objs K := by
  intro h; unfold T22 at h; split at h <;> (first | exact h | exact h.out)
theorem T22_ok (k : Nat) (args : List (A PU)) (objs : List (AObj PU)) (K : A PU → List (AObj PU) → Prop) (h : T22 (k + 1) args objs K) : RowOk PE (PT k) (PC k) 22 args objs K := by
  unfold T22 at h; split at h
  · exact .fn fnok22 rfl (Hold.mp (by kernel_rfl) h.out)
  · exact h.elim
theorem T11_z (args : List (A PU)) (objs : List (AObj PU)) (K : A PU → List (AObj PU) → Prop) : ¬ T11 0 args objs K := by
  intro h; unfold T11 at h; split at h <;> (first | exact h | exact h.out)
theorem T11_ok (k : Nat) (args : List (A PU)) (objs : List (AObj PU)) (K : A PU → List (AObj PU) → Prop) (h : T11 (k + 1) args objs K) : RowOk PE (PT k) (PC k) 11 args objs K := by
  unfold T11 at h; split at h
  · exact .fn fnok11 rfl (Hold.mp (by kernel_rfl) h.out)
  · exact h.elim
theorem T3_z (args : List (A PU)) (objs : List (AObj PU)) (K : A PU → List (AObj PU) → Prop) : ¬ T3 0 args objs K := by
  intro h; unfold T3 at h; split at h <;> (first | exact h | exact h.out)
theorem T3_ok (k : Nat) (args : List (A PU)) (objs : List (AObj PU)) (K : A PU → List (AObj PU) → Prop) (h : T3 (k + 1) args objs K) : RowOk PE (PT k) (PC k) 3 args objs K := by
  unfold T3 at h; split at h
  · exact .fn fnok3 rfl (Hold.mp (by kernel_rfl) h.out)
  · exact h.elim
theorem D12_5_z (nb : Nat) (vals : List (A PU)) (objs : List (AObj PU)) (K : A PU → List (AObj PU) → Prop) : ¬ D12_5 0 nb vals objs K := by
  intro h; unfold D12_5 at h; split at h <;> (first | exact h | exact h.out)
theorem D12_5_ok (k : Nat) (live : List Nat) (hl : cutOf 12 5 PE.cuts = some live) (nb : Nat) (vals : List (A PU)) (objs : List (AObj PU)) (K : A PU → List (AObj PU) → Prop) (h : D12_5 (k + 1) nb vals objs K) : fnOk PE.P 12 = true ∧ Hold (vcut PE (PT k) (PC k) 12 5 live nb vals objs K) := by
  obtain rfl : live = [1, 3, 4] := Option.some.inj (hl.symm.trans (by kernel_rfl : cutOf 12 5 PE.cuts = some [1, 3, 4]))
  refine ⟨fnok12, ?_⟩; unfold D12_5 at h; split at h
  · exact Hold.mp (by kernel_rfl) h.out
  · exact h.elim
theorem D5_3_z (nb : Nat) (vals : List (A PU)) (objs : List (AObj PU)) (K : A PU → List (AObj PU) → Prop) : ¬ D5_3 0 nb vals objs K := by
  intro h; unfold D5_3 at h; split at h <;> (first | exact h | exact h.out)
theorem D5_3_ok (k : Nat) (live : List Nat) (hl : cutOf 5 3 PE.cuts = some live) (nb : Nat) (vals : List (A PU)) (objs : List (AObj PU)) (K : A PU → List (AObj PU) → Prop) (h : D5_3 (k + 1) nb vals objs K) : fnOk PE.P 5 = true ∧ Hold (vcut PE (PT k) (PC k) 5 3 live nb vals objs K) := by
  obtain rfl : live = [1, 2, 3, 4] := Option.some.inj (hl.symm.trans (by kernel_rfl : cutOf 5 3 PE.cuts = some [1, 2, 3, 4]))
  refine ⟨fnok5, ?_⟩; unfold D5_3 at h; split at h
  · exact Hold.mp (by kernel_rfl) h.out
  · exact h.elim
theorem D24_3_z (nb : Nat) (vals : List (A PU)) (objs : List (AObj PU)) (K : A PU → List (AObj PU) → Prop) : ¬ D24_3 0 nb vals objs K := by
  intro h; unfold D24_3 at h; split at h <;> (first | exact h | exact h.out)
theorem D24_3_ok (k : Nat) (live : List Nat) (hl : cutOf 24 3 PE.cuts = some live) (nb : Nat) (vals : List (A PU)) (objs : List (AObj PU)) (K : A PU → List (AObj PU) → Prop) (h : D24_3 (k + 1) nb vals objs K) : fnOk PE.P 24 = true ∧ Hold (vcut PE (PT k) (PC k) 24 3 live nb vals objs K) := by
  obtain rfl : live = [1, 3, 13] := Option.some.inj (hl.symm.trans (by kernel_rfl : cutOf 24 3 PE.cuts = some [1, 3, 13]))
  refine ⟨fnok24, ?_⟩; unfold D24_3 at h; split at h
  · exact Hold.mp (by kernel_rfl) h.out
  · exact h.elim
theorem D15_3_z (nb : Nat) (vals : List (A PU)) (objs : List (AObj PU)) (K : A PU → List (AObj PU) → Prop) : ¬ D15_3 0 nb vals objs K := by
  intro h; unfold D15_3 at h; split at h <;> (first | exact h | exact h.out)
theorem D15_3_ok (k : Nat) (live : List Nat) (hl : cutOf 15 3 PE.cuts = some live) (nb : Nat) (vals : List (A PU)) (objs : List (AObj PU)) (K : A PU → List (AObj PU) → Prop) (h : D15_3 (k + 1) nb vals objs K) : fnOk PE.P 15 = true ∧ Hold (vcut PE (PT k) (PC k) 15 3 live nb vals objs K) := by
  obtain rfl : live = [0, 3, 4] := Option.some.inj (hl.symm.trans (by kernel_rfl : cutOf 15 3 PE.cuts = some [0, 3, 4]))
  refine ⟨fnok15, ?_⟩; unfold D15_3 at h; split at h
  · exact Hold.mp (by kernel_rfl) h.out
  · exact h.elim
theorem D15_4_z (nb : Nat) (vals : List (A PU)) (objs : List (AObj PU)) (K : A PU → List (AObj PU) → Prop) : ¬ D15_4 0 nb vals objs K := by
  intro h; unfold D15_4 at h; split at h <;> (first | exact h | exact h.out)
theorem D15_4_ok (k : Nat) (live : List Nat) (hl : cutOf 15 4 PE.cuts = some live) (nb : Nat) (vals : List (A PU)) (objs : List (AObj PU)) (K : A PU → List (AObj PU) → Prop) (h : D15_4 (k + 1) nb vals objs K) : fnOk PE.P 15 = true ∧ Hold (vcut PE (PT k) (PC k) 15 4 live nb vals objs K) := by
  obtain rfl : live = [0, 3, 4] := Option.some.inj (hl.symm.trans (by kernel_rfl : cutOf 15 4 PE.cuts = some [0, 3, 4]))
  refine ⟨fnok15, ?_⟩; unfold D15_4 at h; split at h
  · exact Hold.mp (by kernel_rfl) h.out
  · exact h.elim
theorem D48_0_z (nb : Nat) (vals : List (A PU)) (objs : List (AObj PU)) (K : A PU → List (AObj PU) → Prop) : ¬ D48_0 0 nb vals objs K := by
  intro h; unfold D48_0 at h; split at h <;> (first | exact h | exact h.out)
theorem D48_0_ok (k : Nat) (live : List Nat) (hl : cutOf 48 0 PE.cuts = some live) (nb : Nat) (vals : List (A PU)) (objs : List (AObj PU)) (K : A PU → List (AObj PU) → Prop) (h : D48_0 (k + 1) nb vals objs K) : fnOk PE.P 48 = true ∧ Hold (vcut PE (PT k) (PC k) 48 0 live nb vals objs K) := by
  obtain rfl : live = [0, 1] := Option.some.inj (hl.symm.trans (by kernel_rfl : cutOf 48 0 PE.cuts = some [0, 1]))
  refine ⟨fnok48, ?_⟩; unfold D48_0 at h; split at h
  · exact Hold.mp (by kernel_rfl) h.out
  · exact Hold.mp (by kernel_rfl) h.out
  · exact h.elim
theorem D48_1_z (nb : Nat) (vals : List (A PU)) (objs : List (AObj PU)) (K : A PU → List (AObj PU) → Prop) : ¬ D48_1 0 nb vals objs K := by
  intro h; unfold D48_1 at h; split at h <;> (first | exact h | exact h.out)
theorem D48_1_ok (k : Nat) (live : List Nat) (hl : cutOf 48 1 PE.cuts = some live) (nb : Nat) (vals : List (A PU)) (objs : List (AObj PU)) (K : A PU → List (AObj PU) → Prop) (h : D48_1 (k + 1) nb vals objs K) : fnOk PE.P 48 = true ∧ Hold (vcut PE (PT k) (PC k) 48 1 live nb vals objs K) := by
  obtain rfl : live = [0, 1] := Option.some.inj (hl.symm.trans (by kernel_rfl : cutOf 48 1 PE.cuts = some [0, 1]))
  refine ⟨fnok48, ?_⟩; unfold D48_1 at h; split at h
  · exact Hold.mp (by kernel_rfl) h.out
  · exact Hold.mp (by kernel_rfl) h.out
  · exact h.elim
theorem D42_2_z (nb : Nat) (vals : List (A PU)) (objs : List (AObj PU)) (K : A PU → List (AObj PU) → Prop) : ¬ D42_2 0 nb vals objs K := by
  intro h; unfold D42_2 at h; split at h <;> (first | exact h | exact h.out)
theorem D42_2_ok (k : Nat) (live : List Nat) (hl : cutOf 42 2 PE.cuts = some live) (nb : Nat) (vals : List (A PU)) (objs : List (AObj PU)) (K : A PU → List (AObj PU) → Prop) (h : D42_2 (k + 1) nb vals objs K) : fnOk PE.P 42 = true ∧ Hold (vcut PE (PT k) (PC k) 42 2 live nb vals objs K) := by
  obtain rfl : live = [0, 2, 25] := Option.some.inj (hl.symm.trans (by kernel_rfl : cutOf 42 2 PE.cuts = some [0, 2, 25]))
  refine ⟨fnok42, ?_⟩; unfold D42_2 at h; split at h
  · exact Hold.mp (by kernel_rfl) h.out
  · exact h.elim
theorem D42_11_z (nb : Nat) (vals : List (A PU)) (objs : List (AObj PU)) (K : A PU → List (AObj PU) → Prop) : ¬ D42_11 0 nb vals objs K := by
  intro h; unfold D42_11 at h; split at h <;> (first | exact h | exact h.out)
theorem D42_11_ok (k : Nat) (live : List Nat) (hl : cutOf 42 11 PE.cuts = some live) (nb : Nat) (vals : List (A PU)) (objs : List (AObj PU)) (K : A PU → List (AObj PU) → Prop) (h : D42_11 (k + 1) nb vals objs K) : fnOk PE.P 42 = true ∧ Hold (vcut PE (PT k) (PC k) 42 11 live nb vals objs K) := by
  obtain rfl : live = [0, 2, 25] := Option.some.inj (hl.symm.trans (by kernel_rfl : cutOf 42 11 PE.cuts = some [0, 2, 25]))
  refine ⟨fnok42, ?_⟩; unfold D42_11 at h; split at h
  · exact Hold.mp (by kernel_rfl) h.out
  · exact h.elim
theorem D42_14_z (nb : Nat) (vals : List (A PU)) (objs : List (AObj PU)) (K : A PU → List (AObj PU) → Prop) : ¬ D42_14 0 nb vals objs K := by
  intro h; unfold D42_14 at h; split at h <;> (first | exact h | exact h.out)
theorem D42_14_ok (k : Nat) (live : List Nat) (hl : cutOf 42 14 PE.cuts = some live) (nb : Nat) (vals : List (A PU)) (objs : List (AObj PU)) (K : A PU → List (AObj PU) → Prop) (h : D42_14 (k + 1) nb vals objs K) : fnOk PE.P 42 = true ∧ Hold (vcut PE (PT k) (PC k) 42 14 live nb vals objs K) := by
  obtain rfl : live = [0, 9, 10, 11, 12, 13, 14, 15, 16, 140, 141] := Option.some.inj (hl.symm.trans (by kernel_rfl : cutOf 42 14 PE.cuts = some [0, 9, 10, 11, 12, 13, 14, 15, 16, 140, 141]))
  refine ⟨fnok42, ?_⟩; unfold D42_14 at h; split at h
  · exact Hold.mp (by kernel_rfl) h.out
  · exact h.elim
theorem D42_23_z (nb : Nat) (vals : List (A PU)) (objs : List (AObj PU)) (K : A PU → List (AObj PU) → Prop) : ¬ D42_23 0 nb vals objs K := by
  intro h; unfold D42_23 at h; split at h <;> (first | exact h | exact h.out)
theorem D42_23_ok (k : Nat) (live : List Nat) (hl : cutOf 42 23 PE.cuts = some live) (nb : Nat) (vals : List (A PU)) (objs : List (AObj PU)) (K : A PU → List (AObj PU) → Prop) (h : D42_23 (k + 1) nb vals objs K) : fnOk PE.P 42 = true ∧ Hold (vcut PE (PT k) (PC k) 42 23 live nb vals objs K) := by
  obtain rfl : live = [0, 210, 211] := Option.some.inj (hl.symm.trans (by kernel_rfl : cutOf 42 23 PE.cuts = some [0, 210, 211]))
  refine ⟨fnok42, ?_⟩; unfold D42_23 at h; split at h
  · exact Hold.mp (by kernel_rfl) h.out
  · exact h.elim
theorem D37_3_z (nb : Nat) (vals : List (A PU)) (objs : List (AObj PU)) (K : A PU → List (AObj PU) → Prop) : ¬ D37_3 0 nb vals objs K := by
  intro h; unfold D37_3 at h; split at h <;> (first | exact h | exact h.out)
theorem D37_3_ok (k : Nat) (live : List Nat) (hl : cutOf 37 3 PE.cuts = some live) (nb : Nat) (vals : List (A PU)) (objs : List (AObj PU)) (K : A PU → List (AObj PU) → Prop) (h : D37_3 (k + 1) nb vals objs K) : fnOk PE.P 37 = true ∧ Hold (vcut PE (PT k) (PC k) 37 3 live nb vals objs K) := by
  obtain rfl : live = [0, 1] := Option.some.inj (hl.symm.trans (by kernel_rfl : cutOf 37 3 PE.cuts = some [0, 1]))
  refine ⟨fnok37, ?_⟩; unfold D37_3 at h; split at h
  · exact Hold.mp (by kernel_rfl) h.out
  · exact Hold.mp (by kernel_rfl) h.out
  · exact h.elim
theorem D38_9_z (nb : Nat) (vals : List (A PU)) (objs : List (AObj PU)) (K : A PU → List (AObj PU) → Prop) : ¬ D38_9 0 nb vals objs K := by
  intro h; unfold D38_9 at h; split at h <;> (first | exact h | exact h.out)
theorem D38_9_ok (k : Nat) (live : List Nat) (hl : cutOf 38 9 PE.cuts = some live) (nb : Nat) (vals : List (A PU)) (objs : List (AObj PU)) (K : A PU → List (AObj PU) → Prop) (h : D38_9 (k + 1) nb vals objs K) : fnOk PE.P 38 = true ∧ Hold (vcut PE (PT k) (PC k) 38 9 live nb vals objs K) := by
  obtain rfl : live = [0, 2, 3, 4, 5, 6, 22] := Option.some.inj (hl.symm.trans (by kernel_rfl : cutOf 38 9 PE.cuts = some [0, 2, 3, 4, 5, 6, 22]))
  refine ⟨fnok38, ?_⟩; unfold D38_9 at h; split at h
  · exact Hold.mp (by kernel_rfl) h.out
  · exact h.elim
theorem D38_15_z (nb : Nat) (vals : List (A PU)) (objs : List (AObj PU)) (K : A PU → List (AObj PU) → Prop) : ¬ D38_15 0 nb vals objs K := by
  intro h; unfold D38_15 at h; split at h <;> (first | exact h | exact h.out)
theorem D38_15_ok (k : Nat) (live : List Nat) (hl : cutOf 38 15 PE.cuts = some live) (nb : Nat) (vals : List (A PU)) (objs : List (AObj PU)) (K : A PU → List (AObj PU) → Prop) (h : D38_15 (k + 1) nb vals objs K) : fnOk PE.P 38 = true ∧ Hold (vcut PE (PT k) (PC k) 38 15 live nb vals objs K) := by
  obtain rfl : live = [2, 3, 4, 45] := Option.some.inj (hl.symm.trans (by kernel_rfl : cutOf 38 15 PE.cuts = some [2, 3, 4, 45]))
  refine ⟨fnok38, ?_⟩; unfold D38_15 at h; split at h
  · exact Hold.mp (by kernel_rfl) h.out
  · exact h.elim
theorem D6_2_z (nb : Nat) (vals : List (A PU)) (objs : List (AObj PU)) (K : A PU → List (AObj PU) → Prop) : ¬ D6_2 0 nb vals objs K := by
  intro h; unfold D6_2 at h; split at h <;> (first | exact h | exact h.out)
theorem D6_2_ok (k : Nat) (live : List Nat) (hl : cutOf 6 2 PE.cuts = some live) (nb : Nat) (vals : List (A PU)) (objs : List (AObj PU)) (K : A PU → List (AObj PU) → Prop) (h : D6_2 (k + 1) nb vals objs K) : fnOk PE.P 6 = true ∧ Hold (vcut PE (PT k) (PC k) 6 2 live nb vals objs K) := by
  obtain rfl : live = [1, 3] := Option.some.inj (hl.symm.trans (by kernel_rfl : cutOf 6 2 PE.cuts = some [1, 3]))
  refine ⟨fnok6, ?_⟩; unfold D6_2 at h; split at h
  · exact Hold.mp (by kernel_rfl) h.out
  · exact h.elim
theorem D6_6_z (nb : Nat) (vals : List (A PU)) (objs : List (AObj PU)) (K : A PU → List (AObj PU) → Prop) : ¬ D6_6 0 nb vals objs K := by
  intro h; unfold D6_6 at h; split at h <;> (first | exact h | exact h.out)
theorem D6_6_ok (k : Nat) (live : List Nat) (hl : cutOf 6 6 PE.cuts = some live) (nb : Nat) (vals : List (A PU)) (objs : List (AObj PU)) (K : A PU → List (AObj PU) → Prop) (h : D6_6 (k + 1) nb vals objs K) : fnOk PE.P 6 = true ∧ Hold (vcut PE (PT k) (PC k) 6 6 live nb vals objs K) := by
  obtain rfl : live = [1, 3, 4, 38, 39, 40] := Option.some.inj (hl.symm.trans (by kernel_rfl : cutOf 6 6 PE.cuts = some [1, 3, 4, 38, 39, 40]))
  refine ⟨fnok6, ?_⟩; unfold D6_6 at h; split at h
  · exact Hold.mp (by kernel_rfl) h.out
  · exact h.elim
theorem D6_9_z (nb : Nat) (vals : List (A PU)) (objs : List (AObj PU)) (K : A PU → List (AObj PU) → Prop) : ¬ D6_9 0 nb vals objs K := by
  intro h; unfold D6_9 at h; split at h <;> (first | exact h | exact h.out)
theorem D6_9_ok (k : Nat) (live : List Nat) (hl : cutOf 6 9 PE.cuts = some live) (nb : Nat) (vals : List (A PU)) (objs : List (AObj PU)) (K : A PU → List (AObj PU) → Prop) (h : D6_9 (k + 1) nb vals objs K) : fnOk PE.P 6 = true ∧ Hold (vcut PE (PT k) (PC k) 6 9 live nb vals objs K) := by
  obtain rfl : live = [1, 3, 6, 38, 39, 40] := Option.some.inj (hl.symm.trans (by kernel_rfl : cutOf 6 9 PE.cuts = some [1, 3, 6, 38, 39, 40]))
  refine ⟨fnok6, ?_⟩; unfold D6_9 at h; split at h
  · exact Hold.mp (by kernel_rfl) h.out
  · exact h.elim
theorem D6_10_z (nb : Nat) (vals : List (A PU)) (objs : List (AObj PU)) (K : A PU → List (AObj PU) → Prop) : ¬ D6_10 0 nb vals objs K := by
  intro h; unfold D6_10 at h; split at h <;> (first | exact h | exact h.out)
theorem D6_10_ok (k : Nat) (live : List Nat) (hl : cutOf 6 10 PE.cuts = some live) (nb : Nat) (vals : List (A PU)) (objs : List (AObj PU)) (K : A PU → List (AObj PU) → Prop) (h : D6_10 (k + 1) nb vals objs K) : fnOk PE.P 6 = true ∧ Hold (vcut PE (PT k) (PC k) 6 10 live nb vals objs K) := by
  obtain rfl : live = [1, 3, 4, 38, 39, 40] := Option.some.inj (hl.symm.trans (by kernel_rfl : cutOf 6 10 PE.cuts = some [1, 3, 4, 38, 39, 40]))
  refine ⟨fnok6, ?_⟩; unfold D6_10 at h; split at h
  · exact Hold.mp (by kernel_rfl) h.out
  · exact h.elim
theorem D6_12_z (nb : Nat) (vals : List (A PU)) (objs : List (AObj PU)) (K : A PU → List (AObj PU) → Prop) : ¬ D6_12 0 nb vals objs K := by
  intro h; unfold D6_12 at h; split at h <;> (first | exact h | exact h.out)
theorem D6_12_ok (k : Nat) (live : List Nat) (hl : cutOf 6 12 PE.cuts = some live) (nb : Nat) (vals : List (A PU)) (objs : List (AObj PU)) (K : A PU → List (AObj PU) → Prop) (h : D6_12 (k + 1) nb vals objs K) : fnOk PE.P 6 = true ∧ Hold (vcut PE (PT k) (PC k) 6 12 live nb vals objs K) := by
  obtain rfl : live = [1, 3, 87, 88, 89] := Option.some.inj (hl.symm.trans (by kernel_rfl : cutOf 6 12 PE.cuts = some [1, 3, 87, 88, 89]))
  refine ⟨fnok6, ?_⟩; unfold D6_12 at h; split at h
  · exact Hold.mp (by kernel_rfl) h.out
  · exact h.elim
theorem D6_15_z (nb : Nat) (vals : List (A PU)) (objs : List (AObj PU)) (K : A PU → List (AObj PU) → Prop) : ¬ D6_15 0 nb vals objs K := by
  intro h; unfold D6_15 at h; split at h <;> (first | exact h | exact h.out)
theorem D6_15_ok (k : Nat) (live : List Nat) (hl : cutOf 6 15 PE.cuts = some live) (nb : Nat) (vals : List (A PU)) (objs : List (AObj PU)) (K : A PU → List (AObj PU) → Prop) (h : D6_15 (k + 1) nb vals objs K) : fnOk PE.P 6 = true ∧ Hold (vcut PE (PT k) (PC k) 6 15 live nb vals objs K) := by
  obtain rfl : live = [1, 3, 87, 88, 89] := Option.some.inj (hl.symm.trans (by kernel_rfl : cutOf 6 15 PE.cuts = some [1, 3, 87, 88, 89]))
  refine ⟨fnok6, ?_⟩; unfold D6_15 at h; split at h
  · exact Hold.mp (by kernel_rfl) h.out
  · exact h.elim
theorem D6_18_z (nb : Nat) (vals : List (A PU)) (objs : List (AObj PU)) (K : A PU → List (AObj PU) → Prop) : ¬ D6_18 0 nb vals objs K := by
  intro h; unfold D6_18 at h; split at h <;> (first | exact h | exact h.out)
theorem D6_18_ok (k : Nat) (live : List Nat) (hl : cutOf 6 18 PE.cuts = some live) (nb : Nat) (vals : List (A PU)) (objs : List (AObj PU)) (K : A PU → List (AObj PU) → Prop) (h : D6_18 (k + 1) nb vals objs K) : fnOk PE.P 6 = true ∧ Hold (vcut PE (PT k) (PC k) 6 18 live nb vals objs K) := by
  obtain rfl : live = [1, 3, 9, 114, 115, 116] := Option.some.inj (hl.symm.trans (by kernel_rfl : cutOf 6 18 PE.cuts = some [1, 3, 9, 114, 115, 116]))
  refine ⟨fnok6, ?_⟩; unfold D6_18 at h; split at h
  · exact Hold.mp (by kernel_rfl) h.out
  · exact h.elim
theorem D6_21_z (nb : Nat) (vals : List (A PU)) (objs : List (AObj PU)) (K : A PU → List (AObj PU) → Prop) : ¬ D6_21 0 nb vals objs K := by
  intro h; unfold D6_21 at h; split at h <;> (first | exact h | exact h.out)
theorem D6_21_ok (k : Nat) (live : List Nat) (hl : cutOf 6 21 PE.cuts = some live) (nb : Nat) (vals : List (A PU)) (objs : List (AObj PU)) (K : A PU → List (AObj PU) → Prop) (h : D6_21 (k + 1) nb vals objs K) : fnOk PE.P 6 = true ∧ Hold (vcut PE (PT k) (PC k) 6 21 live nb vals objs K) := by
  obtain rfl : live = [1, 3, 11, 114, 115, 116] := Option.some.inj (hl.symm.trans (by kernel_rfl : cutOf 6 21 PE.cuts = some [1, 3, 11, 114, 115, 116]))
  refine ⟨fnok6, ?_⟩; unfold D6_21 at h; split at h
  · exact Hold.mp (by kernel_rfl) h.out
  · exact h.elim
theorem D6_22_z (nb : Nat) (vals : List (A PU)) (objs : List (AObj PU)) (K : A PU → List (AObj PU) → Prop) : ¬ D6_22 0 nb vals objs K := by
  intro h; unfold D6_22 at h; split at h <;> (first | exact h | exact h.out)
theorem D6_22_ok (k : Nat) (live : List Nat) (hl : cutOf 6 22 PE.cuts = some live) (nb : Nat) (vals : List (A PU)) (objs : List (AObj PU)) (K : A PU → List (AObj PU) → Prop) (h : D6_22 (k + 1) nb vals objs K) : fnOk PE.P 6 = true ∧ Hold (vcut PE (PT k) (PC k) 6 22 live nb vals objs K) := by
  obtain rfl : live = [1, 3, 9, 114, 115, 116] := Option.some.inj (hl.symm.trans (by kernel_rfl : cutOf 6 22 PE.cuts = some [1, 3, 9, 114, 115, 116]))
  refine ⟨fnok6, ?_⟩; unfold D6_22 at h; split at h
  · exact Hold.mp (by kernel_rfl) h.out
  · exact h.elim
theorem D9_8_z (nb : Nat) (vals : List (A PU)) (objs : List (AObj PU)) (K : A PU → List (AObj PU) → Prop) : ¬ D9_8 0 nb vals objs K := by
  intro h; unfold D9_8 at h; split at h <;> (first | exact h | exact h.out)
theorem D9_8_ok (k : Nat) (live : List Nat) (hl : cutOf 9 8 PE.cuts = some live) (nb : Nat) (vals : List (A PU)) (objs : List (AObj PU)) (K : A PU → List (AObj PU) → Prop) (h : D9_8 (k + 1) nb vals objs K) : fnOk PE.P 9 = true ∧ Hold (vcut PE (PT k) (PC k) 9 8 live nb vals objs K) := by
  obtain rfl : live = [1, 3] := Option.some.inj (hl.symm.trans (by kernel_rfl : cutOf 9 8 PE.cuts = some [1, 3]))
  refine ⟨fnok9, ?_⟩; unfold D9_8 at h; split at h
  · exact Hold.mp (by kernel_rfl) h.out
  · exact h.elim
theorem D9_12_z (nb : Nat) (vals : List (A PU)) (objs : List (AObj PU)) (K : A PU → List (AObj PU) → Prop) : ¬ D9_12 0 nb vals objs K := by
  intro h; unfold D9_12 at h; split at h <;> (first | exact h | exact h.out)
theorem D9_12_ok (k : Nat) (live : List Nat) (hl : cutOf 9 12 PE.cuts = some live) (nb : Nat) (vals : List (A PU)) (objs : List (AObj PU)) (K : A PU → List (AObj PU) → Prop) (h : D9_12 (k + 1) nb vals objs K) : fnOk PE.P 9 = true ∧ Hold (vcut PE (PT k) (PC k) 9 12 live nb vals objs K) := by
  obtain rfl : live = [1, 3, 4] := Option.some.inj (hl.symm.trans (by kernel_rfl : cutOf 9 12 PE.cuts = some [1, 3, 4]))
  refine ⟨fnok9, ?_⟩; unfold D9_12 at h; split at h
  · exact Hold.mp (by kernel_rfl) h.out
  · exact h.elim
theorem D9_13_z (nb : Nat) (vals : List (A PU)) (objs : List (AObj PU)) (K : A PU → List (AObj PU) → Prop) : ¬ D9_13 0 nb vals objs K := by
  intro h; unfold D9_13 at h; split at h <;> (first | exact h | exact h.out)
theorem D9_13_ok (k : Nat) (live : List Nat) (hl : cutOf 9 13 PE.cuts = some live) (nb : Nat) (vals : List (A PU)) (objs : List (AObj PU)) (K : A PU → List (AObj PU) → Prop) (h : D9_13 (k + 1) nb vals objs K) : fnOk PE.P 9 = true ∧ Hold (vcut PE (PT k) (PC k) 9 13 live nb vals objs K) := by
  obtain rfl : live = [1, 3, 8] := Option.some.inj (hl.symm.trans (by kernel_rfl : cutOf 9 13 PE.cuts = some [1, 3, 8]))
  refine ⟨fnok9, ?_⟩; unfold D9_13 at h; split at h
  · exact Hold.mp (by kernel_rfl) h.out
  · exact h.elim
theorem D9_16_z (nb : Nat) (vals : List (A PU)) (objs : List (AObj PU)) (K : A PU → List (AObj PU) → Prop) : ¬ D9_16 0 nb vals objs K := by
  intro h; unfold D9_16 at h; split at h <;> (first | exact h | exact h.out)
theorem D9_16_ok (k : Nat) (live : List Nat) (hl : cutOf 9 16 PE.cuts = some live) (nb : Nat) (vals : List (A PU)) (objs : List (AObj PU)) (K : A PU → List (AObj PU) → Prop) (h : D9_16 (k + 1) nb vals objs K) : fnOk PE.P 9 = true ∧ Hold (vcut PE (PT k) (PC k) 9 16 live nb vals objs K) := by
  obtain rfl : live = [1, 3] := Option.some.inj (hl.symm.trans (by kernel_rfl : cutOf 9 16 PE.cuts = some [1, 3]))
  refine ⟨fnok9, ?_⟩; unfold D9_16 at h; split at h
  · exact Hold.mp (by kernel_rfl) h.out
  · exact h.elim
theorem D9_17_z (nb : Nat) (vals : List (A PU)) (objs : List (AObj PU)) (K : A PU → List (AObj PU) → Prop) : ¬ D9_17 0 nb vals objs K := by
  intro h; unfold D9_17 at h; split at h <;> (first | exact h | exact h.out)
theorem D9_17_ok (k : Nat) (live : List Nat) (hl : cutOf 9 17 PE.cuts = some live) (nb : Nat) (vals : List (A PU)) (objs : List (AObj PU)) (K : A PU → List (AObj PU) → Prop) (h : D9_17 (k + 1) nb vals objs K) : fnOk PE.P 9 = true ∧ Hold (vcut PE (PT k) (PC k) 9 17 live nb vals objs K) := by
  obtain rfl : live = [1, 3] := Option.some.inj (hl.symm.trans (by kernel_rfl : cutOf 9 17 PE.cuts = some [1, 3]))
  refine ⟨fnok9, ?_⟩; unfold D9_17 at h; split at h
  · exact Hold.mp (by kernel_rfl) h.out
  · exact h.elim
theorem D27_3_z (nb : Nat) (vals : List (A PU)) (objs : List (AObj PU)) (K : A PU → List (AObj PU) → Prop) : ¬ D27_3 0 nb vals objs K := by
  intro h; unfold D27_3 at h; split at h <;> (first | exact h | exact h.out)
theorem D27_3_ok (k : Nat) (live : List Nat) (hl : cutOf 27 3 PE.cuts = some live) (nb : Nat) (vals : List (A PU)) (objs : List (AObj PU)) (K : A PU → List (AObj PU) → Prop) (h : D27_3 (k + 1) nb vals objs K) : fnOk PE.P 27 = true ∧ Hold (vcut PE (PT k) (PC k) 27 3 live nb vals objs K) := by
  obtain rfl : live = [0, 3, 4] := Option.some.inj (hl.symm.trans (by kernel_rfl : cutOf 27 3 PE.cuts = some [0, 3, 4]))
  refine ⟨fnok27, ?_⟩; unfold D27_3 at h; split at h
  · exact Hold.mp (by kernel_rfl) h.out
  · exact h.elim
theorem D19_4_z (nb : Nat) (vals : List (A PU)) (objs : List (AObj PU)) (K : A PU → List (AObj PU) → Prop) : ¬ D19_4 0 nb vals objs K := by
  intro h; unfold D19_4 at h; split at h <;> (first | exact h | exact h.out)
theorem D19_4_ok (k : Nat) (live : List Nat) (hl : cutOf 19 4 PE.cuts = some live) (nb : Nat) (vals : List (A PU)) (objs : List (AObj PU)) (K : A PU → List (AObj PU) → Prop) (h : D19_4 (k + 1) nb vals objs K) : fnOk PE.P 19 = true ∧ Hold (vcut PE (PT k) (PC k) 19 4 live nb vals objs K) := by
  obtain rfl : live = [0, 1, 5] := Option.some.inj (hl.symm.trans (by kernel_rfl : cutOf 19 4 PE.cuts = some [0, 1, 5]))
  refine ⟨fnok19, ?_⟩; unfold D19_4 at h; split at h
  · exact Hold.mp (by kernel_rfl) h.out
  · exact h.elim
theorem D45_4_z (nb : Nat) (vals : List (A PU)) (objs : List (AObj PU)) (K : A PU → List (AObj PU) → Prop) : ¬ D45_4 0 nb vals objs K := by
  intro h; unfold D45_4 at h; split at h <;> (first | exact h | exact h.out)
theorem D45_4_ok (k : Nat) (live : List Nat) (hl : cutOf 45 4 PE.cuts = some live) (nb : Nat) (vals : List (A PU)) (objs : List (AObj PU)) (K : A PU → List (AObj PU) → Prop) (h : D45_4 (k + 1) nb vals objs K) : fnOk PE.P 45 = true ∧ Hold (vcut PE (PT k) (PC k) 45 4 live nb vals objs K) := by
  obtain rfl : live = [0, 3] := Option.some.inj (hl.symm.trans (by kernel_rfl : cutOf 45 4 PE.cuts = some [0, 3]))
  refine ⟨fnok45, ?_⟩; unfold D45_4 at h; split at h
  · exact Hold.mp (by kernel_rfl) h.out
  · exact h.elim
theorem D45_8_z (nb : Nat) (vals : List (A PU)) (objs : List (AObj PU)) (K : A PU → List (AObj PU) → Prop) : ¬ D45_8 0 nb vals objs K := by
  intro h; unfold D45_8 at h; split at h <;> (first | exact h | exact h.out)
theorem D45_8_ok (k : Nat) (live : List Nat) (hl : cutOf 45 8 PE.cuts = some live) (nb : Nat) (vals : List (A PU)) (objs : List (AObj PU)) (K : A PU → List (AObj PU) → Prop) (h : D45_8 (k + 1) nb vals objs K) : fnOk PE.P 45 = true ∧ Hold (vcut PE (PT k) (PC k) 45 8 live nb vals objs K) := by
  obtain rfl : live = [3, 4, 5] := Option.some.inj (hl.symm.trans (by kernel_rfl : cutOf 45 8 PE.cuts = some [3, 4, 5]))
  refine ⟨fnok45, ?_⟩; unfold D45_8 at h; split at h
  · exact Hold.mp (by kernel_rfl) h.out
  · exact h.elim
theorem D47_3_z (nb : Nat) (vals : List (A PU)) (objs : List (AObj PU)) (K : A PU → List (AObj PU) → Prop) : ¬ D47_3 0 nb vals objs K := by
  intro h; unfold D47_3 at h; split at h <;> (first | exact h | exact h.out)
theorem D47_3_ok (k : Nat) (live : List Nat) (hl : cutOf 47 3 PE.cuts = some live) (nb : Nat) (vals : List (A PU)) (objs : List (AObj PU)) (K : A PU → List (AObj PU) → Prop) (h : D47_3 (k + 1) nb vals objs K) : fnOk PE.P 47 = true ∧ Hold (vcut PE (PT k) (PC k) 47 3 live nb vals objs K) := by
  obtain rfl : live = [1, 2, 4, 5, 6] := Option.some.inj (hl.symm.trans (by kernel_rfl : cutOf 47 3 PE.cuts = some [1, 2, 4, 5, 6]))
  refine ⟨fnok47, ?_⟩; unfold D47_3 at h; split at h
  · exact Hold.mp (by kernel_rfl) h.out
  · exact h.elim
theorem D47_7_z (nb : Nat) (vals : List (A PU)) (objs : List (AObj PU)) (K : A PU → List (AObj PU) → Prop) : ¬ D47_7 0 nb vals objs K := by
  intro h; unfold D47_7 at h; split at h <;> (first | exact h | exact h.out)
theorem D47_7_ok (k : Nat) (live : List Nat) (hl : cutOf 47 7 PE.cuts = some live) (nb : Nat) (vals : List (A PU)) (objs : List (AObj PU)) (K : A PU → List (AObj PU) → Prop) (h : D47_7 (k + 1) nb vals objs K) : fnOk PE.P 47 = true ∧ Hold (vcut PE (PT k) (PC k) 47 7 live nb vals objs K) := by
  obtain rfl : live = [2, 4, 5, 7] := Option.some.inj (hl.symm.trans (by kernel_rfl : cutOf 47 7 PE.cuts = some [2, 4, 5, 7]))
  refine ⟨fnok47, ?_⟩; unfold D47_7 at h; split at h
  · exact Hold.mp (by kernel_rfl) h.out
  · exact h.elim
theorem D47_14_z (nb : Nat) (vals : List (A PU)) (objs : List (AObj PU)) (K : A PU → List (AObj PU) → Prop) : ¬ D47_14 0 nb vals objs K := by
  intro h; unfold D47_14 at h; split at h <;> (first | exact h | exact h.out)
theorem D47_14_ok (k : Nat) (live : List Nat) (hl : cutOf 47 14 PE.cuts = some live) (nb : Nat) (vals : List (A PU)) (objs : List (AObj PU)) (K : A PU → List (AObj PU) → Prop) (h : D47_14 (k + 1) nb vals objs K) : fnOk PE.P 47 = true ∧ Hold (vcut PE (PT k) (PC k) 47 14 live nb vals objs K) := by
  obtain rfl : live = [2, 4, 5, 10, 11] := Option.some.inj (hl.symm.trans (by kernel_rfl : cutOf 47 14 PE.cuts = some [2, 4, 5, 10, 11]))
  refine ⟨fnok47, ?_⟩; unfold D47_14 at h; split at h
  · exact Hold.mp (by kernel_rfl) h.out
  · exact h.elim
theorem D47_22_z (nb : Nat) (vals : List (A PU)) (objs : List (AObj PU)) (K : A PU → List (AObj PU) → Prop) : ¬ D47_22 0 nb vals objs K := by
  intro h; unfold D47_22 at h; split at h <;> (first | exact h | exact h.out)
theorem D47_22_ok (k : Nat) (live : List Nat) (hl : cutOf 47 22 PE.cuts = some live) (nb : Nat) (vals : List (A PU)) (objs : List (AObj PU)) (K : A PU → List (AObj PU) → Prop) (h : D47_22 (k + 1) nb vals objs K) : fnOk PE.P 47 = true ∧ Hold (vcut PE (PT k) (PC k) 47 22 live nb vals objs K) := by
  obtain rfl : live = [2, 4, 10, 16] := Option.some.inj (hl.symm.trans (by kernel_rfl : cutOf 47 22 PE.cuts = some [2, 4, 10, 16]))
  refine ⟨fnok47, ?_⟩; unfold D47_22 at h; split at h
  · exact Hold.mp (by kernel_rfl) h.out
  · exact h.elim
theorem D40_4_z (nb : Nat) (vals : List (A PU)) (objs : List (AObj PU)) (K : A PU → List (AObj PU) → Prop) : ¬ D40_4 0 nb vals objs K := by
  intro h; unfold D40_4 at h; split at h <;> (first | exact h | exact h.out)
theorem D40_4_ok (k : Nat) (live : List Nat) (hl : cutOf 40 4 PE.cuts = some live) (nb : Nat) (vals : List (A PU)) (objs : List (AObj PU)) (K : A PU → List (AObj PU) → Prop) (h : D40_4 (k + 1) nb vals objs K) : fnOk PE.P 40 = true ∧ Hold (vcut PE (PT k) (PC k) 40 4 live nb vals objs K) := by
  obtain rfl : live = [2, 3, 4, 5] := Option.some.inj (hl.symm.trans (by kernel_rfl : cutOf 40 4 PE.cuts = some [2, 3, 4, 5]))
  refine ⟨fnok40, ?_⟩; unfold D40_4 at h; split at h
  · exact Hold.mp (by kernel_rfl) h.out
  · exact h.elim
theorem D40_9_z (nb : Nat) (vals : List (A PU)) (objs : List (AObj PU)) (K : A PU → List (AObj PU) → Prop) : ¬ D40_9 0 nb vals objs K := by
  intro h; unfold D40_9 at h; split at h <;> (first | exact h | exact h.out)
theorem D40_9_ok (k : Nat) (live : List Nat) (hl : cutOf 40 9 PE.cuts = some live) (nb : Nat) (vals : List (A PU)) (objs : List (AObj PU)) (K : A PU → List (AObj PU) → Prop) (h : D40_9 (k + 1) nb vals objs K) : fnOk PE.P 40 = true ∧ Hold (vcut PE (PT k) (PC k) 40 9 live nb vals objs K) := by
  obtain rfl : live = [2, 4, 6, 7] := Option.some.inj (hl.symm.trans (by kernel_rfl : cutOf 40 9 PE.cuts = some [2, 4, 6, 7]))
  refine ⟨fnok40, ?_⟩; unfold D40_9 at h; split at h
  · exact Hold.mp (by kernel_rfl) h.out
  · exact h.elim
theorem D20_4_z (nb : Nat) (vals : List (A PU)) (objs : List (AObj PU)) (K : A PU → List (AObj PU) → Prop) : ¬ D20_4 0 nb vals objs K := by
  intro h; unfold D20_4 at h; split at h <;> (first | exact h | exact h.out)
theorem D20_4_ok (k : Nat) (live : List Nat) (hl : cutOf 20 4 PE.cuts = some live) (nb : Nat) (vals : List (A PU)) (objs : List (AObj PU)) (K : A PU → List (AObj PU) → Prop) (h : D20_4 (k + 1) nb vals objs K) : fnOk PE.P 20 = true ∧ Hold (vcut PE (PT k) (PC k) 20 4 live nb vals objs K) := by
  obtain rfl : live = [0, 5] := Option.some.inj (hl.symm.trans (by kernel_rfl : cutOf 20 4 PE.cuts = some [0, 5]))
  refine ⟨fnok20, ?_⟩; unfold D20_4 at h; split at h
  · exact Hold.mp (by kernel_rfl) h.out
  · exact h.elim
theorem D8_4_z (nb : Nat) (vals : List (A PU)) (objs : List (AObj PU)) (K : A PU → List (AObj PU) → Prop) : ¬ D8_4 0 nb vals objs K := by
  intro h; unfold D8_4 at h; split at h <;> (first | exact h | exact h.out)
theorem D8_4_ok (k : Nat) (live : List Nat) (hl : cutOf 8 4 PE.cuts = some live) (nb : Nat) (vals : List (A PU)) (objs : List (AObj PU)) (K : A PU → List (AObj PU) → Prop) (h : D8_4 (k + 1) nb vals objs K) : fnOk PE.P 8 = true ∧ Hold (vcut PE (PT k) (PC k) 8 4 live nb vals objs K) := by
  obtain rfl : live = [1, 3] := Option.some.inj (hl.symm.trans (by kernel_rfl : cutOf 8 4 PE.cuts = some [1, 3]))
  refine ⟨fnok8, ?_⟩; unfold D8_4 at h; split at h
  · exact Hold.mp (by kernel_rfl) h.out
  · exact h.elim
theorem D10_2_z (nb : Nat) (vals : List (A PU)) (objs : List (AObj PU)) (K : A PU → List (AObj PU) → Prop) : ¬ D10_2 0 nb vals objs K := by
  intro h; unfold D10_2 at h; split at h <;> (first | exact h | exact h.out)
theorem D10_2_ok (k : Nat) (live : List Nat) (hl : cutOf 10 2 PE.cuts = some live) (nb : Nat) (vals : List (A PU)) (objs : List (AObj PU)) (K : A PU → List (AObj PU) → Prop) (h : D10_2 (k + 1) nb vals objs K) : fnOk PE.P 10 = true ∧ Hold (vcut PE (PT k) (PC k) 10 2 live nb vals objs K) := by
  obtain rfl : live = [1, 3] := Option.some.inj (hl.symm.trans (by kernel_rfl : cutOf 10 2 PE.cuts = some [1, 3]))
  refine ⟨fnok10, ?_⟩; unfold D10_2 at h; split at h
  · exact Hold.mp (by kernel_rfl) h.out
  · exact h.elim
theorem D10_3_z (nb : Nat) (vals : List (A PU)) (objs : List (AObj PU)) (K : A PU → List (AObj PU) → Prop) : ¬ D10_3 0 nb vals objs K := by
  intro h; unfold D10_3 at h; split at h <;> (first | exact h | exact h.out)
theorem D10_3_ok (k : Nat) (live : List Nat) (hl : cutOf 10 3 PE.cuts = some live) (nb : Nat) (vals : List (A PU)) (objs : List (AObj PU)) (K : A PU → List (AObj PU) → Prop) (h : D10_3 (k + 1) nb vals objs K) : fnOk PE.P 10 = true ∧ Hold (vcut PE (PT k) (PC k) 10 3 live nb vals objs K) := by
  obtain rfl : live = [1, 3, 4] := Option.some.inj (hl.symm.trans (by kernel_rfl : cutOf 10 3 PE.cuts = some [1, 3, 4]))
  refine ⟨fnok10, ?_⟩; unfold D10_3 at h; split at h
  · exact Hold.mp (by kernel_rfl) h.out
  · exact h.elim
theorem D10_4_z (nb : Nat) (vals : List (A PU)) (objs : List (AObj PU)) (K : A PU → List (AObj PU) → Prop) : ¬ D10_4 0 nb vals objs K := by
  intro h; unfold D10_4 at h; split at h <;> (first | exact h | exact h.out)
theorem D10_4_ok (k : Nat) (live : List Nat) (hl : cutOf 10 4 PE.cuts = some live) (nb : Nat) (vals : List (A PU)) (objs : List (AObj PU)) (K : A PU → List (AObj PU) → Prop) (h : D10_4 (k + 1) nb vals objs K) : fnOk PE.P 10 = true ∧ Hold (vcut PE (PT k) (PC k) 10 4 live nb vals objs K) := by
  obtain rfl : live = [1, 3, 4, 53] := Option.some.inj (hl.symm.trans (by kernel_rfl : cutOf 10 4 PE.cuts = some [1, 3, 4, 53]))
  refine ⟨fnok10, ?_⟩; unfold D10_4 at h; split at h
  · exact Hold.mp (by kernel_rfl) h.out
  · exact h.elim
theorem D10_7_z (nb : Nat) (vals : List (A PU)) (objs : List (AObj PU)) (K : A PU → List (AObj PU) → Prop) : ¬ D10_7 0 nb vals objs K := by
  intro h; unfold D10_7 at h; split at h <;> (first | exact h | exact h.out)
theorem D10_7_ok (k : Nat) (live : List Nat) (hl : cutOf 10 7 PE.cuts = some live) (nb : Nat) (vals : List (A PU)) (objs : List (AObj PU)) (K : A PU → List (AObj PU) → Prop) (h : D10_7 (k + 1) nb vals objs K) : fnOk PE.P 10 = true ∧ Hold (vcut PE (PT k) (PC k) 10 7 live nb vals objs K) := by
  obtain rfl : live = [1, 3, 4, 53] := Option.some.inj (hl.symm.trans (by kernel_rfl : cutOf 10 7 PE.cuts = some [1, 3, 4, 53]))
  refine ⟨fnok10, ?_⟩; unfold D10_7 at h; split at h
  · exact Hold.mp (by kernel_rfl) h.out
  · exact h.elim
theorem D22_4_z (nb : Nat) (vals : List (A PU)) (objs : List (AObj PU)) (K : A PU → List (AObj PU) → Prop) : ¬ D22_4 0 nb vals objs K := by
  intro h; unfold D22_4 at h; split at h <;> (first | exact h | exact h.out)
theorem D22_4_ok (k : Nat) (live : List Nat) (hl : cutOf 22 4 PE.cuts = some live) (nb : Nat) (vals : List (A PU)) (objs : List (AObj PU)) (K : A PU → List (AObj PU) → Prop) (h : D22_4 (k + 1) nb vals objs K) : fnOk PE.P 22 = true ∧ Hold (vcut PE (PT k) (PC k) 22 4 live nb vals objs K) := by
  obtain rfl : live = [0, 1, 5] := Option.some.inj (hl.symm.trans (by kernel_rfl : cutOf 22 4 PE.cuts = some [0, 1, 5]))
  refine ⟨fnok22, ?_⟩; unfold D22_4 at h; split at h
  · exact Hold.mp (by kernel_rfl) h.out
  · exact h.elim
theorem D11_4_z (nb : Nat) (vals : List (A PU)) (objs : List (AObj PU)) (K : A PU → List (AObj PU) → Prop) : ¬ D11_4 0 nb vals objs K := by
  intro h; unfold D11_4 at h; split at h <;> (first | exact h | exact h.out)
theorem D11_4_ok (k : Nat) (live : List Nat) (hl : cutOf 11 4 PE.cuts = some live) (nb : Nat) (vals : List (A PU)) (objs : List (AObj PU)) (K : A PU → List (AObj PU) → Prop) (h : D11_4 (k + 1) nb vals objs K) : fnOk PE.P 11 = true ∧ Hold (vcut PE (PT k) (PC k) 11 4 live nb vals objs K) := by
  obtain rfl : live = [2, 3, 5] := Option.some.inj (hl.symm.trans (by kernel_rfl : cutOf 11 4 PE.cuts = some [2, 3, 5]))
  refine ⟨fnok11, ?_⟩; unfold D11_4 at h; split at h
  · exact Hold.mp (by kernel_rfl) h.out
  · exact h.elim
theorem D11_9_z (nb : Nat) (vals : List (A PU)) (objs : List (AObj PU)) (K : A PU → List (AObj PU) → Prop) : ¬ D11_9 0 nb vals objs K := by
  intro h; unfold D11_9 at h; split at h <;> (first | exact h | exact h.out)
theorem D11_9_ok (k : Nat) (live : List Nat) (hl : cutOf 11 9 PE.cuts = some live) (nb : Nat) (vals : List (A PU)) (objs : List (AObj PU)) (K : A PU → List (AObj PU) → Prop) (h : D11_9 (k + 1) nb vals objs K) : fnOk PE.P 11 = true ∧ Hold (vcut PE (PT k) (PC k) 11 9 live nb vals objs K) := by
  obtain rfl : live = [2, 3, 6] := Option.some.inj (hl.symm.trans (by kernel_rfl : cutOf 11 9 PE.cuts = some [2, 3, 6]))
  refine ⟨fnok11, ?_⟩; unfold D11_9 at h; split at h
  · exact Hold.mp (by kernel_rfl) h.out
  · exact h.elim
theorem D11_14_z (nb : Nat) (vals : List (A PU)) (objs : List (AObj PU)) (K : A PU → List (AObj PU) → Prop) : ¬ D11_14 0 nb vals objs K := by
  intro h; unfold D11_14 at h; split at h <;> (first | exact h | exact h.out)
theorem D11_14_ok (k : Nat) (live : List Nat) (hl : cutOf 11 14 PE.cuts = some live) (nb : Nat) (vals : List (A PU)) (objs : List (AObj PU)) (K : A PU → List (AObj PU) → Prop) (h : D11_14 (k + 1) nb vals objs K) : fnOk PE.P 11 = true ∧ Hold (vcut PE (PT k) (PC k) 11 14 live nb vals objs K) := by
  obtain rfl : live = [2, 3, 7] := Option.some.inj (hl.symm.trans (by kernel_rfl : cutOf 11 14 PE.cuts = some [2, 3, 7]))
  refine ⟨fnok11, ?_⟩; unfold D11_14 at h; split at h
  · exact Hold.mp (by kernel_rfl) h.out
  · exact h.elim
theorem PSound (k : Nat) : TSound PE (PT k) ∧ CSound PE (PC k) :=
  tablesL PEok (by kernel_rfl) PTr PCr
    (List.forall_mem_cons.2 ⟨T12_z, List.forall_mem_cons.2 ⟨T4_z, List.forall_mem_cons.2 ⟨T5_z, List.forall_mem_cons.2 ⟨T13_z, List.forall_mem_cons.2 ⟨T14_z, List.forall_mem_cons.2 ⟨T23_z, List.forall_mem_cons.2 ⟨T24_z, List.forall_mem_cons.2 ⟨T25_z, List.forall_mem_cons.2 ⟨T15_z, List.forall_mem_cons.2 ⟨T41_z, List.forall_mem_cons.2 ⟨T34y5_z, List.forall_mem_cons.2 ⟨T48_z, List.forall_mem_cons.2 ⟨T34_z, List.forall_mem_cons.2 ⟨T35_z, List.forall_mem_cons.2 ⟨T29_z, List.forall_mem_cons.2 ⟨T36_z, List.forall_mem_cons.2 ⟨T49_z, List.forall_mem_cons.2 ⟨T42_z, List.forall_mem_cons.2 ⟨T37_z, List.forall_mem_cons.2 ⟨T38_z, List.forall_mem_cons.2 ⟨T30_z, List.forall_mem_cons.2 ⟨T26_z, List.forall_mem_cons.2 ⟨T16_z, List.forall_mem_cons.2 ⟨T6_z, List.forall_mem_cons.2 ⟨T17_z, List.forall_mem_cons.2 ⟨T9_z, List.forall_mem_cons.2 ⟨T7_z, List.forall_mem_cons.2 ⟨T18_z, List.forall_mem_cons.2 ⟨T21_z, List.forall_mem_cons.2 ⟨T31_z, List.forall_mem_cons.2 ⟨T32_z, List.forall_mem_cons.2 ⟨T27_z, List.forall_mem_cons.2 ⟨T19_z, List.forall_mem_cons.2 ⟨T43_z, List.forall_mem_cons.2 ⟨T44_z, List.forall_mem_cons.2 ⟨T39_z, List.forall_mem_cons.2 ⟨T45_z, List.forall_mem_cons.2 ⟨T46_z, List.forall_mem_cons.2 ⟨T50_z, List.forall_mem_cons.2 ⟨T47_z, List.forall_mem_cons.2 ⟨T40_z, List.forall_mem_cons.2 ⟨T33_z, List.forall_mem_cons.2 ⟨T28_z, List.forall_mem_cons.2 ⟨T20_z, List.forall_mem_cons.2 ⟨T8_z, List.forall_mem_cons.2 ⟨T10_z, List.forall_mem_cons.2 ⟨T22_z, List.forall_mem_cons.2 ⟨T11_z, List.forall_mem_cons.2 ⟨T3_z, (fun _ h => nomatch h)⟩⟩⟩⟩⟩⟩⟩⟩⟩⟩⟩⟩⟩⟩⟩⟩⟩⟩⟩⟩⟩⟩⟩⟩⟩⟩⟩⟩⟩⟩⟩⟩⟩⟩⟩⟩⟩⟩⟩⟩⟩⟩⟩⟩⟩⟩⟩⟩⟩)
    (List.forall_mem_cons.2 ⟨D12_5_z, List.forall_mem_cons.2 ⟨D5_3_z, List.forall_mem_cons.2 ⟨D24_3_z, List.forall_mem_cons.2 ⟨D15_3_z, List.forall_mem_cons.2 ⟨D15_4_z, List.forall_mem_cons.2 ⟨D48_0_z, List.forall_mem_cons.2 ⟨D48_1_z, List.forall_mem_cons.2 ⟨D42_2_z, List.forall_mem_cons.2 ⟨D42_11_z, List.forall_mem_cons.2 ⟨D42_14_z, List.forall_mem_cons.2 ⟨D42_23_z, List.forall_mem_cons.2 ⟨D37_3_z, List.forall_mem_cons.2 ⟨D38_9_z, List.forall_mem_cons.2 ⟨D38_15_z, List.forall_mem_cons.2 ⟨D6_2_z, List.forall_mem_cons.2 ⟨D6_6_z, List.forall_mem_cons.2 ⟨D6_9_z, List.forall_mem_cons.2 ⟨D6_10_z, List.forall_mem_cons.2 ⟨D6_12_z, List.forall_mem_cons.2 ⟨D6_15_z, List.forall_mem_cons.2 ⟨D6_18_z, List.forall_mem_cons.2 ⟨D6_21_z, List.forall_mem_cons.2 ⟨D6_22_z, List.forall_mem_cons.2 ⟨D9_8_z, List.forall_mem_cons.2 ⟨D9_12_z, List.forall_mem_cons.2 ⟨D9_13_z, List.forall_mem_cons.2 ⟨D9_16_z, List.forall_mem_cons.2 ⟨D9_17_z, List.forall_mem_cons.2 ⟨D27_3_z, List.forall_mem_cons.2 ⟨D19_4_z, List.forall_mem_cons.2 ⟨D45_4_z, List.forall_mem_cons.2 ⟨D45_8_z, List.forall_mem_cons.2 ⟨D47_3_z, List.forall_mem_cons.2 ⟨D47_7_z, List.forall_mem_cons.2 ⟨D47_14_z, List.forall_mem_cons.2 ⟨D47_22_z, List.forall_mem_cons.2 ⟨D40_4_z, List.forall_mem_cons.2 ⟨D40_9_z, List.forall_mem_cons.2 ⟨D20_4_z, List.forall_mem_cons.2 ⟨D8_4_z, List.forall_mem_cons.2 ⟨D10_2_z, List.forall_mem_cons.2 ⟨D10_3_z, List.forall_mem_cons.2 ⟨D10_4_z, List.forall_mem_cons.2 ⟨D10_7_z, List.forall_mem_cons.2 ⟨D22_4_z, List.forall_mem_cons.2 ⟨D11_4_z, List.forall_mem_cons.2 ⟨D11_9_z, List.forall_mem_cons.2 ⟨D11_14_z, (fun _ h => nomatch h)⟩⟩⟩⟩⟩⟩⟩⟩⟩⟩⟩⟩⟩⟩⟩⟩⟩⟩⟩⟩⟩⟩⟩⟩⟩⟩⟩⟩⟩⟩⟩⟩⟩⟩⟩⟩⟩⟩⟩⟩⟩⟩⟩⟩⟩⟩⟩⟩)
    (fun k => List.forall_mem_cons.2 ⟨T12_ok k, List.forall_mem_cons.2 ⟨T4_ok k, List.forall_mem_cons.2 ⟨T5_ok k, List.forall_mem_cons.2 ⟨T13_ok k, List.forall_mem_cons.2 ⟨T14_ok k, List.forall_mem_cons.2 ⟨T23_ok k, List.forall_mem_cons.2 ⟨T24_ok k, List.forall_mem_cons.2 ⟨T25_ok k, List.forall_mem_cons.2 ⟨T15_ok k, List.forall_mem_cons.2 ⟨T41_ok k, List.forall_mem_cons.2 ⟨T34y5_ok k, List.forall_mem_cons.2 ⟨T48_ok k, List.forall_mem_cons.2 ⟨T34_ok k, List.forall_mem_cons.2 ⟨T35_ok k, List.forall_mem_cons.2 ⟨T29_ok k, List.forall_mem_cons.2 ⟨T36_ok k, List.forall_mem_cons.2 ⟨T49_ok k, List.forall_mem_cons.2 ⟨T42_ok k, List.forall_mem_cons.2 ⟨T37_ok k, List.forall_mem_cons.2 ⟨T38_ok k, List.forall_mem_cons.2 ⟨T30_ok k, List.forall_mem_cons.2 ⟨T26_ok k, List.forall_mem_cons.2 ⟨T16_ok k, List.forall_mem_cons.2 ⟨T6_ok k, List.forall_mem_cons.2 ⟨T17_ok k, List.forall_mem_cons.2 ⟨T9_ok k, List.forall_mem_cons.2 ⟨T7_ok k, List.forall_mem_cons.2 ⟨T18_ok k, List.forall_mem_cons.2 ⟨T21_ok k, List.forall_mem_cons.2 ⟨T31_ok k, List.forall_mem_cons.2 ⟨T32_ok k, List.forall_mem_cons.2 ⟨T27_ok k, List.forall_mem_cons.2 ⟨T19_ok k, List.forall_mem_cons.2 ⟨T43_ok k, List.forall_mem_cons.2 ⟨T44_ok k, List.forall_mem_cons.2 ⟨T39_ok k, List.forall_mem_cons.2 ⟨T45_ok k, List.forall_mem_cons.2 ⟨T46_ok k, List.forall_mem_cons.2 ⟨T50_ok k, List.forall_mem_cons.2 ⟨T47_ok k, List.forall_mem_cons.2 ⟨T40_ok k, List.forall_mem_cons.2 ⟨T33_ok k, List.forall_mem_cons.2 ⟨T28_ok k, List.forall_mem_cons.2 ⟨T20_ok k, List.forall_mem_cons.2 ⟨T8_ok k, List.forall_mem_cons.2 ⟨T10_ok k, List.forall_mem_cons.2 ⟨T22_ok k, List.forall_mem_cons.2 ⟨T11_ok k, List.forall_mem_cons.2 ⟨T3_ok k, (fun _ h => nomatch h)⟩⟩⟩⟩⟩⟩⟩⟩⟩⟩⟩⟩⟩⟩⟩⟩⟩⟩⟩⟩⟩⟩⟩⟩⟩⟩⟩⟩⟩⟩⟩⟩⟩⟩⟩⟩⟩⟩⟩⟩⟩⟩⟩⟩⟩⟩⟩⟩⟩)
    (fun k => List.forall_mem_cons.2 ⟨D12_5_ok k, List.forall_mem_cons.2 ⟨D5_3_ok k, List.forall_mem_cons.2 ⟨D24_3_ok k, List.forall_mem_cons.2 ⟨D15_3_ok k, List.forall_mem_cons.2 ⟨D15_4_ok k, List.forall_mem_cons.2 ⟨D48_0_ok k, List.forall_mem_cons.2 ⟨D48_1_ok k, List.forall_mem_cons.2 ⟨D42_2_ok k, List.forall_mem_cons.2 ⟨D42_11_ok k, List.forall_mem_cons.2 ⟨D42_14_ok k, List.forall_mem_cons.2 ⟨D42_23_ok k, List.forall_mem_cons.2 ⟨D37_3_ok k, List.forall_mem_cons.2 ⟨D38_9_ok k, List.forall_mem_cons.2 ⟨D38_15_ok k, List.forall_mem_cons.2 ⟨D6_2_ok k, List.forall_mem_cons.2 ⟨D6_6_ok k, List.forall_mem_cons.2 ⟨D6_9_ok k, List.forall_mem_cons.2 ⟨D6_10_ok k, List.forall_mem_cons.2 ⟨D6_12_ok k, List.forall_mem_cons.2 ⟨D6_15_ok k, List.forall_mem_cons.2 ⟨D6_18_ok k, List.forall_mem_cons.2 ⟨D6_21_ok k, List.forall_mem_cons.2 ⟨D6_22_ok k, List.forall_mem_cons.2 ⟨D9_8_ok k, List.forall_mem_cons.2 ⟨D9_12_ok k, List.forall_mem_cons.2 ⟨D9_13_ok k, List.forall_mem_cons.2 ⟨D9_16_ok k, List.forall_mem_cons.2 ⟨D9_17_ok k, List.forall_mem_cons.2 ⟨D27_3_ok k, List.forall_mem_cons.2 ⟨D19_4_ok k, List.forall_mem_cons.2 ⟨D45_4_ok k, List.forall_mem_cons.2 ⟨D45_8_ok k, List.forall_mem_cons.2 ⟨D47_3_ok k, List.forall_mem_cons.2 ⟨D47_7_ok k, List.forall_mem_cons.2 ⟨D47_14_ok k, List.forall_mem_cons.2 ⟨D47_22_ok k, List.forall_mem_cons.2 ⟨D40_4_ok k, List.forall_mem_cons.2 ⟨D40_9_ok k, List.forall_mem_cons.2 ⟨D20_4_ok k, List.forall_mem_cons.2 ⟨D8_4_ok k, List.forall_mem_cons.2 ⟨D10_2_ok k, List.forall_mem_cons.2 ⟨D10_3_ok k, List.forall_mem_cons.2 ⟨D10_4_ok k, List.forall_mem_cons.2 ⟨D10_7_ok k, List.forall_mem_cons.2 ⟨D22_4_ok k, List.forall_mem_cons.2 ⟨D11_4_ok k, List.forall_mem_cons.2 ⟨D11_9_ok k, List.forall_mem_cons.2 ⟨D11_14_ok k, (fun _ h => nomatch h)⟩⟩⟩⟩⟩⟩⟩⟩⟩⟩⟩⟩⟩⟩⟩⟩⟩⟩⟩⟩⟩⟩⟩⟩⟩⟩⟩⟩⟩⟩⟩⟩⟩⟩⟩⟩⟩⟩⟩⟩⟩⟩⟩⟩⟩⟩⟩⟩) k
end Go.V
