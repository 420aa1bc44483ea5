import Derived.Test.YtnpdhpbhkdejoaaDoorVG19E
set_option maxHeartbeats 4000000
set_option linter.unusedVariables false
namespace Go.V
open Go
def T13 (k : Nat) : Fn PU := fun args boxes K => match args, boxes with
  | [.agg [.int .i64 r1, .ro false 54 r2, .ro false 36 r3, .ro false 65 r4]], [] => Hold (F_r08_BigDirectory k r1 r2 r3 r4 (fun z0 => K (.bool z0) []))
  | _, _ => False
def T4 (k : Nat) : Fn PU := fun args boxes K => match args, boxes with
  | [.str r1, .agg [.int .i64 r2, .ro false 54 r3, .ro false 36 r4, .ro false 65 r5], .ro false 38 r6, .ro false 38 r7], [] => Hold (F_l19_large k r1 r2 r3 r4 r5 r6 r7 (fun z0 => K (.bool z0) []))
  | _, _ => False
def T32 (k : Nat) : Fn PU := fun args boxes K => match args, boxes with
  | [.int .i64 r1, .int .i64 r2, .int .i64 r3], [] => Hold (F_directory_within k r1 r2 r3 (fun z0 => K (.bool z0) []))
  | _, _ => False
def T33 (k : Nat) : Fn PU := fun args boxes K => match args, boxes with
  | [.str r1], [] => Hold (F_directory_name k r1 (fun z0 => K (.bool z0) []))
  | _, _ => False
def T51 (k : Nat) : Fn PU := fun args boxes K => match args, boxes with
  | [.ro false 70 r1], [] => Hold (F_version_last k r1 (fun z0 z1 z2 => K (.agg [.int .i64 z0, .int .i64 z1, .str z2]) []))
  | _, _ => False
def T52 (k : Nat) : Fn PU := fun args boxes K => match args, boxes with
  | [.agg [.int .i64 r1, .int .i64 r2, .str r3]], [] => Hold (F_version_may k r1 r2 r3 (fun z0 => K (.bool z0) []))
  | _, _ => False
def T53 (k : Nat) : Fn PU := fun args boxes K => match args, boxes with
  | [.agg [.int .i64 r1, .int .i64 r2, .str r3]], [] => Hold (F_version_open k r1 r2 r3 (fun z0 => K (.bool z0) []))
  | _, _ => False
def T34 (k : Nat) : Fn PU := fun args boxes K => match args, boxes with
  | [.ro false 70 r1], [] => Hold (F_version_Check k r1 (fun z0 => K (.int .i64 z0) []))
  | _, _ => False
def T55 (k : Nat) : Fn PU := fun args boxes K => match args, boxes with
  | [.int .i64 r1], [] => Hold (F_octet_groups k r1 (fun z0 => K (.clo 63 [.ptr 0 []]) [.box (.int .i64 z0)]))
  | _, _ => False
def T36y5 (k : Nat) : Fn PU := fun args boxes K => match args, boxes with
  | [.int .u8 r1, .ptr 0 []], [.box (.clip false 5 r2)] => Hold (F_octet_PutCount_y5 k r1 r2 (fun z0 => K (.clo 0 []) [.box (.own 1), .lst 5 z0]))
  | [.int .u8 r1, .ptr 0 []], [.box (.own 1), .lst 5 r2] => Hold (F_octet_PutCount_y5_s1 k r1 r2 (fun z0 => K (.clo 0 []) [.box (.own 2), .dead, .lst 5 z0]))
  | _, _ => False
def T63 (k : Nat) : Fn PU := fun args boxes K => match args, boxes with
  | [.yld 0, .ptr 1 []], [.lp 36 5 [6] [.ptr 2 []] 0, .box (.int .i64 r1), .box (.clip false 5 r2)] => Hold (F_octet_groups_1 k r1 r2 (fun z0 z1 => K (.tup []) [.lp 36 5 [6] [.ptr 2 []] 0, .box (.int .i64 z0), .box (.own 3), .lst 5 z1]))
  | _, _ => False
def T36 (k : Nat) : Fn PU := fun args boxes K => match args, boxes with
  | [.ro false 5 r1, .int .i64 r2], [] => Hold (F_octet_PutCount k r1 r2 (fun z0 z1 => K (.tup [.usl 5 z0, .int .i64 z1]) []))
  | _, _ => False
def T37 (k : Nat) : Fn PU := fun args boxes K => match args, boxes with
  | [.ro true 5 r1, .arr 5 32 r2], [] => Hold (F_octet_PutDigest k r1 r2 (fun z0 => K (.usl 5 z0) []))
  | _, _ => False
def T23 (k : Nat) : Fn PU := fun args boxes K => match args, boxes with
  | [.agg [.int .i64 r1, .arr 5 32 r2, .arr 5 32 r3]], [] => Hold (F_head_Bytes k r1 r2 r3 (fun z0 z1 => K (.tup [.usl 5 z0, .int .i64 z1]) []))
  | _, _ => False
def T42 (k : Nat) : Fn PU := fun args boxes K => match args, boxes with
  | [], [] => Hold (F_sha_New k (fun z0 z1 z2 => K (.ptr 0 []) [.box (.agg [.arr 92 8 z0, .arr 5 64 z1, .int .i64 z2])]))
  | _, _ => False
def T64 (k : Nat) : Fn PU := fun args boxes K => match args, boxes with
  | [.int .u32 r1, .int .i64 r2], [] => Hold (F_math_bits_RotateLeft32 k r1 r2 (fun z0 => K (.int .u32 z0) []))
  | _, _ => False
def T56 (k : Nat) : Fn PU := fun args boxes K => match args, boxes with
  | [.ptr 0 []], [.box (.agg [.arr 92 8 r1, .arr 5 64 r2, .int .i64 r3])] => Hold (F_sha_Hash_mix k r1 r2 r3 (fun z0 z1 z2 => K (.tup []) [.box (.agg [.arr 92 8 z0, .arr 5 64 z1, .int .i64 z2])]))
  | _, _ => False
def T43 (k : Nat) : Fn PU := fun args boxes K => match args, boxes with
  | [.ptr 0 [], .ro true 5 r1], [.box (.agg [.arr 92 8 r2, .arr 5 64 r3, .int .i64 r4])] => Hold (F_sha_Hash_Write k r1 r2 r3 r4 (fun z0 z1 z2 z3 => K (.int .i64 z0) [.box (.agg [.arr 92 8 z1, .arr 5 64 z2, .int .i64 z3])]))
  | [.ptr 0 [], .ro false 5 r1], [.box (.agg [.arr 92 8 r2, .arr 5 64 r3, .int .i64 r4])] => Hold (F_sha_Hash_Write k r1 r2 r3 r4 (fun z0 z1 z2 z3 => K (.int .i64 z0) [.box (.agg [.arr 92 8 z1, .arr 5 64 z2, .int .i64 z3])]))
  | _, _ => False
def T44 (k : Nat) : Fn PU := fun args boxes K => match args, boxes with
  | [.ptr 0 []], [.box (.agg [.arr 92 8 r1, .arr 5 64 r2, .int .i64 r3])] => Hold (F_sha_Hash_Sum k r1 r2 r3 (fun z0 z1 z2 z3 => K (.arr 5 32 z0) [.box (.agg [.arr 92 8 z1, .arr 5 64 z2, .int .i64 z3])]))
  | _, _ => False
def T38 (k : Nat) : Fn PU := fun args boxes K => match args, boxes with
  | [.ro true 5 r1], [] => Hold (F_sha_Sum k r1 (fun z0 => K (.arr 5 32 z0) []))
  | _, _ => False
def T54 (k : Nat) : Fn PU := fun args boxes K => match args, boxes with
  | [.agg [.int .i64 r1, .arr 5 32 r2, .arr 5 32 r3]], [] => Hold (F_head_Digest k r1 r2 r3 (fun z0 z1 => K (.tup [.arr 5 32 z0, .int .i64 z1]) []))
  | _, _ => False
def T35 (k : Nat) : Fn PU := fun args boxes K => match args, boxes with
  | [.ro false 36 r1], [] => Hold (F_directory_prev k r1 (fun z0 => K (.arr 5 32 z0) []))
  | _, _ => False
def T21 (k : Nat) : Fn PU := fun args boxes K => match args, boxes with
  | [.agg [.int .i64 r1, .ro false 54 r2, .ro false 36 r3, .ro false 65 r4]], [] => Hold (F_directory_Check k r1 r2 r3 r4 (fun z0 => K (.int .i64 z0) []))
  | _, _ => False
def T14 (k : Nat) : Fn PU := fun args boxes K => match args, boxes with
  | [.str r1, .agg [.int .i64 r2, .ro false 54 r3, .ro false 36 r4, .ro false 65 r5]], [] => Hold (F_signer_ready k r1 r2 r3 r4 r5 (fun z0 => K (.int .i64 z0) []))
  | _, _ => False
def T15 (k : Nat) : Fn PU := fun args boxes K => match args, boxes with
  | [.ro false 36 r1], [] => Hold (F_slices_Values_api_Head_api_Head k r1 (fun z0 => K (.clo 22 [.ptr 0 []]) [.box (.ro false 36 z0)]))
  | _, _ => False
def T24 (k : Nat) : Fn PU := fun args boxes K => match args, boxes with
  | [.str r1], [] => Hold (F_head_signing k r1 (fun z0 => K (.bool z0) []))
  | _, _ => False
def T41 (k : Nat) : Fn PU := fun args boxes K => match args, boxes with
  | [.int .u8 r1, .ptr 0 []], [.box (.int .u8 r2)] => Hold (F_mac_Mac_1_1 k r1 r2 (fun z0 z1 => K (.int .u8 z0) [.box (.int .u8 z1)]))
  | _, _ => False
def T40 (k : Nat) : Fn PU := fun args boxes K => match args, boxes with
  | [.arr 5 64 r1, .clo 41 [.ptr 0 []]], [.box (.int .u8 r2)] => Hold (F_mac_turned_byte k r1 r2 (fun z0 z1 z2 z3 => K (.bsl 1 [] 5 64 z0 z1) [.box (.int .u8 z2), .box (.arr 5 64 z3)]))
  | _, _ => False
def T39 (k : Nat) : Fn PU := fun args boxes K => match args, boxes with
  | [.int .u8 r1, .ptr 0 []], [.box (.arr 5 64 r2)] => Hold (F_mac_Mac_1 k r1 r2 (fun z0 z1 z2 z3 => K (.bsl 1 [] 5 64 z0 z1) [.box (.arr 5 64 z2), .box (.arr 5 64 z3)]))
  | _, _ => False
def T25 (k : Nat) : Fn PU := fun args boxes K => match args, boxes with
  | [.ro true 5 r1, .ro true 5 r2], [] => Hold (F_mac_Mac k r1 r2 (fun z0 => K (.arr 5 32 z0) []))
  | _, _ => False
def T16 (k : Nat) : Fn PU := fun args boxes K => match args, boxes with
  | [.str r1, .agg [.int .i64 r2, .arr 5 32 r3, .arr 5 32 r4]], [] => Hold (F_head_Sign k r1 r2 r3 r4 (fun z0 z1 z2 z3 z4 => K (.tup [.agg [.agg [.int .i64 z0, .arr 5 32 z1, .arr 5 32 z2], .arr 5 32 z3], .int .i64 z4]) []))
  | _, _ => False
def T5y6 (k : Nat) : Fn PU := fun args boxes K => match args, boxes with
  | [.agg [.int .i64 r1, .arr 5 32 r2, .arr 5 32 r3], .ptr 0 [], .ptr 1 []], [.box (.str r4), .box (.own 2), .lst 38 r5] => Hold (F_signer_Heads_y6 k r1 r2 r3 r4 r5 (fun z0 z1 => K (.clo 0 []) [.box (.str z0), .box (.own 3), .dead, .lst 38 z1]))
  | _, _ => False
def T22 (k : Nat) : Fn PU := fun args boxes K => match args, boxes with
  | [.yld 0, .ptr 1 []], [.lp 5 6 [2, 7] [.ptr 2 [], .ptr 3 []] 0, .box (.ro false 36 r1), .box (.str r2), .box (.own 4), .lst 38 r3] => Hold (F_slices_Values_api_Head_api_Head_1 k r1 r2 r3 (fun z0 z1 z2 => K (.tup []) [.lp 5 6 [2, 7] [.ptr 2 [], .ptr 3 []] 0, .box (.ro false 36 z0), .box (.str z1), .box (.own 5), .dead, .lst 38 z2]) (fun z0 z1 z2 => K (.tup []) [.lp 5 6 [2, 7] [.ptr 2 [], .ptr 3 []] 0, .box (.ro false 36 z0), .box (.str z1), .box (.own 4), .lst 38 z2]))
  | _, _ => False
def T5 (k : Nat) : Fn PU := fun args boxes K => match args, boxes with
  | [.str r1, .agg [.int .i64 r2, .ro false 54 r3, .ro false 36 r4, .ro false 65 r5]], [] => Hold (F_signer_Heads k r1 r2 r3 r4 r5 (fun z0 z1 => K (.tup [.usl 38 z0, .int .i64 z1]) []))
  | _, _ => False
def T26 (k : Nat) : Fn PU := fun args boxes K => match args, boxes with
  | [.int .i64 r1, .int .i64 r2, .int .i64 r3], [] => Hold (F_r10_within k r1 r2 r3 (fun z0 => K (.bool z0) []))
  | _, _ => False
def T45 (k : Nat) : Fn PU := fun args boxes K => match args, boxes with
  | [.str r1], [] => Hold (F_r10_Name k r1 (fun z0 => K (.bool z0) []))
  | _, _ => False
def T57 (k : Nat) : Fn PU := fun args boxes K => match args, boxes with
  | [.agg [.int .i64 r1, .int .i64 r2, .str r3]], [] => Hold (F_r07_May k r1 r2 r3 (fun z0 => K (.bool z0) []))
  | _, _ => False
def T58 (k : Nat) : Fn PU := fun args boxes K => match args, boxes with
  | [.int .i64 r1, .int .i64 r2], [] => Hold (F_r07_follows k r1 r2 (fun z0 => K (.bool z0) []))
  | _, _ => False
def T46 (k : Nat) : Fn PU := fun args boxes K => match args, boxes with
  | [.ro false 70 r1], [] => Hold (F_r07_Is k r1 (fun z0 => K (.bool z0) []))
  | _, _ => False
def T27 (k : Nat) : Fn PU := fun args boxes K => match args, boxes with
  | [.ro false 54 r1, .int .i64 r2], [] => Hold (F_r10_users k r1 r2 (fun z0 => K (.bool z0) []))
  | _, _ => False
def T48 (k : Nat) : Fn PU := fun args boxes K => match args, boxes with
  | [.agg [.int .i64 r1, .arr 5 32 r2, .arr 5 32 r3]], [] => Hold (F_r09_May k r1 r2 r3 (fun z0 => K (.bool z0) []))
  | _, _ => False
def T49 (k : Nat) : Fn PU := fun args boxes K => match args, boxes with
  | [.int .i64 r1], [] => Hold (F_r01_Groups k r1 (fun z0 => K (.usl 5 z0) []))
  | _, _ => False
def T29 (k : Nat) : Fn PU := fun args boxes K => match args, boxes with
  | [.agg [.int .i64 r1, .arr 5 32 r2, .arr 5 32 r3]], [] => Hold (F_r09_Bytes k r1 r2 r3 (fun z0 z1 => K (.tup [.usl 5 z0, .int .i64 z1]) []))
  | _, _ => False
def T60 (k : Nat) : Fn PU := fun args boxes K => match args, boxes with
  | [.ro true 5 r1], [] => Hold (F_r02_Padded k r1 (fun z0 => K (.usl 5 z0) []))
  | _, _ => False
def T61 (k : Nat) : Fn PU := fun args boxes K => match args, boxes with
  | [], [] => Hold (F_r02_begin k (fun z0 => K (.arr 92 8 z0) []))
  | _, _ => False
def T65 (k : Nat) : Fn PU := fun args boxes K => match args, boxes with
  | [.int .u32 r1, .int .i64 r2], [] => Hold (F_r02_turned k r1 r2 (fun z0 => K (.int .u32 z0) []))
  | _, _ => False
def T62 (k : Nat) : Fn PU := fun args boxes K => match args, boxes with
  | [.arr 92 8 r1, .ro true 5 r2], [] => Hold (F_r02_block k r1 r2 (fun z0 => K (.arr 92 8 z0) []))
  | _, _ => False
def T50 (k : Nat) : Fn PU := fun args boxes K => match args, boxes with
  | [.ro true 5 r1], [] => Hold (F_r02_Sum k r1 (fun z0 => K (.arr 5 32 z0) []))
  | _, _ => False
def T59 (k : Nat) : Fn PU := fun args boxes K => match args, boxes with
  | [.agg [.int .i64 r1, .arr 5 32 r2, .arr 5 32 r3]], [] => Hold (F_r09_Digest k r1 r2 r3 (fun z0 z1 => K (.tup [.arr 5 32 z0, .int .i64 z1]) []))
  | _, _ => False
def T47 (k : Nat) : Fn PU := fun args boxes K => match args, boxes with
  | [.ro false 36 r1], [] => Hold (F_r10_Prev k r1 (fun z0 => K (.arr 5 32 z0) []))
  | _, _ => False
def T28 (k : Nat) : Fn PU := fun args boxes K => match args, boxes with
  | [.ro false 36 r1, .int .i64 r2], [] => Hold (F_r10_heads k r1 r2 (fun z0 => K (.bool z0) []))
  | _, _ => False
def T17 (k : Nat) : Fn PU := fun args boxes K => match args, boxes with
  | [.agg [.int .i64 r1, .ro false 54 r2, .ro false 36 r3, .ro false 65 r4]], [] => Hold (F_r10_Right k r1 r2 r3 r4 (fun z0 => K (.bool z0) []))
  | _, _ => False
def T18 (k : Nat) : Fn PU := fun args boxes K => match args, boxes with
  | [.str r1], [] => Hold (F_r09_Key k r1 (fun z0 => K (.bool z0) []))
  | _, _ => False
def T30 (k : Nat) : Fn PU := fun args boxes K => match args, boxes with
  | [.ro true 5 r1, .ro true 5 r2], [] => Hold (F_r03_Mac k r1 r2 (fun z0 => K (.arr 5 32 z0) []))
  | _, _ => False
def T19 (k : Nat) : Fn PU := fun args boxes K => match args, boxes with
  | [.str r1, .agg [.int .i64 r2, .arr 5 32 r3, .arr 5 32 r4]], [] => Hold (F_r09_Sign k r1 r2 r3 r4 (fun z0 z1 z2 z3 z4 => K (.tup [.agg [.agg [.int .i64 z0, .arr 5 32 z1, .arr 5 32 z2], .arr 5 32 z3], .int .i64 z4]) []))
  | _, _ => False
def T6 (k : Nat) : Fn PU := fun args boxes K => match args, boxes with
  | [.str r1, .agg [.int .i64 r2, .ro false 54 r3, .ro false 36 r4, .ro false 65 r5]], [] => Hold (F_r19_Heads k r1 r2 r3 r4 r5 (fun z0 z1 => K (.tup [.usl 38 z0, .int .i64 z1]) []))
  | _, _ => False
def T8 (k : Nat) : Fn PU := fun args boxes K => match args, boxes with
  | [.ro true 38 r1], [] => Hold (F_signer_Newest k r1 (fun z0 z1 z2 z3 => K (.agg [.agg [.int .i64 z0, .arr 5 32 z1, .arr 5 32 z2], .arr 5 32 z3]) []))
  | [.ro false 38 r1], [] => Hold (F_signer_Newest k r1 (fun z0 z1 z2 z3 => K (.agg [.agg [.int .i64 z0, .arr 5 32 z1, .arr 5 32 z2], .arr 5 32 z3]) []))
  | _, _ => False
def T20 (k : Nat) : Fn PU := fun args boxes K => match args, boxes with
  | [.ro true 38 r1], [] => Hold (F_slices_Values_api_Signed_api_Signed k r1 (fun z0 => K (.clo 31 [.ptr 0 []]) [.box (.ro true 38 z0)]))
  | [.ro false 38 r1], [] => Hold (F_slices_Values_api_Signed_api_Signed k r1 (fun z0 => K (.clo 31 [.ptr 0 []]) [.box (.ro false 38 z0)]))
  | _, _ => False
def T10y5 (k : Nat) : Fn PU := fun args boxes K => match args, boxes with
  | [.agg [.agg [.int .i64 r1, .arr 5 32 r2, .arr 5 32 r3], .arr 5 32 r4], .ptr 0 [], .ptr 1 []], [.box (.bool r5), .box (.agg [.agg [.int .i64 r6, .arr 5 32 r7, .arr 5 32 r8], .arr 5 32 r9])] => Hold (F_signer_Agree_y5 k r1 r2 r3 r4 r5 r6 r7 r8 r9 (fun z0 z1 z2 z3 z4 => K (.clo 2 []) [.box (.bool z0), .box (.agg [.agg [.int .i64 z1, .arr 5 32 z2, .arr 5 32 z3], .arr 5 32 z4])]) (fun z0 z1 z2 z3 z4 => K (.clo 0 []) [.box (.bool z0), .box (.agg [.agg [.int .i64 z1, .arr 5 32 z2, .arr 5 32 z3], .arr 5 32 z4])]))
  | _, _ => False
def T31 (k : Nat) : Fn PU := fun args boxes K => match args, boxes with
  | [.yld 0, .ptr 1 []], [.lp 10 5 [5, 6] [.ptr 2 [], .ptr 3 []] 0, .box (.ro true 38 r1), .box (.bool r2), .box (.agg [.agg [.int .i64 r3, .arr 5 32 r4, .arr 5 32 r5], .arr 5 32 r6])] => Hold (F_slices_Values_api_Signed_api_Signed_1_s1 k r1 r2 r3 r4 r5 r6 (fun z0 z1 z2 z3 z4 z5 => K (.tup []) [.lp 10 5 [5, 6] [.ptr 2 [], .ptr 3 []] 2, .box (.ro true 38 z0), .box (.bool z1), .box (.agg [.agg [.int .i64 z2, .arr 5 32 z3, .arr 5 32 z4], .arr 5 32 z5])]) (fun z0 z1 z2 z3 z4 z5 => K (.tup []) [.lp 10 5 [5, 6] [.ptr 2 [], .ptr 3 []] 0, .box (.ro true 38 z0), .box (.bool z1), .box (.agg [.agg [.int .i64 z2, .arr 5 32 z3, .arr 5 32 z4], .arr 5 32 z5])]))
  | [.yld 0, .ptr 1 []], [.lp 10 3 [3, 5] [.ptr 2 [], .ptr 3 []] 0, .box (.ro true 38 r1), .box (.ro true 38 r2), .box (.bool r3)] => Hold (F_slices_Values_api_Signed_api_Signed_1 k r1 r2 r3 (fun z0 z1 z2 => K (.tup []) [.lp 10 3 [3, 5] [.ptr 2 [], .ptr 3 []] 2, .box (.ro true 38 z0), .box (.ro true 38 z1), .box (.bool z2)]) (fun z0 z1 z2 => K (.tup []) [.lp 10 3 [3, 5] [.ptr 2 [], .ptr 3 []] 0, .box (.ro true 38 z0), .box (.ro true 38 z1), .box (.bool z2)]))
  | [.yld 0, .ptr 1 []], [.lp 10 5 [5, 6] [.ptr 2 [], .ptr 3 []] 0, .box (.ro false 38 r1), .box (.bool r2), .box (.agg [.agg [.int .i64 r3, .arr 5 32 r4, .arr 5 32 r5], .arr 5 32 r6])] => Hold (F_slices_Values_api_Signed_api_Signed_1_s1 k r1 r2 r3 r4 r5 r6 (fun z0 z1 z2 z3 z4 z5 => K (.tup []) [.lp 10 5 [5, 6] [.ptr 2 [], .ptr 3 []] 2, .box (.ro false 38 z0), .box (.bool z1), .box (.agg [.agg [.int .i64 z2, .arr 5 32 z3, .arr 5 32 z4], .arr 5 32 z5])]) (fun z0 z1 z2 z3 z4 z5 => K (.tup []) [.lp 10 5 [5, 6] [.ptr 2 [], .ptr 3 []] 0, .box (.ro false 38 z0), .box (.bool z1), .box (.agg [.agg [.int .i64 z2, .arr 5 32 z3, .arr 5 32 z4], .arr 5 32 z5])]))
  | [.yld 0, .ptr 1 []], [.lp 10 3 [3, 5] [.ptr 2 [], .ptr 3 []] 0, .box (.ro false 38 r1), .box (.ro false 38 r2), .box (.bool r3)] => Hold (F_slices_Values_api_Signed_api_Signed_1 k r1 r2 r3 (fun z0 z1 z2 => K (.tup []) [.lp 10 3 [3, 5] [.ptr 2 [], .ptr 3 []] 2, .box (.ro false 38 z0), .box (.ro false 38 z1), .box (.bool z2)]) (fun z0 z1 z2 => K (.tup []) [.lp 10 3 [3, 5] [.ptr 2 [], .ptr 3 []] 0, .box (.ro false 38 z0), .box (.ro false 38 z1), .box (.bool z2)]))
  | _, _ => False
def T10y3 (k : Nat) : Fn PU := fun args boxes K => match args, boxes with
  | [.agg [.agg [.int .i64 r1, .arr 5 32 r2, .arr 5 32 r3], .arr 5 32 r4], .ptr 0 [], .ptr 1 []], [.box (.ro true 38 r5), .box (.bool r6)] => Hold (F_signer_Agree_y3 k r1 r2 r3 r4 r5 r6 (fun z0 z1 => K (.clo 2 []) [.box (.ro true 38 z0), .box (.bool z1)]) (fun z0 z1 => K (.clo 0 []) [.box (.ro true 38 z0), .box (.bool z1)]))
  | [.agg [.agg [.int .i64 r1, .arr 5 32 r2, .arr 5 32 r3], .arr 5 32 r4], .ptr 0 [], .ptr 1 []], [.box (.ro false 38 r5), .box (.bool r6)] => Hold (F_signer_Agree_y3 k r1 r2 r3 r4 r5 r6 (fun z0 z1 => K (.clo 2 []) [.box (.ro false 38 z0), .box (.bool z1)]) (fun z0 z1 => K (.clo 0 []) [.box (.ro false 38 z0), .box (.bool z1)]))
  | _, _ => False
def T10 (k : Nat) : Fn PU := fun args boxes K => match args, boxes with
  | [.ro true 38 r1, .ro true 38 r2], [] => Hold (F_signer_Agree k r1 r2 (fun z0 => K (.bool z0) []))
  | [.ro false 38 r1, .ro false 38 r2], [] => Hold (F_signer_Agree k r1 r2 (fun z0 => K (.bool z0) []))
  | _, _ => False
def T7 (k : Nat) : Fn PU := fun args boxes K => match args, boxes with
  | [], [] => Hold (F_l19_lists k (fun z0 => K (.bool z0) []))
  | _, _ => False
def T9 (k : Nat) : Fn PU := fun args boxes K => match args, boxes with
  | [.ro false 38 r1], [] => Hold (F_r19_Newest k r1 (fun z0 z1 z2 z3 => K (.agg [.agg [.int .i64 z0, .arr 5 32 z1, .arr 5 32 z2], .arr 5 32 z3]) []))
  | _, _ => False
def T11 (k : Nat) : Fn PU := fun args boxes K => match args, boxes with
  | [.ro false 38 r1, .ro false 38 r2], [] => Hold (F_r19_Agree k r1 r2 (fun z0 => K (.bool z0) []))
  | _, _ => False
def T12 (k : Nat) : Fn PU := fun args boxes K => match args, boxes with
  | [.ro true 38 r1, .ro true 38 r2], [] => Hold (F_r19_Same k r1 r2 (fun z0 => K (.bool z0) []))
  | _, _ => False
def T3 (k : Nat) : Fn PU := fun args boxes K => match args, boxes with
  | [.str r1, .agg [.int .i64 r2, .ro false 54 r3, .ro false 36 r4, .ro false 65 r5], .ro false 38 r6, .ro false 38 r7], [] => Hold (F_l19_SignerLists k r1 r2 r3 r4 r5 r6 r7 (fun z0 => K (.bool z0) []))
  | _, _ => False
def D13_5 (k : Nat) : Nat → List (A PU) → List (AObj PU) → (A PU → List (AObj PU) → Prop) → Prop := fun nb vals objs K => match nb, vals, objs with
  | 0, [.ptr 0 [], .int .i64 r5, .int .i64 r6], [.box (.agg [.int .i64 r7, .ro false 54 r8, .ro false 36 r9, .ro false 65 r10])] => Hold (C_r08_BigDirectory_5 k r5 r6 r7 r8 r9 r10 (fun z0 => K (.bool z0) []))
  | _, _, _ => False
def D52_3 (k : Nat) : Nat → List (A PU) → List (AObj PU) → (A PU → List (AObj PU) → Prop) → Prop := fun nb vals objs K => match nb, vals, objs with
  | 0, [.ptr 0 [], .bool r4, .int .i64 r5], [.box (.agg [.int .i64 r6, .int .i64 r7, .str r8])] => Hold (C_version_may_3 k r4 r5 r6 r7 r8 (fun z0 => K (.bool z0) []))
  | _, _, _ => False
def D34_3 (k : Nat) : Nat → List (A PU) → List (AObj PU) → (A PU → List (AObj PU) → Prop) → Prop := fun nb vals objs K => match nb, vals, objs with
  | 0, [.ro false 70 r2, .bool r3, .int .i64 r4], [] => Hold (C_version_Check_3 k r2 r3 r4 (fun z0 => K (.int .i64 z0) []))
  | _, _, _ => False
def D34_4 (k : Nat) : Nat → List (A PU) → List (AObj PU) → (A PU → List (AObj PU) → Prop) → Prop := fun nb vals objs K => match nb, vals, objs with
  | 0, [.ro false 70 r10, .bool r11, .int .i64 r12], [] => Hold (C_version_Check_4 k r10 r11 r12 (fun z0 => K (.int .i64 z0) []))
  | _, _, _ => False
def D63_0 (k : Nat) : Nat → List (A PU) → List (AObj PU) → (A PU → List (AObj PU) → Prop) → Prop := fun nb vals objs K => match nb, vals, objs with
  | 3, [.yld 0, .ptr 1 []], [.lp 36 5 [6] [.ptr 2 []] 0, .box (.int .i64 r3), .box (.clip false 5 r4)] => Hold (C_octet_groups_1_0 k r3 r4 (fun z0 z1 => K (.tup []) [.lp 36 5 [6] [.ptr 2 []] 0, .box (.int .i64 z0), .box (.own 3), .lst 5 z1]))
  | 3, [.yld 0, .ptr 1 []], [.lp 36 5 [6] [.ptr 2 []] 0, .box (.int .i64 r8), .box (.own 3), .lst 5 r9] => Hold (C_octet_groups_1_0_1 k r8 r9 (fun z0 z1 => K (.tup []) [.lp 36 5 [6] [.ptr 2 []] 0, .box (.int .i64 z0), .box (.own 3), .lst 5 z1]))
  | _, _, _ => False
def D63_1 (k : Nat) : Nat → List (A PU) → List (AObj PU) → (A PU → List (AObj PU) → Prop) → Prop := fun nb vals objs K => match nb, vals, objs with
  | 3, [.yld 0, .ptr 1 []], [.lp 36 5 [6] [.ptr 2 []] 0, .box (.int .i64 r5), .box (.clip false 5 r6)] => Hold (C_octet_groups_1_1 k r5 r6 (fun z0 z1 => K (.tup []) [.lp 36 5 [6] [.ptr 2 []] 0, .box (.int .i64 z0), .box (.own 3), .lst 5 z1]))
  | 3, [.yld 0, .ptr 1 []], [.lp 36 5 [6] [.ptr 2 []] 0, .box (.int .i64 r10), .box (.own 3), .lst 5 r11] => Hold (C_octet_groups_1_1_1 k r10 r11 (fun z0 z1 => K (.tup []) [.lp 36 5 [6] [.ptr 2 []] 0, .box (.int .i64 z0), .box (.own 3), .lst 5 z1]))
  | _, _, _ => False
def D56_2 (k : Nat) : Nat → List (A PU) → List (AObj PU) → (A PU → List (AObj PU) → Prop) → Prop := fun nb vals objs K => match nb, vals, objs with
  | 1, [.ptr 0 [], .ptr 1 [], .int .i64 r4], [.box (.agg [.arr 92 8 r5, .arr 5 64 r6, .int .i64 r7]), .box (.arr 92 64 r8)] => Hold (C_sha_Hash_mix_2 k r4 r5 r6 r7 r8 (fun z0 z1 z2 => K (.tup []) [.box (.agg [.arr 92 8 z0, .arr 5 64 z1, .int .i64 z2])]))
  | _, _, _ => False
def D56_11 (k : Nat) : Nat → List (A PU) → List (AObj PU) → (A PU → List (AObj PU) → Prop) → Prop := fun nb vals objs K => match nb, vals, objs with
  | 1, [.ptr 0 [], .ptr 1 [], .int .i64 r9], [.box (.agg [.arr 92 8 r10, .arr 5 64 r11, .int .i64 r12]), .box (.arr 92 64 r13)] => Hold (C_sha_Hash_mix_11 k r9 r10 r11 r12 r13 (fun z0 z1 z2 => K (.tup []) [.box (.agg [.arr 92 8 z0, .arr 5 64 z1, .int .i64 z2])]))
  | _, _, _ => False
def D56_14 (k : Nat) : Nat → List (A PU) → List (AObj PU) → (A PU → List (AObj PU) → Prop) → Prop := fun nb vals objs K => match nb, vals, objs with
  | 1, [.ptr 0 [], .int .u32 r18, .int .u32 r19, .int .u32 r20, .int .u32 r21, .int .u32 r22, .int .u32 r23, .int .u32 r24, .int .u32 r25, .arr 92 64 r26, .int .i64 r27], [.box (.agg [.arr 92 8 r28, .arr 5 64 r29, .int .i64 r30])] => Hold (C_sha_Hash_mix_14 k r18 r19 r20 r21 r22 r23 r24 r25 r26 r27 r28 r29 r30 (fun z0 z1 z2 => K (.tup []) [.box (.agg [.arr 92 8 z0, .arr 5 64 z1, .int .i64 z2])]))
  | _, _, _ => False
def D56_23 (k : Nat) : Nat → List (A PU) → List (AObj PU) → (A PU → List (AObj PU) → Prop) → Prop := fun nb vals objs K => match nb, vals, objs with
  | 1, [.ptr 0 [], .arr 92 8 r37, .int .i64 r38], [.box (.agg [.arr 92 8 r39, .arr 5 64 r40, .int .i64 r41])] => Hold (C_sha_Hash_mix_23 k r37 r38 r39 r40 r41 (fun z0 z1 z2 => K (.tup []) [.box (.agg [.arr 92 8 z0, .arr 5 64 z1, .int .i64 z2])]))
  | _, _, _ => False
def D43_3 (k : Nat) : Nat → List (A PU) → List (AObj PU) → (A PU → List (AObj PU) → Prop) → Prop := fun nb vals objs K => match nb, vals, objs with
  | 1, [.ptr 0 [], .ro true 5 r5], [.box (.agg [.arr 92 8 r6, .arr 5 64 r7, .int .i64 r8])] => Hold (C_sha_Hash_Write_3 k r5 r6 r7 r8 (fun z0 z1 z2 z3 => K (.int .i64 z0) [.box (.agg [.arr 92 8 z1, .arr 5 64 z2, .int .i64 z3])]))
  | 1, [.ptr 0 [], .ro false 5 r5], [.box (.agg [.arr 92 8 r6, .arr 5 64 r7, .int .i64 r8])] => Hold (C_sha_Hash_Write_3 k r5 r6 r7 r8 (fun z0 z1 z2 z3 => K (.int .i64 z0) [.box (.agg [.arr 92 8 z1, .arr 5 64 z2, .int .i64 z3])]))
  | _, _, _ => False
def D44_9 (k : Nat) : Nat → List (A PU) → List (AObj PU) → (A PU → List (AObj PU) → Prop) → Prop := fun nb vals objs K => match nb, vals, objs with
  | 1, [.ptr 0 [], .ptr 1 [], .ptr 2 [], .ptr 3 [], .ptr 4 [], .int .i64 r8, .int .i64 r9], [.box (.agg [.arr 92 8 r10, .arr 5 64 r11, .int .i64 r12]), .box (.arr 5 32 r13), .box (.arr 5 32 r14), .box (.agg [.arr 92 8 r15, .arr 5 64 r16, .int .i64 r17]), .box (.arr 5 72 r18)] => Hold (C_sha_Hash_Sum_9 k r8 r9 r10 r11 r12 r13 r14 r15 r16 r17 r18 (fun z0 z1 z2 z3 => K (.arr 5 32 z0) [.box (.agg [.arr 92 8 z1, .arr 5 64 z2, .int .i64 z3])]))
  | _, _, _ => False
def D44_15 (k : Nat) : Nat → List (A PU) → List (AObj PU) → (A PU → List (AObj PU) → Prop) → Prop := fun nb vals objs K => match nb, vals, objs with
  | 1, [.ptr 1 [], .ptr 2 [], .ptr 3 [], .int .i64 r23], [.box (.agg [.arr 92 8 r24, .arr 5 64 r25, .int .i64 r26]), .box (.arr 5 32 r27), .box (.arr 5 32 r28), .box (.agg [.arr 92 8 r29, .arr 5 64 r30, .int .i64 r31])] => Hold (C_sha_Hash_Sum_15 k r23 r24 r25 r26 r27 r28 r29 r30 r31 (fun z0 z1 z2 z3 => K (.arr 5 32 z0) [.box (.agg [.arr 92 8 z1, .arr 5 64 z2, .int .i64 z3])]))
  | _, _, _ => False
def D21_2 (k : Nat) : Nat → List (A PU) → List (AObj PU) → (A PU → List (AObj PU) → Prop) → Prop := fun nb vals objs K => match nb, vals, objs with
  | 0, [.ptr 0 [], .bool r6], [.box (.agg [.int .i64 r7, .ro false 54 r8, .ro false 36 r9, .ro false 65 r10])] => Hold (C_directory_Check_2 k r6 r7 r8 r9 r10 (fun z0 => K (.int .i64 z0) []))
  | _, _, _ => False
def D21_6 (k : Nat) : Nat → List (A PU) → List (AObj PU) → (A PU → List (AObj PU) → Prop) → Prop := fun nb vals objs K => match nb, vals, objs with
  | 0, [.ptr 0 [], .bool r11, .str r12, .ro false 54 r13, .int .i64 r14, .int .i64 r15], [.box (.agg [.int .i64 r16, .ro false 54 r17, .ro false 36 r18, .ro false 65 r19])] => Hold (C_directory_Check_6 k r11 r12 r13 r14 r15 r16 r17 r18 r19 (fun z0 => K (.int .i64 z0) []))
  | _, _, _ => False
def D21_9 (k : Nat) : Nat → List (A PU) → List (AObj PU) → (A PU → List (AObj PU) → Prop) → Prop := fun nb vals objs K => match nb, vals, objs with
  | 0, [.ptr 0 [], .bool r22, .ptr 1 [], .ro false 54 r23, .int .i64 r24, .int .i64 r25], [.box (.agg [.int .i64 r26, .ro false 54 r27, .ro false 36 r28, .ro false 65 r29]), .box (.agg [.str r30, .ro false 70 r31])] => Hold (C_directory_Check_9 k r22 r23 r24 r25 r26 r27 r28 r29 r30 r31 (fun z0 => K (.int .i64 z0) []))
  | _, _, _ => False
def D21_10 (k : Nat) : Nat → List (A PU) → List (AObj PU) → (A PU → List (AObj PU) → Prop) → Prop := fun nb vals objs K => match nb, vals, objs with
  | 0, [.ptr 0 [], .bool r32, .str r33, .ro false 54 r34, .int .i64 r35, .int .i64 r36], [.box (.agg [.int .i64 r37, .ro false 54 r38, .ro false 36 r39, .ro false 65 r40])] => Hold (C_directory_Check_10 k r32 r33 r34 r35 r36 r37 r38 r39 r40 (fun z0 => K (.int .i64 z0) []))
  | _, _, _ => False
def D21_12 (k : Nat) : Nat → List (A PU) → List (AObj PU) → (A PU → List (AObj PU) → Prop) → Prop := fun nb vals objs K => match nb, vals, objs with
  | 0, [.ptr 0 [], .bool r41, .ro false 36 r42, .int .i64 r43, .int .i64 r44], [.box (.agg [.int .i64 r45, .ro false 54 r46, .ro false 36 r47, .ro false 65 r48])] => Hold (C_directory_Check_12 k r41 r42 r43 r44 r45 r46 r47 r48 (fun z0 => K (.int .i64 z0) []))
  | _, _, _ => False
def D21_15 (k : Nat) : Nat → List (A PU) → List (AObj PU) → (A PU → List (AObj PU) → Prop) → Prop := fun nb vals objs K => match nb, vals, objs with
  | 0, [.ptr 0 [], .bool r50, .ro false 36 r51, .int .i64 r52, .int .i64 r53], [.box (.agg [.int .i64 r54, .ro false 54 r55, .ro false 36 r56, .ro false 65 r57])] => Hold (C_directory_Check_15 k r50 r51 r52 r53 r54 r55 r56 r57 (fun z0 => K (.int .i64 z0) []))
  | _, _, _ => False
def D21_18 (k : Nat) : Nat → List (A PU) → List (AObj PU) → (A PU → List (AObj PU) → Prop) → Prop := fun nb vals objs K => match nb, vals, objs with
  | 0, [.ptr 0 [], .bool r58, .int .i64 r59, .ro false 65 r60, .int .i64 r61, .int .i64 r62], [.box (.agg [.int .i64 r63, .ro false 54 r64, .ro false 36 r65, .ro false 65 r66])] => Hold (C_directory_Check_18 k r58 r59 r60 r61 r62 r63 r64 r65 r66 (fun z0 => K (.int .i64 z0) []))
  | _, _, _ => False
def D21_21 (k : Nat) : Nat → List (A PU) → List (AObj PU) → (A PU → List (AObj PU) → Prop) → Prop := fun nb vals objs K => match nb, vals, objs with
  | 0, [.ptr 0 [], .bool r70, .ptr 1 [], .ro false 65 r71, .int .i64 r72, .int .i64 r73], [.box (.agg [.int .i64 r74, .ro false 54 r75, .ro false 36 r76, .ro false 65 r77]), .box (.agg [.int .i64 r78, .int .i64 r79, .int .i64 r80, .int .i64 r81])] => Hold (C_directory_Check_21 k r70 r71 r72 r73 r74 r75 r76 r77 r78 r79 r80 r81 (fun z0 => K (.int .i64 z0) []))
  | _, _, _ => False
def D21_22 (k : Nat) : Nat → List (A PU) → List (AObj PU) → (A PU → List (AObj PU) → Prop) → Prop := fun nb vals objs K => match nb, vals, objs with
  | 0, [.ptr 0 [], .bool r82, .int .i64 r83, .ro false 65 r84, .int .i64 r85, .int .i64 r86], [.box (.agg [.int .i64 r87, .ro false 54 r88, .ro false 36 r89, .ro false 65 r90])] => Hold (C_directory_Check_22 k r82 r83 r84 r85 r86 r87 r88 r89 r90 (fun z0 => K (.int .i64 z0) []))
  | _, _, _ => False
def D40_2 (k : Nat) : Nat → List (A PU) → List (AObj PU) → (A PU → List (AObj PU) → Prop) → Prop := fun nb vals objs K => match nb, vals, objs with
  | 1, [.clo 41 [.ptr 0 []], .ptr 1 [], .arr 5 64 r3, .int .i64 r4], [.box (.int .u8 r5), .box (.arr 5 64 r6)] => Hold (C_mac_turned_byte_2 k r3 r4 r5 r6 (fun z0 z1 z2 z3 => K (.bsl 1 [] 5 64 z0 z1) [.box (.int .u8 z2), .box (.arr 5 64 z3)]))
  | _, _, _ => False
def D25_5 (k : Nat) : Nat → List (A PU) → List (AObj PU) → (A PU → List (AObj PU) → Prop) → Prop := fun nb vals objs K => match nb, vals, objs with
  | 0, [.bsl 0 [] 5 32 r4 r5, .ro true 5 r6, .ptr 1 [], .ptr 2 []], [.box (.arr 5 32 r7), .box (.arr 5 32 r8), .box (.arr 5 64 r9)] => Hold (C_mac_Mac_5 k r4 r5 r6 r7 r8 r9 (fun z0 => K (.arr 5 32 z0) []))
  | 0, [.ro true 5 r51, .ro true 5 r52, .ptr 0 [], .ptr 1 []], [.box (.arr 5 32 r53), .box (.arr 5 64 r54)] => Hold (C_mac_Mac_5_1 k r51 r52 r53 r54 (fun z0 => K (.arr 5 32 z0) []))
  | _, _, _ => False
def D25_7 (k : Nat) : Nat → List (A PU) → List (AObj PU) → (A PU → List (AObj PU) → Prop) → Prop := fun nb vals objs K => match nb, vals, objs with
  | 0, [.ro true 5 r10, .ptr 0 [], .clo 39 [.ptr 1 []]], [.box (.arr 5 32 r11), .box (.arr 5 64 r12)] => Hold (C_mac_Mac_7 k r10 r11 r12 (fun z0 => K (.arr 5 32 z0) []))
  | _, _, _ => False
def D22_1 (k : Nat) : Nat → List (A PU) → List (AObj PU) → (A PU → List (AObj PU) → Prop) → Prop := fun nb vals objs K => match nb, vals, objs with
  | 5, [.yld 0, .ro false 36 r4, .int .i64 r5, .int .i64 r6], [.lp 5 6 [2, 7] [.ptr 2 [], .ptr 3 []] 0, .box (.ro false 36 r7), .box (.str r8), .box (.own 4), .lst 38 r9] => Hold (C_slices_Values_api_Head_api_Head_1_1 k r4 r5 r6 r7 r8 r9 (fun z0 z1 z2 => K (.tup []) [.lp 5 6 [2, 7] [.ptr 2 [], .ptr 3 []] 0, .box (.ro false 36 z0), .box (.str z1), .box (.own 5), .dead, .lst 38 z2]) (fun z0 z1 z2 => K (.tup []) [.lp 5 6 [2, 7] [.ptr 2 [], .ptr 3 []] 0, .box (.ro false 36 z0), .box (.str z1), .box (.own 4), .lst 38 z2]))
  | 5, [.yld 0, .ro false 36 r27, .int .i64 r28, .int .i64 r29], [.lp 5 6 [2, 7] [.ptr 2 [], .ptr 3 []] 0, .box (.ro false 36 r30), .box (.str r31), .box (.own 5), .dead, .lst 38 r32] => Hold (C_slices_Values_api_Head_api_Head_1_1_1 k r27 r28 r29 r30 r31 r32 (fun z0 z1 z2 => K (.tup []) [.lp 5 6 [2, 7] [.ptr 2 [], .ptr 3 []] 0, .box (.ro false 36 z0), .box (.str z1), .box (.own 5), .dead, .lst 38 z2]))
  | _, _, _ => False
def D22_2 (k : Nat) : Nat → List (A PU) → List (AObj PU) → (A PU → List (AObj PU) → Prop) → Prop := fun nb vals objs K => match nb, vals, objs with
  | 5, [.yld 0, .ro false 36 r10, .int .i64 r11, .int .i64 r12], [.lp 5 6 [2, 7] [.ptr 2 [], .ptr 3 []] 0, .box (.ro false 36 r13), .box (.str r14), .box (.own 4), .lst 38 r15] => Hold (C_slices_Values_api_Head_api_Head_1_2 k r10 r11 r12 r13 r14 r15 (fun z0 z1 z2 => K (.tup []) [.lp 5 6 [2, 7] [.ptr 2 [], .ptr 3 []] 0, .box (.ro false 36 z0), .box (.str z1), .box (.own 5), .dead, .lst 38 z2]))
  | 5, [.yld 0, .ro false 36 r33, .int .i64 r34, .int .i64 r35], [.lp 5 6 [2, 7] [.ptr 2 [], .ptr 3 []] 0, .box (.ro false 36 r36), .box (.str r37), .box (.own 5), .dead, .lst 38 r38] => Hold (C_slices_Values_api_Head_api_Head_1_2_1 k r33 r34 r35 r36 r37 r38 (fun z0 z1 z2 => K (.tup []) [.lp 5 6 [2, 7] [.ptr 2 [], .ptr 3 []] 0, .box (.ro false 36 z0), .box (.str z1), .box (.own 5), .dead, .lst 38 z2]))
  | _, _, _ => False
def D22_3 (k : Nat) : Nat → List (A PU) → List (AObj PU) → (A PU → List (AObj PU) → Prop) → Prop := fun nb vals objs K => match nb, vals, objs with
  | 5, [.yld 0, .ptr 5 [], .ro false 36 r16, .int .i64 r17, .int .i64 r18], [.lp 5 6 [2, 7] [.ptr 2 [], .ptr 3 []] 0, .box (.ro false 36 r19), .box (.str r20), .box (.own 4), .lst 38 r21, .box (.agg [.int .i64 r22, .arr 5 32 r23, .arr 5 32 r24])] => Hold (C_slices_Values_api_Head_api_Head_1_3 k r16 r17 r18 r19 r20 r21 r22 r23 r24 (fun z0 z1 z2 => K (.tup []) [.lp 5 6 [2, 7] [.ptr 2 [], .ptr 3 []] 0, .box (.ro false 36 z0), .box (.str z1), .box (.own 5), .dead, .lst 38 z2]))
  | 5, [.yld 0, .ptr 5 [], .ro false 36 r39, .int .i64 r40, .int .i64 r41], [.lp 5 6 [2, 7] [.ptr 2 [], .ptr 3 []] 0, .box (.ro false 36 r42), .box (.str r43), .box (.own 6), .dead, .box (.agg [.int .i64 r44, .arr 5 32 r45, .arr 5 32 r46]), .lst 38 r47] => Hold (C_slices_Values_api_Head_api_Head_1_3_1 k r39 r40 r41 r42 r43 r44 r45 r46 r47 (fun z0 z1 z2 => K (.tup []) [.lp 5 6 [2, 7] [.ptr 2 [], .ptr 3 []] 0, .box (.ro false 36 z0), .box (.str z1), .box (.own 5), .dead, .lst 38 z2]))
  | _, _, _ => False
def D46_3 (k : Nat) : Nat → List (A PU) → List (AObj PU) → (A PU → List (AObj PU) → Prop) → Prop := fun nb vals objs K => match nb, vals, objs with
  | 0, [.ro false 70 r2, .ptr 0 [], .int .i64 r3], [.box (.agg [.int .i64 r4, .int .i64 r5, .str r6])] => Hold (C_r07_Is_3 k r2 r3 r4 r5 r6 (fun z0 => K (.bool z0) []))
  | _, _, _ => False
def D27_4 (k : Nat) : Nat → List (A PU) → List (AObj PU) → (A PU → List (AObj PU) → Prop) → Prop := fun nb vals objs K => match nb, vals, objs with
  | 0, [.ro false 54 r3, .int .i64 r4, .int .i64 r5], [] => Hold (C_r10_users_4 k r3 r4 r5 (fun z0 => K (.bool z0) []))
  | _, _, _ => False
def D60_4 (k : Nat) : Nat → List (A PU) → List (AObj PU) → (A PU → List (AObj PU) → Prop) → Prop := fun nb vals objs K => match nb, vals, objs with
  | 0, [.ro true 5 r2, .own 0], [.lst 5 r3] => Hold (C_r02_Padded_4 k r2 r3 (fun z0 => K (.usl 5 z0) []))
  | _, _, _ => False
def D60_8 (k : Nat) : Nat → List (A PU) → List (AObj PU) → (A PU → List (AObj PU) → Prop) → Prop := fun nb vals objs K => match nb, vals, objs with
  | 0, [.own 0, .int .u64 r4, .int .i64 r5], [.lst 5 r6] => Hold (C_r02_Padded_8 k r4 r5 r6 (fun z0 => K (.usl 5 z0) []))
  | _, _, _ => False
def D62_3 (k : Nat) : Nat → List (A PU) → List (AObj PU) → (A PU → List (AObj PU) → Prop) → Prop := fun nb vals objs K => match nb, vals, objs with
  | 0, [.ro true 5 r3, .ptr 0 [], .ptr 1 [], .ptr 2 [], .int .i64 r4], [.box (.arr 92 8 r5), .box (.arr 92 8 r6), .box (.arr 92 64 r7)] => Hold (C_r02_block_3 k r3 r4 r5 r6 r7 (fun z0 => K (.arr 92 8 z0) []))
  | _, _, _ => False
def D62_7 (k : Nat) : Nat → List (A PU) → List (AObj PU) → (A PU → List (AObj PU) → Prop) → Prop := fun nb vals objs K => match nb, vals, objs with
  | 0, [.ptr 0 [], .ptr 1 [], .ptr 2 [], .int .i64 r8], [.box (.arr 92 8 r9), .box (.arr 92 8 r10), .box (.arr 92 64 r11)] => Hold (C_r02_block_7 k r8 r9 r10 r11 (fun z0 => K (.arr 92 8 z0) []))
  | _, _, _ => False
def D62_14 (k : Nat) : Nat → List (A PU) → List (AObj PU) → (A PU → List (AObj PU) → Prop) → Prop := fun nb vals objs K => match nb, vals, objs with
  | 0, [.ptr 0 [], .ptr 1 [], .ptr 2 [], .ptr 3 [], .int .i64 r16], [.box (.arr 92 8 r17), .box (.arr 92 8 r18), .box (.arr 92 64 r19), .box (.arr 92 8 r20)] => Hold (C_r02_block_14 k r16 r17 r18 r19 r20 (fun z0 => K (.arr 92 8 z0) []))
  | _, _, _ => False
def D62_22 (k : Nat) : Nat → List (A PU) → List (AObj PU) → (A PU → List (AObj PU) → Prop) → Prop := fun nb vals objs K => match nb, vals, objs with
  | 0, [.ptr 0 [], .ptr 1 [], .ptr 2 [], .int .i64 r27], [.box (.arr 92 8 r28), .box (.arr 92 8 r29), .box (.arr 92 8 r30)] => Hold (C_r02_block_22 k r27 r28 r29 r30 (fun z0 => K (.arr 92 8 z0) []))
  | _, _, _ => False
def D50_4 (k : Nat) : Nat → List (A PU) → List (AObj PU) → (A PU → List (AObj PU) → Prop) → Prop := fun nb vals objs K => match nb, vals, objs with
  | 0, [.ptr 0 [], .own 1, .ptr 2 [], .int .i64 r4], [.box (.arr 5 32 r5), .lst 5 r6, .box (.arr 92 8 r7)] => Hold (C_r02_Sum_4 k r4 r5 r6 r7 (fun z0 => K (.arr 5 32 z0) []))
  | _, _, _ => False
def D50_9 (k : Nat) : Nat → List (A PU) → List (AObj PU) → (A PU → List (AObj PU) → Prop) → Prop := fun nb vals objs K => match nb, vals, objs with
  | 0, [.ptr 0 [], .ptr 1 [], .ptr 2 [], .int .i64 r9], [.box (.arr 5 32 r10), .box (.arr 92 8 r11), .box (.arr 5 32 r12)] => Hold (C_r02_Sum_9 k r9 r10 r11 r12 (fun z0 => K (.arr 5 32 z0) []))
  | _, _, _ => False
def D28_4 (k : Nat) : Nat → List (A PU) → List (AObj PU) → (A PU → List (AObj PU) → Prop) → Prop := fun nb vals objs K => match nb, vals, objs with
  | 0, [.ro false 36 r3, .int .i64 r4], [] => Hold (C_r10_heads_4 k r3 r4 (fun z0 => K (.bool z0) []))
  | _, _, _ => False
def D17_4 (k : Nat) : Nat → List (A PU) → List (AObj PU) → (A PU → List (AObj PU) → Prop) → Prop := fun nb vals objs K => match nb, vals, objs with
  | 0, [.ptr 0 [], .int .i64 r8], [.box (.agg [.int .i64 r9, .ro false 54 r10, .ro false 36 r11, .ro false 65 r12])] => Hold (C_r10_Right_4 k r8 r9 r10 r11 r12 (fun z0 => K (.bool z0) []))
  | _, _, _ => False
def D30_6 (k : Nat) : Nat → List (A PU) → List (AObj PU) → (A PU → List (AObj PU) → Prop) → Prop := fun nb vals objs K => match nb, vals, objs with
  | 0, [.bsl 0 [] 5 32 r4 r5, .ro true 5 r6, .ptr 1 [], .ptr 2 [], .int .i64 r7], [.box (.arr 5 32 r8), .box (.arr 5 32 r9), .box (.arr 5 64 r10)] => Hold (C_r03_Mac_6 k r4 r5 r6 r7 r8 r9 r10 (fun z0 => K (.arr 5 32 z0) []))
  | 0, [.ro true 5 r19, .ro true 5 r20, .ptr 0 [], .ptr 1 [], .int .i64 r21], [.box (.arr 5 32 r22), .box (.arr 5 64 r23)] => Hold (C_r03_Mac_6_1 k r19 r20 r21 r22 r23 (fun z0 => K (.arr 5 32 z0) []))
  | _, _, _ => False
def D30_12 (k : Nat) : Nat → List (A PU) → List (AObj PU) → (A PU → List (AObj PU) → Prop) → Prop := fun nb vals objs K => match nb, vals, objs with
  | 0, [.ro true 5 r11, .ptr 0 [], .ptr 1 [], .own 2, .own 3, .int .i64 r12], [.box (.arr 5 32 r13), .box (.arr 5 64 r14), .lst 5 r15, .lst 5 r16] => Hold (C_r03_Mac_12 k r11 r12 r13 r14 r15 r16 (fun z0 => K (.arr 5 32 z0) []))
  | _, _, _ => False
def D6_7 (k : Nat) : Nat → List (A PU) → List (AObj PU) → (A PU → List (AObj PU) → Prop) → Prop := fun nb vals objs K => match nb, vals, objs with
  | 0, [.str r8, .ptr 0 [], .own 1, .int .i64 r9], [.box (.agg [.int .i64 r10, .ro false 54 r11, .ro false 36 r12, .ro false 65 r13]), .lst 38 r14] => Hold (C_r19_Heads_7 k r8 r9 r10 r11 r12 r13 r14 (fun z0 z1 => K (.tup [.usl 38 z0, .int .i64 z1]) []))
  | _, _, _ => False
def D31_1 (k : Nat) : Nat → List (A PU) → List (AObj PU) → (A PU → List (AObj PU) → Prop) → Prop := fun nb vals objs K => match nb, vals, objs with
  | 4, [.yld 0, .ro true 38 r7, .int .i64 r8, .int .i64 r9], [.lp 10 5 [5, 6] [.ptr 2 [], .ptr 3 []] 0, .box (.ro true 38 r10), .box (.bool r11), .box (.agg [.agg [.int .i64 r12, .arr 5 32 r13, .arr 5 32 r14], .arr 5 32 r15])] => Hold (C_slices_Values_api_Signed_api_Signed_1_1_1 k r7 r8 r9 r10 r11 r12 r13 r14 r15 (fun z0 z1 z2 z3 z4 z5 => K (.tup []) [.lp 10 5 [5, 6] [.ptr 2 [], .ptr 3 []] 2, .box (.ro true 38 z0), .box (.bool z1), .box (.agg [.agg [.int .i64 z2, .arr 5 32 z3, .arr 5 32 z4], .arr 5 32 z5])]) (fun z0 z1 z2 z3 z4 z5 => K (.tup []) [.lp 10 5 [5, 6] [.ptr 2 [], .ptr 3 []] 0, .box (.ro true 38 z0), .box (.bool z1), .box (.agg [.agg [.int .i64 z2, .arr 5 32 z3, .arr 5 32 z4], .arr 5 32 z5])]))
  | 4, [.yld 0, .ro true 38 r4, .int .i64 r5, .int .i64 r6], [.lp 10 3 [3, 5] [.ptr 2 [], .ptr 3 []] 0, .box (.ro true 38 r7), .box (.ro true 38 r8), .box (.bool r9)] => Hold (C_slices_Values_api_Signed_api_Signed_1_1 k r4 r5 r6 r7 r8 r9 (fun z0 z1 z2 => K (.tup []) [.lp 10 3 [3, 5] [.ptr 2 [], .ptr 3 []] 2, .box (.ro true 38 z0), .box (.ro true 38 z1), .box (.bool z2)]) (fun z0 z1 z2 => K (.tup []) [.lp 10 3 [3, 5] [.ptr 2 [], .ptr 3 []] 0, .box (.ro true 38 z0), .box (.ro true 38 z1), .box (.bool z2)]))
  | 4, [.yld 0, .ro false 38 r7, .int .i64 r8, .int .i64 r9], [.lp 10 5 [5, 6] [.ptr 2 [], .ptr 3 []] 0, .box (.ro false 38 r10), .box (.bool r11), .box (.agg [.agg [.int .i64 r12, .arr 5 32 r13, .arr 5 32 r14], .arr 5 32 r15])] => Hold (C_slices_Values_api_Signed_api_Signed_1_1_1 k r7 r8 r9 r10 r11 r12 r13 r14 r15 (fun z0 z1 z2 z3 z4 z5 => K (.tup []) [.lp 10 5 [5, 6] [.ptr 2 [], .ptr 3 []] 2, .box (.ro false 38 z0), .box (.bool z1), .box (.agg [.agg [.int .i64 z2, .arr 5 32 z3, .arr 5 32 z4], .arr 5 32 z5])]) (fun z0 z1 z2 z3 z4 z5 => K (.tup []) [.lp 10 5 [5, 6] [.ptr 2 [], .ptr 3 []] 0, .box (.ro false 38 z0), .box (.bool z1), .box (.agg [.agg [.int .i64 z2, .arr 5 32 z3, .arr 5 32 z4], .arr 5 32 z5])]))
  | 4, [.yld 0, .ro false 38 r4, .int .i64 r5, .int .i64 r6], [.lp 10 3 [3, 5] [.ptr 2 [], .ptr 3 []] 0, .box (.ro false 38 r7), .box (.ro false 38 r8), .box (.bool r9)] => Hold (C_slices_Values_api_Signed_api_Signed_1_1 k r4 r5 r6 r7 r8 r9 (fun z0 z1 z2 => K (.tup []) [.lp 10 3 [3, 5] [.ptr 2 [], .ptr 3 []] 2, .box (.ro false 38 z0), .box (.ro false 38 z1), .box (.bool z2)]) (fun z0 z1 z2 => K (.tup []) [.lp 10 3 [3, 5] [.ptr 2 [], .ptr 3 []] 0, .box (.ro false 38 z0), .box (.ro false 38 z1), .box (.bool z2)]))
  | _, _, _ => False
def D11_2 (k : Nat) : Nat → List (A PU) → List (AObj PU) → (A PU → List (AObj PU) → Prop) → Prop := fun nb vals objs K => match nb, vals, objs with
  | 0, [.ro false 38 r3, .ro false 38 r4, .int .i64 r5], [] => Hold (C_r19_Agree_2 k r3 r4 r5 (fun z0 => K (.bool z0) []))
  | _, _, _ => False
def D11_5 (k : Nat) : Nat → List (A PU) → List (AObj PU) → (A PU → List (AObj PU) → Prop) → Prop := fun nb vals objs K => match nb, vals, objs with
  | 0, [.ro false 38 r6, .ro false 38 r7, .int .i64 r8, .int .i64 r9], [] => Hold (C_r19_Agree_5 k r6 r7 r8 r9 (fun z0 => K (.bool z0) []))
  | _, _, _ => False
def D12_4 (k : Nat) : Nat → List (A PU) → List (AObj PU) → (A PU → List (AObj PU) → Prop) → Prop := fun nb vals objs K => match nb, vals, objs with
  | 0, [.ro true 38 r3, .ro true 38 r4, .int .i64 r5], [] => Hold (C_r19_Same_4 k r3 r4 r5 (fun z0 => K (.bool z0) []))
  | _, _, _ => False
def PTr (k : Nat) : List (Nat × Fn PU) := [(13, T13 k), (4, T4 k), (32, T32 k), (33, T33 k), (51, T51 k), (52, T52 k), (53, T53 k), (34, T34 k), (55, T55 k), (37000005, T36y5 k), (63, T63 k), (36, T36 k), (37, T37 k), (23, T23 k), (42, T42 k), (64, T64 k), (56, T56 k), (43, T43 k), (44, T44 k), (38, T38 k), (54, T54 k), (35, T35 k), (21, T21 k), (14, T14 k), (15, T15 k), (24, T24 k), (41, T41 k), (40, T40 k), (39, T39 k), (25, T25 k), (16, T16 k), (6000006, T5y6 k), (22, T22 k), (5, T5 k), (26, T26 k), (45, T45 k), (57, T57 k), (58, T58 k), (46, T46 k), (27, T27 k), (48, T48 k), (49, T49 k), (29, T29 k), (60, T60 k), (61, T61 k), (65, T65 k), (62, T62 k), (50, T50 k), (59, T59 k), (47, T47 k), (28, T28 k), (17, T17 k), (18, T18 k), (30, T30 k), (19, T19 k), (6, T6 k), (8, T8 k), (20, T20 k), (11000005, T10y5 k), (31, T31 k), (11000003, T10y3 k), (10, T10 k), (7, T7 k), (9, T9 k), (11, T11 k), (12, T12 k), (3, T3 k)]
def PCr (k : Nat) : List (Nat × Nat × (Nat → List (A PU) → List (AObj PU) → (A PU → List (AObj PU) → Prop) → Prop)) := [(13, 5, D13_5 k), (52, 3, D52_3 k), (34, 3, D34_3 k), (34, 4, D34_4 k), (63, 0, D63_0 k), (63, 1, D63_1 k), (56, 2, D56_2 k), (56, 11, D56_11 k), (56, 14, D56_14 k), (56, 23, D56_23 k), (43, 3, D43_3 k), (44, 9, D44_9 k), (44, 15, D44_15 k), (21, 2, D21_2 k), (21, 6, D21_6 k), (21, 9, D21_9 k), (21, 10, D21_10 k), (21, 12, D21_12 k), (21, 15, D21_15 k), (21, 18, D21_18 k), (21, 21, D21_21 k), (21, 22, D21_22 k), (40, 2, D40_2 k), (25, 5, D25_5 k), (25, 7, D25_7 k), (22, 1, D22_1 k), (22, 2, D22_2 k), (22, 3, D22_3 k), (46, 3, D46_3 k), (27, 4, D27_4 k), (60, 4, D60_4 k), (60, 8, D60_8 k), (62, 3, D62_3 k), (62, 7, D62_7 k), (62, 14, D62_14 k), (62, 22, D62_22 k), (50, 4, D50_4 k), (50, 9, D50_9 k), (28, 4, D28_4 k), (17, 4, D17_4 k), (30, 6, D30_6 k), (30, 12, D30_12 k), (6, 7, D6_7 k), (31, 1, D31_1 k), (11, 2, D11_2 k), (11, 5, D11_5 k), (12, 4, D12_4 k)]
def PT (k : Nat) : Tab PU := fun f => lookT f (PTr k)
def PC (k : Nat) : Cut PU := fun f id => lookC f id (PCr k)
theorem fnok13 : fnOk PE.P 13 = true := by kernel_rfl
theorem fnok4 : fnOk PE.P 4 = true := by kernel_rfl
theorem fnok32 : fnOk PE.P 32 = true := by kernel_rfl
theorem fnok33 : fnOk PE.P 33 = true := by kernel_rfl
theorem fnok51 : fnOk PE.P 51 = true := by kernel_rfl
theorem fnok52 : fnOk PE.P 52 = true := by kernel_rfl
theorem fnok53 : fnOk PE.P 53 = true := by kernel_rfl
theorem fnok34 : fnOk PE.P 34 = true := by kernel_rfl
theorem fnok55 : fnOk PE.P 55 = true := by kernel_rfl
theorem fnok36 : fnOk PE.P 36 = true := by kernel_rfl
theorem fnok63 : fnOk PE.P 63 = true := by kernel_rfl
theorem fnok37 : fnOk PE.P 37 = true := by kernel_rfl
theorem fnok23 : fnOk PE.P 23 = true := by kernel_rfl
theorem fnok42 : fnOk PE.P 42 = true := by kernel_rfl
theorem fnok64 : fnOk PE.P 64 = true := by kernel_rfl
theorem fnok56 : fnOk PE.P 56 = true := by kernel_rfl
theorem fnok43 : fnOk PE.P 43 = true := by kernel_rfl
theorem fnok44 : fnOk PE.P 44 = true := by kernel_rfl
theorem fnok38 : fnOk PE.P 38 = true := by kernel_rfl
theorem fnok54 : fnOk PE.P 54 = true := by kernel_rfl
theorem fnok35 : fnOk PE.P 35 = true := by kernel_rfl
theorem fnok21 : fnOk PE.P 21 = true := by kernel_rfl
theorem fnok14 : fnOk PE.P 14 = true := by kernel_rfl
theorem fnok15 : fnOk PE.P 15 = true := by kernel_rfl
theorem fnok24 : fnOk PE.P 24 = true := by kernel_rfl
theorem fnok41 : fnOk PE.P 41 = true := by kernel_rfl
theorem fnok40 : fnOk PE.P 40 = true := by kernel_rfl
theorem fnok39 : fnOk PE.P 39 = true := by kernel_rfl
theorem fnok25 : fnOk PE.P 25 = true := by kernel_rfl
theorem fnok16 : fnOk PE.P 16 = true := by kernel_rfl
theorem fnok5 : fnOk PE.P 5 = true := by kernel_rfl
theorem fnok22 : fnOk PE.P 22 = true := by kernel_rfl
theorem fnok26 : fnOk PE.P 26 = true := by kernel_rfl
theorem fnok45 : fnOk PE.P 45 = true := by kernel_rfl
theorem fnok57 : fnOk PE.P 57 = true := by kernel_rfl
theorem fnok58 : fnOk PE.P 58 = true := by kernel_rfl
theorem fnok46 : fnOk PE.P 46 = true := by kernel_rfl
theorem fnok27 : fnOk PE.P 27 = true := by kernel_rfl
theorem fnok48 : fnOk PE.P 48 = true := by kernel_rfl
theorem fnok49 : fnOk PE.P 49 = true := by kernel_rfl
theorem fnok29 : fnOk PE.P 29 = true := by kernel_rfl
theorem fnok60 : fnOk PE.P 60 = true := by kernel_rfl
theorem fnok61 : fnOk PE.P 61 = true := by kernel_rfl
theorem fnok65 : fnOk PE.P 65 = true := by kernel_rfl
theorem fnok62 : fnOk PE.P 62 = true := by kernel_rfl
theorem fnok50 : fnOk PE.P 50 = true := by kernel_rfl
theorem fnok59 : fnOk PE.P 59 = true := by kernel_rfl
theorem fnok47 : fnOk PE.P 47 = true := by kernel_rfl
theorem fnok28 : fnOk PE.P 28 = true := by kernel_rfl
theorem fnok17 : fnOk PE.P 17 = true := by kernel_rfl
theorem fnok18 : fnOk PE.P 18 = true := by kernel_rfl
theorem fnok30 : fnOk PE.P 30 = true := by kernel_rfl
theorem fnok19 : fnOk PE.P 19 = true := by kernel_rfl
theorem fnok6 : fnOk PE.P 6 = true := by kernel_rfl
theorem fnok8 : fnOk PE.P 8 = true := by kernel_rfl
theorem fnok20 : fnOk PE.P 20 = true := by kernel_rfl
theorem fnok10 : fnOk PE.P 10 = true := by kernel_rfl
theorem fnok31 : fnOk PE.P 31 = true := by kernel_rfl
theorem fnok7 : fnOk PE.P 7 = true := by kernel_rfl
theorem fnok9 : fnOk PE.P 9 = true := by kernel_rfl
theorem fnok11 : fnOk PE.P 11 = true := by kernel_rfl
theorem fnok12 : fnOk PE.P 12 = true := by kernel_rfl
theorem fnok3 : fnOk PE.P 3 = true := by kernel_rfl
theorem T13_z (args : List (A PU)) (objs : List (AObj PU)) (K : A PU → List (AObj PU) → Prop) : ¬ T13 0 args objs K := by
  intro h; unfold T13 at h; split at h <;> (first | exact h | exact h.out)
theorem T13_ok (k : Nat) (args : List (A PU)) (objs : List (AObj PU)) (K : A PU → List (AObj PU) → Prop) (h : T13 (k + 1) args objs K) : RowOk PE (PT k) (PC k) 13 args objs K := by
  unfold T13 at h; split at h
  · exact .fn fnok13 rfl (Hold.mp (by kernel_rfl) h.out)
  · exact h.elim
theorem T4_z (args : List (A PU)) (objs : List (AObj PU)) (K : A PU → List (AObj PU) → Prop) : ¬ T4 0 args objs K := by
  intro h; unfold T4 at h; split at h <;> (first | exact h | exact h.out)
theorem T4_ok (k : Nat) (args : List (A PU)) (objs : List (AObj PU)) (K : A PU → List (AObj PU) → Prop) (h : T4 (k + 1) args objs K) : RowOk PE (PT k) (PC k) 4 args objs K := by
  unfold T4 at h; split at h
  · exact .fn fnok4 rfl (Hold.mp (by kernel_rfl) h.out)
  · exact h.elim
theorem T32_z (args : List (A PU)) (objs : List (AObj PU)) (K : A PU → List (AObj PU) → Prop) : ¬ T32 0 args objs K := by
  intro h; unfold T32 at h; split at h <;> (first | exact h | exact h.out)
theorem T32_ok (k : Nat) (args : List (A PU)) (objs : List (AObj PU)) (K : A PU → List (AObj PU) → Prop) (h : T32 (k + 1) args objs K) : RowOk PE (PT k) (PC k) 32 args objs K := by
  unfold T32 at h; split at h
  · exact .fn fnok32 rfl (Hold.mp (by kernel_rfl) h.out)
  · exact h.elim
theorem T33_z (args : List (A PU)) (objs : List (AObj PU)) (K : A PU → List (AObj PU) → Prop) : ¬ T33 0 args objs K := by
  intro h; unfold T33 at h; split at h <;> (first | exact h | exact h.out)
theorem T33_ok (k : Nat) (args : List (A PU)) (objs : List (AObj PU)) (K : A PU → List (AObj PU) → Prop) (h : T33 (k + 1) args objs K) : RowOk PE (PT k) (PC k) 33 args objs K := by
  unfold T33 at h; split at h
  · exact .fn fnok33 rfl (Hold.mp (by kernel_rfl) h.out)
  · exact h.elim
theorem T51_z (args : List (A PU)) (objs : List (AObj PU)) (K : A PU → List (AObj PU) → Prop) : ¬ T51 0 args objs K := by
  intro h; unfold T51 at h; split at h <;> (first | exact h | exact h.out)
theorem T51_ok (k : Nat) (args : List (A PU)) (objs : List (AObj PU)) (K : A PU → List (AObj PU) → Prop) (h : T51 (k + 1) args objs K) : RowOk PE (PT k) (PC k) 51 args objs K := by
  unfold T51 at h; split at h
  · exact .fn fnok51 rfl (Hold.mp (by kernel_rfl) h.out)
  · exact h.elim
theorem T52_z (args : List (A PU)) (objs : List (AObj PU)) (K : A PU → List (AObj PU) → Prop) : ¬ T52 0 args objs K := by
  intro h; unfold T52 at h; split at h <;> (first | exact h | exact h.out)
theorem T52_ok (k : Nat) (args : List (A PU)) (objs : List (AObj PU)) (K : A PU → List (AObj PU) → Prop) (h : T52 (k + 1) args objs K) : RowOk PE (PT k) (PC k) 52 args objs K := by
  unfold T52 at h; split at h
  · exact .fn fnok52 rfl (Hold.mp (by kernel_rfl) h.out)
  · exact h.elim
theorem T53_z (args : List (A PU)) (objs : List (AObj PU)) (K : A PU → List (AObj PU) → Prop) : ¬ T53 0 args objs K := by
  intro h; unfold T53 at h; split at h <;> (first | exact h | exact h.out)
theorem T53_ok (k : Nat) (args : List (A PU)) (objs : List (AObj PU)) (K : A PU → List (AObj PU) → Prop) (h : T53 (k + 1) args objs K) : RowOk PE (PT k) (PC k) 53 args objs K := by
  unfold T53 at h; split at h
  · exact .fn fnok53 rfl (Hold.mp (by kernel_rfl) h.out)
  · exact h.elim
theorem T34_z (args : List (A PU)) (objs : List (AObj PU)) (K : A PU → List (AObj PU) → Prop) : ¬ T34 0 args objs K := by
  intro h; unfold T34 at h; split at h <;> (first | exact h | exact h.out)
theorem T34_ok (k : Nat) (args : List (A PU)) (objs : List (AObj PU)) (K : A PU → List (AObj PU) → Prop) (h : T34 (k + 1) args objs K) : RowOk PE (PT k) (PC k) 34 args objs K := by
  unfold T34 at h; split at h
  · exact .fn fnok34 rfl (Hold.mp (by kernel_rfl) h.out)
  · exact h.elim
theorem T55_z (args : List (A PU)) (objs : List (AObj PU)) (K : A PU → List (AObj PU) → Prop) : ¬ T55 0 args objs K := by
  intro h; unfold T55 at h; split at h <;> (first | exact h | exact h.out)
theorem T55_ok (k : Nat) (args : List (A PU)) (objs : List (AObj PU)) (K : A PU → List (AObj PU) → Prop) (h : T55 (k + 1) args objs K) : RowOk PE (PT k) (PC k) 55 args objs K := by
  unfold T55 at h; split at h
  · exact .fn fnok55 rfl (Hold.mp (by kernel_rfl) h.out)
  · exact h.elim
theorem T36y5_z (args : List (A PU)) (objs : List (AObj PU)) (K : A PU → List (AObj PU) → Prop) : ¬ T36y5 0 args objs K := by
  intro h; unfold T36y5 at h; split at h <;> (first | exact h | exact h.out)
theorem T36y5_ok (k : Nat) (args : List (A PU)) (objs : List (AObj PU)) (K : A PU → List (AObj PU) → Prop) (h : T36y5 (k + 1) args objs K) : RowOk PE (PT k) (PC k) 37000005 args objs K := by
  unfold T36y5 at h; split at h
  · exact .round 36 5 rfl fnok36 rfl (Hold.mp (by kernel_rfl) h.out)
  · exact .round 36 5 rfl fnok36 rfl (Hold.mp (by kernel_rfl) h.out)
  · exact h.elim
theorem T63_z (args : List (A PU)) (objs : List (AObj PU)) (K : A PU → List (AObj PU) → Prop) : ¬ T63 0 args objs K := by
  intro h; unfold T63 at h; split at h <;> (first | exact h | exact h.out)
theorem T63_ok (k : Nat) (args : List (A PU)) (objs : List (AObj PU)) (K : A PU → List (AObj PU) → Prop) (h : T63 (k + 1) args objs K) : RowOk PE (PT k) (PC k) 63 args objs K := by
  unfold T63 at h; split at h
  · exact .fn fnok63 rfl (Hold.mp (by kernel_rfl) h.out)
  · exact h.elim
theorem T36_z (args : List (A PU)) (objs : List (AObj PU)) (K : A PU → List (AObj PU) → Prop) : ¬ T36 0 args objs K := by
  intro h; unfold T36 at h; split at h <;> (first | exact h | exact h.out)
theorem T36_ok (k : Nat) (args : List (A PU)) (objs : List (AObj PU)) (K : A PU → List (AObj PU) → Prop) (h : T36 (k + 1) args objs K) : RowOk PE (PT k) (PC k) 36 args objs K := by
  unfold T36 at h; split at h
  · exact .fn fnok36 rfl (Hold.mp (by kernel_rfl) h.out)
  · exact h.elim
theorem T37_z (args : List (A PU)) (objs : List (AObj PU)) (K : A PU → List (AObj PU) → Prop) : ¬ T37 0 args objs K := by
  intro h; unfold T37 at h; split at h <;> (first | exact h | exact h.out)
theorem T37_ok (k : Nat) (args : List (A PU)) (objs : List (AObj PU)) (K : A PU → List (AObj PU) → Prop) (h : T37 (k + 1) args objs K) : RowOk PE (PT k) (PC k) 37 args objs K := by
  unfold T37 at h; split at h
  · exact .fn fnok37 rfl (Hold.mp (by kernel_rfl) h.out)
  · exact h.elim
theorem T23_z (args : List (A PU)) (objs : List (AObj PU)) (K : A PU → List (AObj PU) → Prop) : ¬ T23 0 args objs K := by
  intro h; unfold T23 at h; split at h <;> (first | exact h | exact h.out)
theorem T23_ok (k : Nat) (args : List (A PU)) (objs : List (AObj PU)) (K : A PU → List (AObj PU) → Prop) (h : T23 (k + 1) args objs K) : RowOk PE (PT k) (PC k) 23 args objs K := by
  unfold T23 at h; split at h
  · exact .fn fnok23 rfl (Hold.mp (by kernel_rfl) h.out)
  · exact h.elim
theorem T42_z (args : List (A PU)) (objs : List (AObj PU)) (K : A PU → List (AObj PU) → Prop) : ¬ T42 0 args objs K := by
  intro h; unfold T42 at h; split at h <;> (first | exact h | exact h.out)
theorem T42_ok (k : Nat) (args : List (A PU)) (objs : List (AObj PU)) (K : A PU → List (AObj PU) → Prop) (h : T42 (k + 1) args objs K) : RowOk PE (PT k) (PC k) 42 args objs K := by
  unfold T42 at h; split at h
  · exact .fn fnok42 rfl (Hold.mp (by kernel_rfl) h.out)
  · exact h.elim
theorem T64_z (args : List (A PU)) (objs : List (AObj PU)) (K : A PU → List (AObj PU) → Prop) : ¬ T64 0 args objs K := by
  intro h; unfold T64 at h; split at h <;> (first | exact h | exact h.out)
theorem T64_ok (k : Nat) (args : List (A PU)) (objs : List (AObj PU)) (K : A PU → List (AObj PU) → Prop) (h : T64 (k + 1) args objs K) : RowOk PE (PT k) (PC k) 64 args objs K := by
  unfold T64 at h; split at h
  · exact .fn fnok64 rfl (Hold.mp (by kernel_rfl) h.out)
  · exact h.elim
theorem T56_z (args : List (A PU)) (objs : List (AObj PU)) (K : A PU → List (AObj PU) → Prop) : ¬ T56 0 args objs K := by
  intro h; unfold T56 at h; split at h <;> (first | exact h | exact h.out)
theorem T56_ok (k : Nat) (args : List (A PU)) (objs : List (AObj PU)) (K : A PU → List (AObj PU) → Prop) (h : T56 (k + 1) args objs K) : RowOk PE (PT k) (PC k) 56 args objs K := by
  unfold T56 at h; split at h
  · exact .fn fnok56 rfl (Hold.mp (by kernel_rfl) h.out)
  · exact h.elim
theorem T43_z (args : List (A PU)) (objs : List (AObj PU)) (K : A PU → List (AObj PU) → Prop) : ¬ T43 0 args objs K := by
  intro h; unfold T43 at h; split at h <;> (first | exact h | exact h.out)
theorem T43_ok (k : Nat) (args : List (A PU)) (objs : List (AObj PU)) (K : A PU → List (AObj PU) → Prop) (h : T43 (k + 1) args objs K) : RowOk PE (PT k) (PC k) 43 args objs K := by
  unfold T43 at h; split at h
  · exact .fn fnok43 rfl (Hold.mp (by kernel_rfl) h.out)
  · exact .fn fnok43 rfl (Hold.mp (by kernel_rfl) h.out)
  · exact h.elim
theorem T44_z (args : List (A PU)) (objs : List (AObj PU)) (K : A PU → List (AObj PU) → Prop) : ¬ T44 0 args objs K := by
  intro h; unfold T44 at h; split at h <;> (first | exact h | exact h.out)
theorem T44_ok (k : Nat) (args : List (A PU)) (objs : List (AObj PU)) (K : A PU → List (AObj PU) → Prop) (h : T44 (k + 1) args objs K) : RowOk PE (PT k) (PC k) 44 args objs K := by
  unfold T44 at h; split at h
  · exact .fn fnok44 rfl (Hold.mp (by kernel_rfl) h.out)
  · exact h.elim
theorem T38_z (args : List (A PU)) (objs : List (AObj PU)) (K : A PU → List (AObj PU) → Prop) : ¬ T38 0 args objs K := by
  intro h; unfold T38 at h; split at h <;> (first | exact h | exact h.out)
theorem T38_ok (k : Nat) (args : List (A PU)) (objs : List (AObj PU)) (K : A PU → List (AObj PU) → Prop) (h : T38 (k + 1) args objs K) : RowOk PE (PT k) (PC k) 38 args objs K := by
  unfold T38 at h; split at h
  · exact .fn fnok38 rfl (Hold.mp (by kernel_rfl) h.out)
  · exact h.elim
theorem T54_z (args : List (A PU)) (objs : List (AObj PU)) (K : A PU → List (AObj PU) → Prop) : ¬ T54 0 args objs K := by
  intro h; unfold T54 at h; split at h <;> (first | exact h | exact h.out)
theorem T54_ok (k : Nat) (args : List (A PU)) (objs : List (AObj PU)) (K : A PU → List (AObj PU) → Prop) (h : T54 (k + 1) args objs K) : RowOk PE (PT k) (PC k) 54 args objs K := by
  unfold T54 at h; split at h
  · exact .fn fnok54 rfl (Hold.mp (by kernel_rfl) h.out)
  · exact h.elim
theorem T35_z (args : List (A PU)) (objs : List (AObj PU)) (K : A PU → List (AObj PU) → Prop) : ¬ T35 0 args objs K := by
  intro h; unfold T35 at h; split at h <;> (first | exact h | exact h.out)
theorem T35_ok (k : Nat) (args : List (A PU)) (objs : List (AObj PU)) (K : A PU → List (AObj PU) → Prop) (h : T35 (k + 1) args objs K) : RowOk PE (PT k) (PC k) 35 args objs K := by
  unfold T35 at h; split at h
  · exact .fn fnok35 rfl (Hold.mp (by kernel_rfl) h.out)
  · exact h.elim
theorem T21_z (args : List (A PU)) (objs : List (AObj PU)) (K : A PU → List (AObj PU) → Prop) : ¬ T21 0 args objs K := by
  intro h; unfold T21 at h; split at h <;> (first | exact h | exact h.out)
theorem T21_ok (k : Nat) (args : List (A PU)) (objs : List (AObj PU)) (K : A PU → List (AObj PU) → Prop) (h : T21 (k + 1) args objs K) : RowOk PE (PT k) (PC k) 21 args objs K := by
  unfold T21 at h; split at h
  · exact .fn fnok21 rfl (Hold.mp (by kernel_rfl) h.out)
  · exact h.elim
theorem T14_z (args : List (A PU)) (objs : List (AObj PU)) (K : A PU → List (AObj PU) → Prop) : ¬ T14 0 args objs K := by
  intro h; unfold T14 at h; split at h <;> (first | exact h | exact h.out)
theorem T14_ok (k : Nat) (args : List (A PU)) (objs : List (AObj PU)) (K : A PU → List (AObj PU) → Prop) (h : T14 (k + 1) args objs K) : RowOk PE (PT k) (PC k) 14 args objs K := by
  unfold T14 at h; split at h
  · exact .fn fnok14 rfl (Hold.mp (by kernel_rfl) h.out)
  · exact h.elim
theorem T15_z (args : List (A PU)) (objs : List (AObj PU)) (K : A PU → List (AObj PU) → Prop) : ¬ T15 0 args objs K := by
  intro h; unfold T15 at h; split at h <;> (first | exact h | exact h.out)
theorem T15_ok (k : Nat) (args : List (A PU)) (objs : List (AObj PU)) (K : A PU → List (AObj PU) → Prop) (h : T15 (k + 1) args objs K) : RowOk PE (PT k) (PC k) 15 args objs K := by
  unfold T15 at h; split at h
  · exact .fn fnok15 rfl (Hold.mp (by kernel_rfl) h.out)
  · exact h.elim
theorem T24_z (args : List (A PU)) (objs : List (AObj PU)) (K : A PU → List (AObj PU) → Prop) : ¬ T24 0 args objs K := by
  intro h; unfold T24 at h; split at h <;> (first | exact h | exact h.out)
theorem T24_ok (k : Nat) (args : List (A PU)) (objs : List (AObj PU)) (K : A PU → List (AObj PU) → Prop) (h : T24 (k + 1) args objs K) : RowOk PE (PT k) (PC k) 24 args objs K := by
  unfold T24 at h; split at h
  · exact .fn fnok24 rfl (Hold.mp (by kernel_rfl) h.out)
  · exact h.elim
theorem T41_z (args : List (A PU)) (objs : List (AObj PU)) (K : A PU → List (AObj PU) → Prop) : ¬ T41 0 args objs K := by
  intro h; unfold T41 at h; split at h <;> (first | exact h | exact h.out)
theorem T41_ok (k : Nat) (args : List (A PU)) (objs : List (AObj PU)) (K : A PU → List (AObj PU) → Prop) (h : T41 (k + 1) args objs K) : RowOk PE (PT k) (PC k) 41 args objs K := by
  unfold T41 at h; split at h
  · exact .fn fnok41 rfl (Hold.mp (by kernel_rfl) h.out)
  · exact h.elim
theorem T40_z (args : List (A PU)) (objs : List (AObj PU)) (K : A PU → List (AObj PU) → Prop) : ¬ T40 0 args objs K := by
  intro h; unfold T40 at h; split at h <;> (first | exact h | exact h.out)
theorem T40_ok (k : Nat) (args : List (A PU)) (objs : List (AObj PU)) (K : A PU → List (AObj PU) → Prop) (h : T40 (k + 1) args objs K) : RowOk PE (PT k) (PC k) 40 args objs K := by
  unfold T40 at h; split at h
  · exact .fn fnok40 rfl (Hold.mp (by kernel_rfl) h.out)
  · exact h.elim
theorem T39_z (args : List (A PU)) (objs : List (AObj PU)) (K : A PU → List (AObj PU) → Prop) : ¬ T39 0 args objs K := by
  intro h; unfold T39 at h; split at h <;> (first | exact h | exact h.out)
theorem T39_ok (k : Nat) (args : List (A PU)) (objs : List (AObj PU)) (K : A PU → List (AObj PU) → Prop) (h : T39 (k + 1) args objs K) : RowOk PE (PT k) (PC k) 39 args objs K := by
  unfold T39 at h; split at h
  · exact .fn fnok39 rfl (Hold.mp (by kernel_rfl) h.out)
  · exact h.elim
theorem T25_z (args : List (A PU)) (objs : List (AObj PU)) (K : A PU → List (AObj PU) → Prop) : ¬ T25 0 args objs K := by
  intro h; unfold T25 at h; split at h <;> (first | exact h | exact h.out)
theorem T25_ok (k : Nat) (args : List (A PU)) (objs : List (AObj PU)) (K : A PU → List (AObj PU) → Prop) (h : T25 (k + 1) args objs K) : RowOk PE (PT k) (PC k) 25 args objs K := by
  unfold T25 at h; split at h
  · exact .fn fnok25 rfl (Hold.mp (by kernel_rfl) h.out)
  · exact h.elim
theorem T16_z (args : List (A PU)) (objs : List (AObj PU)) (K : A PU → List (AObj PU) → Prop) : ¬ T16 0 args objs K := by
  intro h; unfold T16 at h; split at h <;> (first | exact h | exact h.out)
theorem T16_ok (k : Nat) (args : List (A PU)) (objs : List (AObj PU)) (K : A PU → List (AObj PU) → Prop) (h : T16 (k + 1) args objs K) : RowOk PE (PT k) (PC k) 16 args objs K := by
  unfold T16 at h; split at h
  · exact .fn fnok16 rfl (Hold.mp (by kernel_rfl) h.out)
  · exact h.elim
theorem T5y6_z (args : List (A PU)) (objs : List (AObj PU)) (K : A PU → List (AObj PU) → Prop) : ¬ T5y6 0 args objs K := by
  intro h; unfold T5y6 at h; split at h <;> (first | exact h | exact h.out)
theorem T5y6_ok (k : Nat) (args : List (A PU)) (objs : List (AObj PU)) (K : A PU → List (AObj PU) → Prop) (h : T5y6 (k + 1) args objs K) : RowOk PE (PT k) (PC k) 6000006 args objs K := by
  unfold T5y6 at h; split at h
  · exact .round 5 6 rfl fnok5 rfl (Hold.mp (by kernel_rfl) h.out)
  · exact h.elim
theorem T22_z (args : List (A PU)) (objs : List (AObj PU)) (K : A PU → List (AObj PU) → Prop) : ¬ T22 0 args objs K := by
  intro h; unfold T22 at h; split at h <;> (first | exact h | exact h.out)
theorem T22_ok (k : Nat) (args : List (A PU)) (objs : List (AObj PU)) (K : A PU → List (AObj PU) → Prop) (h : T22 (k + 1) args objs K) : RowOk PE (PT k) (PC k) 22 args objs K := by
  unfold T22 at h; split at h
  · exact .fn fnok22 rfl (Hold.mp (by kernel_rfl) h.out)
  · exact h.elim
theorem T5_z (args : List (A PU)) (objs : List (AObj PU)) (K : A PU → List (AObj PU) → Prop) : ¬ T5 0 args objs K := by
  intro h; unfold T5 at h; split at h <;> (first | exact h | exact h.out)
theorem T5_ok (k : Nat) (args : List (A PU)) (objs : List (AObj PU)) (K : A PU → List (AObj PU) → Prop) (h : T5 (k + 1) args objs K) : RowOk PE (PT k) (PC k) 5 args objs K := by
  unfold T5 at h; split at h
  · exact .fn fnok5 rfl (Hold.mp (by kernel_rfl) h.out)
  · exact h.elim
theorem T26_z (args : List (A PU)) (objs : List (AObj PU)) (K : A PU → List (AObj PU) → Prop) : ¬ T26 0 args objs K := by
  intro h; unfold T26 at h; split at h <;> (first | exact h | exact h.out)
theorem T26_ok (k : Nat) (args : List (A PU)) (objs : List (AObj PU)) (K : A PU → List (AObj PU) → Prop) (h : T26 (k + 1) args objs K) : RowOk PE (PT k) (PC k) 26 args objs K := by
  unfold T26 at h; split at h
  · exact .fn fnok26 rfl (Hold.mp (by kernel_rfl) h.out)
  · exact h.elim
theorem T45_z (args : List (A PU)) (objs : List (AObj PU)) (K : A PU → List (AObj PU) → Prop) : ¬ T45 0 args objs K := by
  intro h; unfold T45 at h; split at h <;> (first | exact h | exact h.out)
theorem T45_ok (k : Nat) (args : List (A PU)) (objs : List (AObj PU)) (K : A PU → List (AObj PU) → Prop) (h : T45 (k + 1) args objs K) : RowOk PE (PT k) (PC k) 45 args objs K := by
  unfold T45 at h; split at h
  · exact .fn fnok45 rfl (Hold.mp (by kernel_rfl) h.out)
  · exact h.elim
theorem T57_z (args : List (A PU)) (objs : List (AObj PU)) (K : A PU → List (AObj PU) → Prop) : ¬ T57 0 args objs K := by
  intro h; unfold T57 at h; split at h <;> (first | exact h | exact h.out)
theorem T57_ok (k : Nat) (args : List (A PU)) (objs : List (AObj PU)) (K : A PU → List (AObj PU) → Prop) (h : T57 (k + 1) args objs K) : RowOk PE (PT k) (PC k) 57 args objs K := by
  unfold T57 at h; split at h
  · exact .fn fnok57 rfl (Hold.mp (by kernel_rfl) h.out)
  · exact h.elim
theorem T58_z (args : List (A PU)) (objs : List (AObj PU)) (K : A PU → List (AObj PU) → Prop) : ¬ T58 0 args objs K := by
  intro h; unfold T58 at h; split at h <;> (first | exact h | exact h.out)
theorem T58_ok (k : Nat) (args : List (A PU)) (objs : List (AObj PU)) (K : A PU → List (AObj PU) → Prop) (h : T58 (k + 1) args objs K) : RowOk PE (PT k) (PC k) 58 args objs K := by
  unfold T58 at h; split at h
  · exact .fn fnok58 rfl (Hold.mp (by kernel_rfl) h.out)
  · exact h.elim
theorem T46_z (args : List (A PU)) (objs : List (AObj PU)) (K : A PU → List (AObj PU) → Prop) : ¬ T46 0 args objs K := by
  intro h; unfold T46 at h; split at h <;> (first | exact h | exact h.out)
theorem T46_ok (k : Nat) (args : List (A PU)) (objs : List (AObj PU)) (K : A PU → List (AObj PU) → Prop) (h : T46 (k + 1) args objs K) : RowOk PE (PT k) (PC k) 46 args objs K := by
  unfold T46 at h; split at h
  · exact .fn fnok46 rfl (Hold.mp (by kernel_rfl) h.out)
  · exact h.elim
theorem T27_z (args : List (A PU)) (objs : List (AObj PU)) (K : A PU → List (AObj PU) → Prop) : ¬ T27 0 args objs K := by
  intro h; unfold T27 at h; split at h <;> (first | exact h | exact h.out)
theorem T27_ok (k : Nat) (args : List (A PU)) (objs : List (AObj PU)) (K : A PU → List (AObj PU) → Prop) (h : T27 (k + 1) args objs K) : RowOk PE (PT k) (PC k) 27 args objs K := by
  unfold T27 at h; split at h
  · exact .fn fnok27 rfl (Hold.mp (by kernel_rfl) h.out)
  · exact h.elim
theorem T48_z (args : List (A PU)) (objs : List (AObj PU)) (K : A PU → List (AObj PU) → Prop) : ¬ T48 0 args objs K := by
  intro h; unfold T48 at h; split at h <;> (first | exact h | exact h.out)
theorem T48_ok (k : Nat) (args : List (A PU)) (objs : List (AObj PU)) (K : A PU → List (AObj PU) → Prop) (h : T48 (k + 1) args objs K) : RowOk PE (PT k) (PC k) 48 args objs K := by
  unfold T48 at h; split at h
  · exact .fn fnok48 rfl (Hold.mp (by kernel_rfl) h.out)
  · exact h.elim
theorem T49_z (args : List (A PU)) (objs : List (AObj PU)) (K : A PU → List (AObj PU) → Prop) : ¬ T49 0 args objs K := by
  intro h; unfold T49 at h; split at h <;> (first | exact h | exact h.out)
theorem T49_ok (k : Nat) (args : List (A PU)) (objs : List (AObj PU)) (K : A PU → List (AObj PU) → Prop) (h : T49 (k + 1) args objs K) : RowOk PE (PT k) (PC k) 49 args objs K := by
  unfold T49 at h; split at h
  · exact .fn fnok49 rfl (Hold.mp (by kernel_rfl) h.out)
  · exact h.elim
theorem T29_z (args : List (A PU)) (objs : List (AObj PU)) (K : A PU → List (AObj PU) → Prop) : ¬ T29 0 args objs K := by
  intro h; unfold T29 at h; split at h <;> (first | exact h | exact h.out)
theorem T29_ok (k : Nat) (args : List (A PU)) (objs : List (AObj PU)) (K : A PU → List (AObj PU) → Prop) (h : T29 (k + 1) args objs K) : RowOk PE (PT k) (PC k) 29 args objs K := by
  unfold T29 at h; split at h
  · exact .fn fnok29 rfl (Hold.mp (by kernel_rfl) h.out)
  · exact h.elim
theorem T60_z (args : List (A PU)) (objs : List (AObj PU)) (K : A PU → List (AObj PU) → Prop) : ¬ T60 0 args objs K := by
  intro h; unfold T60 at h; split at h <;> (first | exact h | exact h.out)
theorem T60_ok (k : Nat) (args : List (A PU)) (objs : List (AObj PU)) (K : A PU → List (AObj PU) → Prop) (h : T60 (k + 1) args objs K) : RowOk PE (PT k) (PC k) 60 args objs K := by
  unfold T60 at h; split at h
  · exact .fn fnok60 rfl (Hold.mp (by kernel_rfl) h.out)
  · exact h.elim
theorem T61_z (args : List (A PU)) (objs : List (AObj PU)) (K : A PU → List (AObj PU) → Prop) : ¬ T61 0 args objs K := by
  intro h; unfold T61 at h; split at h <;> (first | exact h | exact h.out)
theorem T61_ok (k : Nat) (args : List (A PU)) (objs : List (AObj PU)) (K : A PU → List (AObj PU) → Prop) (h : T61 (k + 1) args objs K) : RowOk PE (PT k) (PC k) 61 args objs K := by
  unfold T61 at h; split at h
  · exact .fn fnok61 rfl (Hold.mp (by kernel_rfl) h.out)
  · exact h.elim
theorem T65_z (args : List (A PU)) (objs : List (AObj PU)) (K : A PU → List (AObj PU) → Prop) : ¬ T65 0 args objs K := by
  intro h; unfold T65 at h; split at h <;> (first | exact h | exact h.out)
theorem T65_ok (k : Nat) (args : List (A PU)) (objs : List (AObj PU)) (K : A PU → List (AObj PU) → Prop) (h : T65 (k + 1) args objs K) : RowOk PE (PT k) (PC k) 65 args objs K := by
  unfold T65 at h; split at h
  · exact .fn fnok65 rfl (Hold.mp (by kernel_rfl) h.out)
  · exact h.elim
theorem T62_z (args : List (A PU)) (objs : List (AObj PU)) (K : A PU → List (AObj PU) → Prop) : ¬ T62 0 args objs K := by
  intro h; unfold T62 at h; split at h <;> (first | exact h | exact h.out)
theorem T62_ok (k : Nat) (args : List (A PU)) (objs : List (AObj PU)) (K : A PU → List (AObj PU) → Prop) (h : T62 (k + 1) args objs K) : RowOk PE (PT k) (PC k) 62 args objs K := by
  unfold T62 at h; split at h
  · exact .fn fnok62 rfl (Hold.mp (by kernel_rfl) h.out)
  · exact h.elim
theorem T50_z (args : List (A PU)) (objs : List (AObj PU)) (K : A PU → List (AObj PU) → Prop) : ¬ T50 0 args objs K := by
  intro h; unfold T50 at h; split at h <;> (first | exact h | exact h.out)
theorem T50_ok (k : Nat) (args : List (A PU)) (objs : List (AObj PU)) (K : A PU → List (AObj PU) → Prop) (h : T50 (k + 1) args objs K) : RowOk PE (PT k) (PC k) 50 args objs K := by
  unfold T50 at h; split at h
  · exact .fn fnok50 rfl (Hold.mp (by kernel_rfl) h.out)
  · exact h.elim
theorem T59_z (args : List (A PU)) (objs : List (AObj PU)) (K : A PU → List (AObj PU) → Prop) : ¬ T59 0 args objs K := by
  intro h; unfold T59 at h; split at h <;> (first | exact h | exact h.out)
theorem T59_ok (k : Nat) (args : List (A PU)) (objs : List (AObj PU)) (K : A PU → List (AObj PU) → Prop) (h : T59 (k + 1) args objs K) : RowOk PE (PT k) (PC k) 59 args objs K := by
  unfold T59 at h; split at h
  · exact .fn fnok59 rfl (Hold.mp (by kernel_rfl) h.out)
  · exact h.elim
theorem T47_z (args : List (A PU)) (objs : List (AObj PU)) (K : A PU → List (AObj PU) → Prop) : ¬ T47 0 args objs K := by
  intro h; unfold T47 at h; split at h <;> (first | exact h | exact h.out)
theorem T47_ok (k : Nat) (args : List (A PU)) (objs : List (AObj PU)) (K : A PU → List (AObj PU) → Prop) (h : T47 (k + 1) args objs K) : RowOk PE (PT k) (PC k) 47 args objs K := by
  unfold T47 at h; split at h
  · exact .fn fnok47 rfl (Hold.mp (by kernel_rfl) h.out)
  · exact h.elim
theorem T28_z (args : List (A PU)) (objs : List (AObj PU)) (K : A PU → List (AObj PU) → Prop) : ¬ T28 0 args objs K := by
  intro h; unfold T28 at h; split at h <;> (first | exact h | exact h.out)
theorem T28_ok (k : Nat) (args : List (A PU)) (objs : List (AObj PU)) (K : A PU → List (AObj PU) → Prop) (h : T28 (k + 1) args objs K) : RowOk PE (PT k) (PC k) 28 args objs K := by
  unfold T28 at h; split at h
  · exact .fn fnok28 rfl (Hold.mp (by kernel_rfl) h.out)
  · exact h.elim
theorem T17_z (args : List (A PU)) (objs : List (AObj PU)) (K : A PU → List (AObj PU) → Prop) : ¬ T17 0 args objs K := by
  intro h; unfold T17 at h; split at h <;> (first | exact h | exact h.out)
theorem T17_ok (k : Nat) (args : List (A PU)) (objs : List (AObj PU)) (K : A PU → List (AObj PU) → Prop) (h : T17 (k + 1) args objs K) : RowOk PE (PT k) (PC k) 17 args objs K := by
  unfold T17 at h; split at h
  · exact .fn fnok17 rfl (Hold.mp (by kernel_rfl) h.out)
  · exact h.elim
theorem T18_z (args : List (A PU)) (objs : List (AObj PU)) (K : A PU → List (AObj PU) → Prop) : ¬ T18 0 args objs K := by
  intro h; unfold T18 at h; split at h <;> (first | exact h | exact h.out)
theorem T18_ok (k : Nat) (args : List (A PU)) (objs : List (AObj PU)) (K : A PU → List (AObj PU) → Prop) (h : T18 (k + 1) args objs K) : RowOk PE (PT k) (PC k) 18 args objs K := by
  unfold T18 at h; split at h
  · exact .fn fnok18 rfl (Hold.mp (by kernel_rfl) h.out)
  · exact h.elim
theorem T30_z (args : List (A PU)) (objs : List (AObj PU)) (K : A PU → List (AObj PU) → Prop) : ¬ T30 0 args objs K := by
  intro h; unfold T30 at h; split at h <;> (first | exact h | exact h.out)
theorem T30_ok (k : Nat) (args : List (A PU)) (objs : List (AObj PU)) (K : A PU → List (AObj PU) → Prop) (h : T30 (k + 1) args objs K) : RowOk PE (PT k) (PC k) 30 args objs K := by
  unfold T30 at h; split at h
  · exact .fn fnok30 rfl (Hold.mp (by kernel_rfl) h.out)
  · exact h.elim
theorem T19_z (args : List (A PU)) (objs : List (AObj PU)) (K : A PU → List (AObj PU) → Prop) : ¬ T19 0 args objs K := by
  intro h; unfold T19 at h; split at h <;> (first | exact h | exact h.out)
theorem T19_ok (k : Nat) (args : List (A PU)) (objs : List (AObj PU)) (K : A PU → List (AObj PU) → Prop) (h : T19 (k + 1) args objs K) : RowOk PE (PT k) (PC k) 19 args objs K := by
  unfold T19 at h; split at h
  · exact .fn fnok19 rfl (Hold.mp (by kernel_rfl) h.out)
  · exact h.elim
theorem T6_z (args : List (A PU)) (objs : List (AObj PU)) (K : A PU → List (AObj PU) → Prop) : ¬ T6 0 args objs K := by
  intro h; unfold T6 at h; split at h <;> (first | exact h | exact h.out)
theorem T6_ok (k : Nat) (args : List (A PU)) (objs : List (AObj PU)) (K : A PU → List (AObj PU) → Prop) (h : T6 (k + 1) args objs K) : RowOk PE (PT k) (PC k) 6 args objs K := by
  unfold T6 at h; split at h
  · exact .fn fnok6 rfl (Hold.mp (by kernel_rfl) h.out)
  · exact h.elim
theorem T8_z (args : List (A PU)) (objs : List (AObj PU)) (K : A PU → List (AObj PU) → Prop) : ¬ T8 0 args objs K := by
  intro h; unfold T8 at h; split at h <;> (first | exact h | exact h.out)
theorem T8_ok (k : Nat) (args : List (A PU)) (objs : List (AObj PU)) (K : A PU → List (AObj PU) → Prop) (h : T8 (k + 1) args objs K) : RowOk PE (PT k) (PC k) 8 args objs K := by
  unfold T8 at h; split at h
  · exact .fn fnok8 rfl (Hold.mp (by kernel_rfl) h.out)
  · exact .fn fnok8 rfl (Hold.mp (by kernel_rfl) h.out)
  · exact h.elim
theorem T20_z (args : List (A PU)) (objs : List (AObj PU)) (K : A PU → List (AObj PU) → Prop) : ¬ T20 0 args objs K := by
  intro h; unfold T20 at h; split at h <;> (first | exact h | exact h.out)
theorem T20_ok (k : Nat) (args : List (A PU)) (objs : List (AObj PU)) (K : A PU → List (AObj PU) → Prop) (h : T20 (k + 1) args objs K) : RowOk PE (PT k) (PC k) 20 args objs K := by
  unfold T20 at h; split at h
  · exact .fn fnok20 rfl (Hold.mp (by kernel_rfl) h.out)
  · exact .fn fnok20 rfl (Hold.mp (by kernel_rfl) h.out)
  · exact h.elim
theorem T10y5_z (args : List (A PU)) (objs : List (AObj PU)) (K : A PU → List (AObj PU) → Prop) : ¬ T10y5 0 args objs K := by
  intro h; unfold T10y5 at h; split at h <;> (first | exact h | exact h.out)
theorem T10y5_ok (k : Nat) (args : List (A PU)) (objs : List (AObj PU)) (K : A PU → List (AObj PU) → Prop) (h : T10y5 (k + 1) args objs K) : RowOk PE (PT k) (PC k) 11000005 args objs K := by
  unfold T10y5 at h; split at h
  · exact .round 10 5 rfl fnok10 rfl (Hold.mp (by kernel_rfl) h.out)
  · exact h.elim
theorem T31_z (args : List (A PU)) (objs : List (AObj PU)) (K : A PU → List (AObj PU) → Prop) : ¬ T31 0 args objs K := by
  intro h; unfold T31 at h; split at h <;> (first | exact h | exact h.out)
theorem T31_ok (k : Nat) (args : List (A PU)) (objs : List (AObj PU)) (K : A PU → List (AObj PU) → Prop) (h : T31 (k + 1) args objs K) : RowOk PE (PT k) (PC k) 31 args objs K := by
  unfold T31 at h; split at h
  · exact .fn fnok31 rfl (Hold.mp (by kernel_rfl) h.out)
  · exact .fn fnok31 rfl (Hold.mp (by kernel_rfl) h.out)
  · exact .fn fnok31 rfl (Hold.mp (by kernel_rfl) h.out)
  · exact .fn fnok31 rfl (Hold.mp (by kernel_rfl) h.out)
  · exact h.elim
theorem T10y3_z (args : List (A PU)) (objs : List (AObj PU)) (K : A PU → List (AObj PU) → Prop) : ¬ T10y3 0 args objs K := by
  intro h; unfold T10y3 at h; split at h <;> (first | exact h | exact h.out)
theorem T10y3_ok (k : Nat) (args : List (A PU)) (objs : List (AObj PU)) (K : A PU → List (AObj PU) → Prop) (h : T10y3 (k + 1) args objs K) : RowOk PE (PT k) (PC k) 11000003 args objs K := by
  unfold T10y3 at h; split at h
  · exact .round 10 3 rfl fnok10 rfl (Hold.mp (by kernel_rfl) h.out)
  · exact .round 10 3 rfl fnok10 rfl (Hold.mp (by kernel_rfl) h.out)
  · exact h.elim
theorem T10_z (args : List (A PU)) (objs : List (AObj PU)) (K : A PU → List (AObj PU) → Prop) : ¬ T10 0 args objs K := by
  intro h; unfold T10 at h; split at h <;> (first | exact h | exact h.out)
theorem T10_ok (k : Nat) (args : List (A PU)) (objs : List (AObj PU)) (K : A PU → List (AObj PU) → Prop) (h : T10 (k + 1) args objs K) : RowOk PE (PT k) (PC k) 10 args objs K := by
  unfold T10 at h; split at h
  · exact .fn fnok10 rfl (Hold.mp (by kernel_rfl) h.out)
  · exact .fn fnok10 rfl (Hold.mp (by kernel_rfl) h.out)
  · exact h.elim
theorem T7_z (args : List (A PU)) (objs : List (AObj PU)) (K : A PU → List (AObj PU) → Prop) : ¬ T7 0 args objs K := by
  intro h; unfold T7 at h; split at h <;> (first | exact h | exact h.out)
theorem T7_ok (k : Nat) (args : List (A PU)) (objs : List (AObj PU)) (K : A PU → List (AObj PU) → Prop) (h : T7 (k + 1) args objs K) : RowOk PE (PT k) (PC k) 7 args objs K := by
  unfold T7 at h; split at h
  · exact .fn fnok7 rfl (Hold.mp (by kernel_rfl) h.out)
  · exact h.elim
theorem T9_z (args : List (A PU)) (objs : List (AObj PU)) (K : A PU → List (AObj PU) → Prop) : ¬ T9 0 args objs K := by
  intro h; unfold T9 at h; split at h <;> (first | exact h | exact h.out)
theorem T9_ok (k : Nat) (args : List (A PU)) (objs : List (AObj PU)) (K : A PU → List (AObj PU) → Prop) (h : T9 (k + 1) args objs K) : RowOk PE (PT k) (PC k) 9 args objs K := by
  unfold T9 at h; split at h
  · exact .fn fnok9 rfl (Hold.mp (by kernel_rfl) h.out)
  · exact h.elim
theorem T11_z (args : List (A PU)) (objs : List (AObj PU)) (K : A PU → List (AObj PU) → Prop) : ¬ T11 0 args objs K := by
  intro h; unfold T11 at h; split at h <;> (first | exact h | exact h.out)
theorem T11_ok (k : Nat) (args : List (A PU)) (objs : List (AObj PU)) (K : A PU → List (AObj PU) → Prop) (h : T11 (k + 1) args objs K) : RowOk PE (PT k) (PC k) 11 args objs K := by
  unfold T11 at h; split at h
  · exact .fn fnok11 rfl (Hold.mp (by kernel_rfl) h.out)
  · exact h.elim
theorem T12_z (args : List (A PU)) (objs : List (AObj PU)) (K : A PU → List (AObj PU) → Prop) : ¬ T12 0 args objs K := by
  intro h; unfold T12 at h; split at h <;> (first | exact h | exact h.out)
theorem T12_ok (k : Nat) (args : List (A PU)) (objs : List (AObj PU)) (K : A PU → List (AObj PU) → Prop) (h : T12 (k + 1) args objs K) : RowOk PE (PT k) (PC k) 12 args objs K := by
  unfold T12 at h; split at h
  · exact .fn fnok12 rfl (Hold.mp (by kernel_rfl) h.out)
  · exact h.elim
theorem T3_z (args : List (A PU)) (objs : List (AObj PU)) (K : A PU → List (AObj PU) → Prop) : ¬ T3 0 args objs K := by
  intro h; unfold T3 at h; split at h <;> (first | exact h | exact h.out)
theorem T3_ok (k : Nat) (args : List (A PU)) (objs : List (AObj PU)) (K : A PU → List (AObj PU) → Prop) (h : T3 (k + 1) args objs K) : RowOk PE (PT k) (PC k) 3 args objs K := by
  unfold T3 at h; split at h
  · exact .fn fnok3 rfl (Hold.mp (by kernel_rfl) h.out)
  · exact h.elim
theorem D13_5_z (nb : Nat) (vals : List (A PU)) (objs : List (AObj PU)) (K : A PU → List (AObj PU) → Prop) : ¬ D13_5 0 nb vals objs K := by
  intro h; unfold D13_5 at h; split at h <;> (first | exact h | exact h.out)
theorem D13_5_ok (k : Nat) (live : List Nat) (hl : cutOf 13 5 PE.cuts = some live) (nb : Nat) (vals : List (A PU)) (objs : List (AObj PU)) (K : A PU → List (AObj PU) → Prop) (h : D13_5 (k + 1) nb vals objs K) : fnOk PE.P 13 = true ∧ Hold (vcut PE (PT k) (PC k) 13 5 live nb vals objs K) := by
  obtain rfl : live = [1, 3, 4] := Option.some.inj (hl.symm.trans (by kernel_rfl : cutOf 13 5 PE.cuts = some [1, 3, 4]))
  refine ⟨fnok13, ?_⟩; unfold D13_5 at h; split at h
  · exact Hold.mp (by kernel_rfl) h.out
  · exact h.elim
theorem D52_3_z (nb : Nat) (vals : List (A PU)) (objs : List (AObj PU)) (K : A PU → List (AObj PU) → Prop) : ¬ D52_3 0 nb vals objs K := by
  intro h; unfold D52_3 at h; split at h <;> (first | exact h | exact h.out)
theorem D52_3_ok (k : Nat) (live : List Nat) (hl : cutOf 52 3 PE.cuts = some live) (nb : Nat) (vals : List (A PU)) (objs : List (AObj PU)) (K : A PU → List (AObj PU) → Prop) (h : D52_3 (k + 1) nb vals objs K) : fnOk PE.P 52 = true ∧ Hold (vcut PE (PT k) (PC k) 52 3 live nb vals objs K) := by
  obtain rfl : live = [1, 3, 13] := Option.some.inj (hl.symm.trans (by kernel_rfl : cutOf 52 3 PE.cuts = some [1, 3, 13]))
  refine ⟨fnok52, ?_⟩; unfold D52_3 at h; split at h
  · exact Hold.mp (by kernel_rfl) h.out
  · exact h.elim
theorem D34_3_z (nb : Nat) (vals : List (A PU)) (objs : List (AObj PU)) (K : A PU → List (AObj PU) → Prop) : ¬ D34_3 0 nb vals objs K := by
  intro h; unfold D34_3 at h; split at h <;> (first | exact h | exact h.out)
theorem D34_3_ok (k : Nat) (live : List Nat) (hl : cutOf 34 3 PE.cuts = some live) (nb : Nat) (vals : List (A PU)) (objs : List (AObj PU)) (K : A PU → List (AObj PU) → Prop) (h : D34_3 (k + 1) nb vals objs K) : fnOk PE.P 34 = true ∧ Hold (vcut PE (PT k) (PC k) 34 3 live nb vals objs K) := by
  obtain rfl : live = [0, 3, 4] := Option.some.inj (hl.symm.trans (by kernel_rfl : cutOf 34 3 PE.cuts = some [0, 3, 4]))
  refine ⟨fnok34, ?_⟩; unfold D34_3 at h; split at h
  · exact Hold.mp (by kernel_rfl) h.out
  · exact h.elim
theorem D34_4_z (nb : Nat) (vals : List (A PU)) (objs : List (AObj PU)) (K : A PU → List (AObj PU) → Prop) : ¬ D34_4 0 nb vals objs K := by
  intro h; unfold D34_4 at h; split at h <;> (first | exact h | exact h.out)
theorem D34_4_ok (k : Nat) (live : List Nat) (hl : cutOf 34 4 PE.cuts = some live) (nb : Nat) (vals : List (A PU)) (objs : List (AObj PU)) (K : A PU → List (AObj PU) → Prop) (h : D34_4 (k + 1) nb vals objs K) : fnOk PE.P 34 = true ∧ Hold (vcut PE (PT k) (PC k) 34 4 live nb vals objs K) := by
  obtain rfl : live = [0, 3, 4] := Option.some.inj (hl.symm.trans (by kernel_rfl : cutOf 34 4 PE.cuts = some [0, 3, 4]))
  refine ⟨fnok34, ?_⟩; unfold D34_4 at h; split at h
  · exact Hold.mp (by kernel_rfl) h.out
  · exact h.elim
theorem D63_0_z (nb : Nat) (vals : List (A PU)) (objs : List (AObj PU)) (K : A PU → List (AObj PU) → Prop) : ¬ D63_0 0 nb vals objs K := by
  intro h; unfold D63_0 at h; split at h <;> (first | exact h | exact h.out)
theorem D63_0_ok (k : Nat) (live : List Nat) (hl : cutOf 63 0 PE.cuts = some live) (nb : Nat) (vals : List (A PU)) (objs : List (AObj PU)) (K : A PU → List (AObj PU) → Prop) (h : D63_0 (k + 1) nb vals objs K) : fnOk PE.P 63 = true ∧ Hold (vcut PE (PT k) (PC k) 63 0 live nb vals objs K) := by
  obtain rfl : live = [0, 1] := Option.some.inj (hl.symm.trans (by kernel_rfl : cutOf 63 0 PE.cuts = some [0, 1]))
  refine ⟨fnok63, ?_⟩; unfold D63_0 at h; split at h
  · exact Hold.mp (by kernel_rfl) h.out
  · exact Hold.mp (by kernel_rfl) h.out
  · exact h.elim
theorem D63_1_z (nb : Nat) (vals : List (A PU)) (objs : List (AObj PU)) (K : A PU → List (AObj PU) → Prop) : ¬ D63_1 0 nb vals objs K := by
  intro h; unfold D63_1 at h; split at h <;> (first | exact h | exact h.out)
theorem D63_1_ok (k : Nat) (live : List Nat) (hl : cutOf 63 1 PE.cuts = some live) (nb : Nat) (vals : List (A PU)) (objs : List (AObj PU)) (K : A PU → List (AObj PU) → Prop) (h : D63_1 (k + 1) nb vals objs K) : fnOk PE.P 63 = true ∧ Hold (vcut PE (PT k) (PC k) 63 1 live nb vals objs K) := by
  obtain rfl : live = [0, 1] := Option.some.inj (hl.symm.trans (by kernel_rfl : cutOf 63 1 PE.cuts = some [0, 1]))
  refine ⟨fnok63, ?_⟩; unfold D63_1 at h; split at h
  · exact Hold.mp (by kernel_rfl) h.out
  · exact Hold.mp (by kernel_rfl) h.out
  · exact h.elim
theorem D56_2_z (nb : Nat) (vals : List (A PU)) (objs : List (AObj PU)) (K : A PU → List (AObj PU) → Prop) : ¬ D56_2 0 nb vals objs K := by
  intro h; unfold D56_2 at h; split at h <;> (first | exact h | exact h.out)
theorem D56_2_ok (k : Nat) (live : List Nat) (hl : cutOf 56 2 PE.cuts = some live) (nb : Nat) (vals : List (A PU)) (objs : List (AObj PU)) (K : A PU → List (AObj PU) → Prop) (h : D56_2 (k + 1) nb vals objs K) : fnOk PE.P 56 = true ∧ Hold (vcut PE (PT k) (PC k) 56 2 live nb vals objs K) := by
  obtain rfl : live = [0, 2, 25] := Option.some.inj (hl.symm.trans (by kernel_rfl : cutOf 56 2 PE.cuts = some [0, 2, 25]))
  refine ⟨fnok56, ?_⟩; unfold D56_2 at h; split at h
  · exact Hold.mp (by kernel_rfl) h.out
  · exact h.elim
theorem D56_11_z (nb : Nat) (vals : List (A PU)) (objs : List (AObj PU)) (K : A PU → List (AObj PU) → Prop) : ¬ D56_11 0 nb vals objs K := by
  intro h; unfold D56_11 at h; split at h <;> (first | exact h | exact h.out)
theorem D56_11_ok (k : Nat) (live : List Nat) (hl : cutOf 56 11 PE.cuts = some live) (nb : Nat) (vals : List (A PU)) (objs : List (AObj PU)) (K : A PU → List (AObj PU) → Prop) (h : D56_11 (k + 1) nb vals objs K) : fnOk PE.P 56 = true ∧ Hold (vcut PE (PT k) (PC k) 56 11 live nb vals objs K) := by
  obtain rfl : live = [0, 2, 25] := Option.some.inj (hl.symm.trans (by kernel_rfl : cutOf 56 11 PE.cuts = some [0, 2, 25]))
  refine ⟨fnok56, ?_⟩; unfold D56_11 at h; split at h
  · exact Hold.mp (by kernel_rfl) h.out
  · exact h.elim
theorem D56_14_z (nb : Nat) (vals : List (A PU)) (objs : List (AObj PU)) (K : A PU → List (AObj PU) → Prop) : ¬ D56_14 0 nb vals objs K := by
  intro h; unfold D56_14 at h; split at h <;> (first | exact h | exact h.out)
theorem D56_14_ok (k : Nat) (live : List Nat) (hl : cutOf 56 14 PE.cuts = some live) (nb : Nat) (vals : List (A PU)) (objs : List (AObj PU)) (K : A PU → List (AObj PU) → Prop) (h : D56_14 (k + 1) nb vals objs K) : fnOk PE.P 56 = true ∧ Hold (vcut PE (PT k) (PC k) 56 14 live nb vals objs K) := by
  obtain rfl : live = [0, 9, 10, 11, 12, 13, 14, 15, 16, 140, 141] := Option.some.inj (hl.symm.trans (by kernel_rfl : cutOf 56 14 PE.cuts = some [0, 9, 10, 11, 12, 13, 14, 15, 16, 140, 141]))
  refine ⟨fnok56, ?_⟩; unfold D56_14 at h; split at h
  · exact Hold.mp (by kernel_rfl) h.out
  · exact h.elim
theorem D56_23_z (nb : Nat) (vals : List (A PU)) (objs : List (AObj PU)) (K : A PU → List (AObj PU) → Prop) : ¬ D56_23 0 nb vals objs K := by
  intro h; unfold D56_23 at h; split at h <;> (first | exact h | exact h.out)
theorem D56_23_ok (k : Nat) (live : List Nat) (hl : cutOf 56 23 PE.cuts = some live) (nb : Nat) (vals : List (A PU)) (objs : List (AObj PU)) (K : A PU → List (AObj PU) → Prop) (h : D56_23 (k + 1) nb vals objs K) : fnOk PE.P 56 = true ∧ Hold (vcut PE (PT k) (PC k) 56 23 live nb vals objs K) := by
  obtain rfl : live = [0, 210, 211] := Option.some.inj (hl.symm.trans (by kernel_rfl : cutOf 56 23 PE.cuts = some [0, 210, 211]))
  refine ⟨fnok56, ?_⟩; unfold D56_23 at h; split at h
  · exact Hold.mp (by kernel_rfl) h.out
  · exact h.elim
theorem D43_3_z (nb : Nat) (vals : List (A PU)) (objs : List (AObj PU)) (K : A PU → List (AObj PU) → Prop) : ¬ D43_3 0 nb vals objs K := by
  intro h; unfold D43_3 at h; split at h <;> (first | exact h | exact h.out)
theorem D43_3_ok (k : Nat) (live : List Nat) (hl : cutOf 43 3 PE.cuts = some live) (nb : Nat) (vals : List (A PU)) (objs : List (AObj PU)) (K : A PU → List (AObj PU) → Prop) (h : D43_3 (k + 1) nb vals objs K) : fnOk PE.P 43 = true ∧ Hold (vcut PE (PT k) (PC k) 43 3 live nb vals objs K) := by
  obtain rfl : live = [0, 1] := Option.some.inj (hl.symm.trans (by kernel_rfl : cutOf 43 3 PE.cuts = some [0, 1]))
  refine ⟨fnok43, ?_⟩; unfold D43_3 at h; split at h
  · exact Hold.mp (by kernel_rfl) h.out
  · exact Hold.mp (by kernel_rfl) h.out
  · exact h.elim
theorem D44_9_z (nb : Nat) (vals : List (A PU)) (objs : List (AObj PU)) (K : A PU → List (AObj PU) → Prop) : ¬ D44_9 0 nb vals objs K := by
  intro h; unfold D44_9 at h; split at h <;> (first | exact h | exact h.out)
theorem D44_9_ok (k : Nat) (live : List Nat) (hl : cutOf 44 9 PE.cuts = some live) (nb : Nat) (vals : List (A PU)) (objs : List (AObj PU)) (K : A PU → List (AObj PU) → Prop) (h : D44_9 (k + 1) nb vals objs K) : fnOk PE.P 44 = true ∧ Hold (vcut PE (PT k) (PC k) 44 9 live nb vals objs K) := by
  obtain rfl : live = [0, 2, 3, 4, 5, 6, 22] := Option.some.inj (hl.symm.trans (by kernel_rfl : cutOf 44 9 PE.cuts = some [0, 2, 3, 4, 5, 6, 22]))
  refine ⟨fnok44, ?_⟩; unfold D44_9 at h; split at h
  · exact Hold.mp (by kernel_rfl) h.out
  · exact h.elim
theorem D44_15_z (nb : Nat) (vals : List (A PU)) (objs : List (AObj PU)) (K : A PU → List (AObj PU) → Prop) : ¬ D44_15 0 nb vals objs K := by
  intro h; unfold D44_15 at h; split at h <;> (first | exact h | exact h.out)
theorem D44_15_ok (k : Nat) (live : List Nat) (hl : cutOf 44 15 PE.cuts = some live) (nb : Nat) (vals : List (A PU)) (objs : List (AObj PU)) (K : A PU → List (AObj PU) → Prop) (h : D44_15 (k + 1) nb vals objs K) : fnOk PE.P 44 = true ∧ Hold (vcut PE (PT k) (PC k) 44 15 live nb vals objs K) := by
  obtain rfl : live = [2, 3, 4, 45] := Option.some.inj (hl.symm.trans (by kernel_rfl : cutOf 44 15 PE.cuts = some [2, 3, 4, 45]))
  refine ⟨fnok44, ?_⟩; unfold D44_15 at h; split at h
  · exact Hold.mp (by kernel_rfl) h.out
  · exact h.elim
theorem D21_2_z (nb : Nat) (vals : List (A PU)) (objs : List (AObj PU)) (K : A PU → List (AObj PU) → Prop) : ¬ D21_2 0 nb vals objs K := by
  intro h; unfold D21_2 at h; split at h <;> (first | exact h | exact h.out)
theorem D21_2_ok (k : Nat) (live : List Nat) (hl : cutOf 21 2 PE.cuts = some live) (nb : Nat) (vals : List (A PU)) (objs : List (AObj PU)) (K : A PU → List (AObj PU) → Prop) (h : D21_2 (k + 1) nb vals objs K) : fnOk PE.P 21 = true ∧ Hold (vcut PE (PT k) (PC k) 21 2 live nb vals objs K) := by
  obtain rfl : live = [1, 3] := Option.some.inj (hl.symm.trans (by kernel_rfl : cutOf 21 2 PE.cuts = some [1, 3]))
  refine ⟨fnok21, ?_⟩; unfold D21_2 at h; split at h
  · exact Hold.mp (by kernel_rfl) h.out
  · exact h.elim
theorem D21_6_z (nb : Nat) (vals : List (A PU)) (objs : List (AObj PU)) (K : A PU → List (AObj PU) → Prop) : ¬ D21_6 0 nb vals objs K := by
  intro h; unfold D21_6 at h; split at h <;> (first | exact h | exact h.out)
theorem D21_6_ok (k : Nat) (live : List Nat) (hl : cutOf 21 6 PE.cuts = some live) (nb : Nat) (vals : List (A PU)) (objs : List (AObj PU)) (K : A PU → List (AObj PU) → Prop) (h : D21_6 (k + 1) nb vals objs K) : fnOk PE.P 21 = true ∧ Hold (vcut PE (PT k) (PC k) 21 6 live nb vals objs K) := by
  obtain rfl : live = [1, 3, 4, 38, 39, 40] := Option.some.inj (hl.symm.trans (by kernel_rfl : cutOf 21 6 PE.cuts = some [1, 3, 4, 38, 39, 40]))
  refine ⟨fnok21, ?_⟩; unfold D21_6 at h; split at h
  · exact Hold.mp (by kernel_rfl) h.out
  · exact h.elim
theorem D21_9_z (nb : Nat) (vals : List (A PU)) (objs : List (AObj PU)) (K : A PU → List (AObj PU) → Prop) : ¬ D21_9 0 nb vals objs K := by
  intro h; unfold D21_9 at h; split at h <;> (first | exact h | exact h.out)
theorem D21_9_ok (k : Nat) (live : List Nat) (hl : cutOf 21 9 PE.cuts = some live) (nb : Nat) (vals : List (A PU)) (objs : List (AObj PU)) (K : A PU → List (AObj PU) → Prop) (h : D21_9 (k + 1) nb vals objs K) : fnOk PE.P 21 = true ∧ Hold (vcut PE (PT k) (PC k) 21 9 live nb vals objs K) := by
  obtain rfl : live = [1, 3, 6, 38, 39, 40] := Option.some.inj (hl.symm.trans (by kernel_rfl : cutOf 21 9 PE.cuts = some [1, 3, 6, 38, 39, 40]))
  refine ⟨fnok21, ?_⟩; unfold D21_9 at h; split at h
  · exact Hold.mp (by kernel_rfl) h.out
  · exact h.elim
theorem D21_10_z (nb : Nat) (vals : List (A PU)) (objs : List (AObj PU)) (K : A PU → List (AObj PU) → Prop) : ¬ D21_10 0 nb vals objs K := by
  intro h; unfold D21_10 at h; split at h <;> (first | exact h | exact h.out)
theorem D21_10_ok (k : Nat) (live : List Nat) (hl : cutOf 21 10 PE.cuts = some live) (nb : Nat) (vals : List (A PU)) (objs : List (AObj PU)) (K : A PU → List (AObj PU) → Prop) (h : D21_10 (k + 1) nb vals objs K) : fnOk PE.P 21 = true ∧ Hold (vcut PE (PT k) (PC k) 21 10 live nb vals objs K) := by
  obtain rfl : live = [1, 3, 4, 38, 39, 40] := Option.some.inj (hl.symm.trans (by kernel_rfl : cutOf 21 10 PE.cuts = some [1, 3, 4, 38, 39, 40]))
  refine ⟨fnok21, ?_⟩; unfold D21_10 at h; split at h
  · exact Hold.mp (by kernel_rfl) h.out
  · exact h.elim
theorem D21_12_z (nb : Nat) (vals : List (A PU)) (objs : List (AObj PU)) (K : A PU → List (AObj PU) → Prop) : ¬ D21_12 0 nb vals objs K := by
  intro h; unfold D21_12 at h; split at h <;> (first | exact h | exact h.out)
theorem D21_12_ok (k : Nat) (live : List Nat) (hl : cutOf 21 12 PE.cuts = some live) (nb : Nat) (vals : List (A PU)) (objs : List (AObj PU)) (K : A PU → List (AObj PU) → Prop) (h : D21_12 (k + 1) nb vals objs K) : fnOk PE.P 21 = true ∧ Hold (vcut PE (PT k) (PC k) 21 12 live nb vals objs K) := by
  obtain rfl : live = [1, 3, 87, 88, 89] := Option.some.inj (hl.symm.trans (by kernel_rfl : cutOf 21 12 PE.cuts = some [1, 3, 87, 88, 89]))
  refine ⟨fnok21, ?_⟩; unfold D21_12 at h; split at h
  · exact Hold.mp (by kernel_rfl) h.out
  · exact h.elim
theorem D21_15_z (nb : Nat) (vals : List (A PU)) (objs : List (AObj PU)) (K : A PU → List (AObj PU) → Prop) : ¬ D21_15 0 nb vals objs K := by
  intro h; unfold D21_15 at h; split at h <;> (first | exact h | exact h.out)
theorem D21_15_ok (k : Nat) (live : List Nat) (hl : cutOf 21 15 PE.cuts = some live) (nb : Nat) (vals : List (A PU)) (objs : List (AObj PU)) (K : A PU → List (AObj PU) → Prop) (h : D21_15 (k + 1) nb vals objs K) : fnOk PE.P 21 = true ∧ Hold (vcut PE (PT k) (PC k) 21 15 live nb vals objs K) := by
  obtain rfl : live = [1, 3, 87, 88, 89] := Option.some.inj (hl.symm.trans (by kernel_rfl : cutOf 21 15 PE.cuts = some [1, 3, 87, 88, 89]))
  refine ⟨fnok21, ?_⟩; unfold D21_15 at h; split at h
  · exact Hold.mp (by kernel_rfl) h.out
  · exact h.elim
theorem D21_18_z (nb : Nat) (vals : List (A PU)) (objs : List (AObj PU)) (K : A PU → List (AObj PU) → Prop) : ¬ D21_18 0 nb vals objs K := by
  intro h; unfold D21_18 at h; split at h <;> (first | exact h | exact h.out)
theorem D21_18_ok (k : Nat) (live : List Nat) (hl : cutOf 21 18 PE.cuts = some live) (nb : Nat) (vals : List (A PU)) (objs : List (AObj PU)) (K : A PU → List (AObj PU) → Prop) (h : D21_18 (k + 1) nb vals objs K) : fnOk PE.P 21 = true ∧ Hold (vcut PE (PT k) (PC k) 21 18 live nb vals objs K) := by
  obtain rfl : live = [1, 3, 9, 114, 115, 116] := Option.some.inj (hl.symm.trans (by kernel_rfl : cutOf 21 18 PE.cuts = some [1, 3, 9, 114, 115, 116]))
  refine ⟨fnok21, ?_⟩; unfold D21_18 at h; split at h
  · exact Hold.mp (by kernel_rfl) h.out
  · exact h.elim
theorem D21_21_z (nb : Nat) (vals : List (A PU)) (objs : List (AObj PU)) (K : A PU → List (AObj PU) → Prop) : ¬ D21_21 0 nb vals objs K := by
  intro h; unfold D21_21 at h; split at h <;> (first | exact h | exact h.out)
theorem D21_21_ok (k : Nat) (live : List Nat) (hl : cutOf 21 21 PE.cuts = some live) (nb : Nat) (vals : List (A PU)) (objs : List (AObj PU)) (K : A PU → List (AObj PU) → Prop) (h : D21_21 (k + 1) nb vals objs K) : fnOk PE.P 21 = true ∧ Hold (vcut PE (PT k) (PC k) 21 21 live nb vals objs K) := by
  obtain rfl : live = [1, 3, 11, 114, 115, 116] := Option.some.inj (hl.symm.trans (by kernel_rfl : cutOf 21 21 PE.cuts = some [1, 3, 11, 114, 115, 116]))
  refine ⟨fnok21, ?_⟩; unfold D21_21 at h; split at h
  · exact Hold.mp (by kernel_rfl) h.out
  · exact h.elim
theorem D21_22_z (nb : Nat) (vals : List (A PU)) (objs : List (AObj PU)) (K : A PU → List (AObj PU) → Prop) : ¬ D21_22 0 nb vals objs K := by
  intro h; unfold D21_22 at h; split at h <;> (first | exact h | exact h.out)
theorem D21_22_ok (k : Nat) (live : List Nat) (hl : cutOf 21 22 PE.cuts = some live) (nb : Nat) (vals : List (A PU)) (objs : List (AObj PU)) (K : A PU → List (AObj PU) → Prop) (h : D21_22 (k + 1) nb vals objs K) : fnOk PE.P 21 = true ∧ Hold (vcut PE (PT k) (PC k) 21 22 live nb vals objs K) := by
  obtain rfl : live = [1, 3, 9, 114, 115, 116] := Option.some.inj (hl.symm.trans (by kernel_rfl : cutOf 21 22 PE.cuts = some [1, 3, 9, 114, 115, 116]))
  refine ⟨fnok21, ?_⟩; unfold D21_22 at h; split at h
  · exact Hold.mp (by kernel_rfl) h.out
  · exact h.elim
theorem D40_2_z (nb : Nat) (vals : List (A PU)) (objs : List (AObj PU)) (K : A PU → List (AObj PU) → Prop) : ¬ D40_2 0 nb vals objs K := by
  intro h; unfold D40_2 at h; split at h <;> (first | exact h | exact h.out)
theorem D40_2_ok (k : Nat) (live : List Nat) (hl : cutOf 40 2 PE.cuts = some live) (nb : Nat) (vals : List (A PU)) (objs : List (AObj PU)) (K : A PU → List (AObj PU) → Prop) (h : D40_2 (k + 1) nb vals objs K) : fnOk PE.P 40 = true ∧ Hold (vcut PE (PT k) (PC k) 40 2 live nb vals objs K) := by
  obtain rfl : live = [1, 2, 7, 8] := Option.some.inj (hl.symm.trans (by kernel_rfl : cutOf 40 2 PE.cuts = some [1, 2, 7, 8]))
  refine ⟨fnok40, ?_⟩; unfold D40_2 at h; split at h
  · exact Hold.mp (by kernel_rfl) h.out
  · exact h.elim
theorem D25_5_z (nb : Nat) (vals : List (A PU)) (objs : List (AObj PU)) (K : A PU → List (AObj PU) → Prop) : ¬ D25_5 0 nb vals objs K := by
  intro h; unfold D25_5 at h; split at h <;> (first | exact h | exact h.out)
theorem D25_5_ok (k : Nat) (live : List Nat) (hl : cutOf 25 5 PE.cuts = some live) (nb : Nat) (vals : List (A PU)) (objs : List (AObj PU)) (K : A PU → List (AObj PU) → Prop) (h : D25_5 (k + 1) nb vals objs K) : fnOk PE.P 25 = true ∧ Hold (vcut PE (PT k) (PC k) 25 5 live nb vals objs K) := by
  obtain rfl : live = [0, 1, 4, 5] := Option.some.inj (hl.symm.trans (by kernel_rfl : cutOf 25 5 PE.cuts = some [0, 1, 4, 5]))
  refine ⟨fnok25, ?_⟩; unfold D25_5 at h; split at h
  · exact Hold.mp (by kernel_rfl) h.out
  · exact Hold.mp (by kernel_rfl) h.out
  · exact h.elim
theorem D25_7_z (nb : Nat) (vals : List (A PU)) (objs : List (AObj PU)) (K : A PU → List (AObj PU) → Prop) : ¬ D25_7 0 nb vals objs K := by
  intro h; unfold D25_7 at h; split at h <;> (first | exact h | exact h.out)
theorem D25_7_ok (k : Nat) (live : List Nat) (hl : cutOf 25 7 PE.cuts = some live) (nb : Nat) (vals : List (A PU)) (objs : List (AObj PU)) (K : A PU → List (AObj PU) → Prop) (h : D25_7 (k + 1) nb vals objs K) : fnOk PE.P 25 = true ∧ Hold (vcut PE (PT k) (PC k) 25 7 live nb vals objs K) := by
  obtain rfl : live = [1, 4, 7] := Option.some.inj (hl.symm.trans (by kernel_rfl : cutOf 25 7 PE.cuts = some [1, 4, 7]))
  refine ⟨fnok25, ?_⟩; unfold D25_7 at h; split at h
  · exact Hold.mp (by kernel_rfl) h.out
  · exact h.elim
theorem D22_1_z (nb : Nat) (vals : List (A PU)) (objs : List (AObj PU)) (K : A PU → List (AObj PU) → Prop) : ¬ D22_1 0 nb vals objs K := by
  intro h; unfold D22_1 at h; split at h <;> (first | exact h | exact h.out)
theorem D22_1_ok (k : Nat) (live : List Nat) (hl : cutOf 22 1 PE.cuts = some live) (nb : Nat) (vals : List (A PU)) (objs : List (AObj PU)) (K : A PU → List (AObj PU) → Prop) (h : D22_1 (k + 1) nb vals objs K) : fnOk PE.P 22 = true ∧ Hold (vcut PE (PT k) (PC k) 22 1 live nb vals objs K) := by
  obtain rfl : live = [0, 5, 6, 7] := Option.some.inj (hl.symm.trans (by kernel_rfl : cutOf 22 1 PE.cuts = some [0, 5, 6, 7]))
  refine ⟨fnok22, ?_⟩; unfold D22_1 at h; split at h
  · exact Hold.mp (by kernel_rfl) h.out
  · exact Hold.mp (by kernel_rfl) h.out
  · exact h.elim
theorem D22_2_z (nb : Nat) (vals : List (A PU)) (objs : List (AObj PU)) (K : A PU → List (AObj PU) → Prop) : ¬ D22_2 0 nb vals objs K := by
  intro h; unfold D22_2 at h; split at h <;> (first | exact h | exact h.out)
theorem D22_2_ok (k : Nat) (live : List Nat) (hl : cutOf 22 2 PE.cuts = some live) (nb : Nat) (vals : List (A PU)) (objs : List (AObj PU)) (K : A PU → List (AObj PU) → Prop) (h : D22_2 (k + 1) nb vals objs K) : fnOk PE.P 22 = true ∧ Hold (vcut PE (PT k) (PC k) 22 2 live nb vals objs K) := by
  obtain rfl : live = [0, 5, 6, 7] := Option.some.inj (hl.symm.trans (by kernel_rfl : cutOf 22 2 PE.cuts = some [0, 5, 6, 7]))
  refine ⟨fnok22, ?_⟩; unfold D22_2 at h; split at h
  · exact Hold.mp (by kernel_rfl) h.out
  · exact Hold.mp (by kernel_rfl) h.out
  · exact h.elim
theorem D22_3_z (nb : Nat) (vals : List (A PU)) (objs : List (AObj PU)) (K : A PU → List (AObj PU) → Prop) : ¬ D22_3 0 nb vals objs K := by
  intro h; unfold D22_3 at h; split at h <;> (first | exact h | exact h.out)
theorem D22_3_ok (k : Nat) (live : List Nat) (hl : cutOf 22 3 PE.cuts = some live) (nb : Nat) (vals : List (A PU)) (objs : List (AObj PU)) (K : A PU → List (AObj PU) → Prop) (h : D22_3 (k + 1) nb vals objs K) : fnOk PE.P 22 = true ∧ Hold (vcut PE (PT k) (PC k) 22 3 live nb vals objs K) := by
  obtain rfl : live = [0, 4, 5, 6, 7] := Option.some.inj (hl.symm.trans (by kernel_rfl : cutOf 22 3 PE.cuts = some [0, 4, 5, 6, 7]))
  refine ⟨fnok22, ?_⟩; unfold D22_3 at h; split at h
  · exact Hold.mp (by kernel_rfl) h.out
  · exact Hold.mp (by kernel_rfl) h.out
  · exact h.elim
theorem D46_3_z (nb : Nat) (vals : List (A PU)) (objs : List (AObj PU)) (K : A PU → List (AObj PU) → Prop) : ¬ D46_3 0 nb vals objs K := by
  intro h; unfold D46_3 at h; split at h <;> (first | exact h | exact h.out)
theorem D46_3_ok (k : Nat) (live : List Nat) (hl : cutOf 46 3 PE.cuts = some live) (nb : Nat) (vals : List (A PU)) (objs : List (AObj PU)) (K : A PU → List (AObj PU) → Prop) (h : D46_3 (k + 1) nb vals objs K) : fnOk PE.P 46 = true ∧ Hold (vcut PE (PT k) (PC k) 46 3 live nb vals objs K) := by
  obtain rfl : live = [0, 3, 4] := Option.some.inj (hl.symm.trans (by kernel_rfl : cutOf 46 3 PE.cuts = some [0, 3, 4]))
  refine ⟨fnok46, ?_⟩; unfold D46_3 at h; split at h
  · exact Hold.mp (by kernel_rfl) h.out
  · exact h.elim
theorem D27_4_z (nb : Nat) (vals : List (A PU)) (objs : List (AObj PU)) (K : A PU → List (AObj PU) → Prop) : ¬ D27_4 0 nb vals objs K := by
  intro h; unfold D27_4 at h; split at h <;> (first | exact h | exact h.out)
theorem D27_4_ok (k : Nat) (live : List Nat) (hl : cutOf 27 4 PE.cuts = some live) (nb : Nat) (vals : List (A PU)) (objs : List (AObj PU)) (K : A PU → List (AObj PU) → Prop) (h : D27_4 (k + 1) nb vals objs K) : fnOk PE.P 27 = true ∧ Hold (vcut PE (PT k) (PC k) 27 4 live nb vals objs K) := by
  obtain rfl : live = [0, 1, 5] := Option.some.inj (hl.symm.trans (by kernel_rfl : cutOf 27 4 PE.cuts = some [0, 1, 5]))
  refine ⟨fnok27, ?_⟩; unfold D27_4 at h; split at h
  · exact Hold.mp (by kernel_rfl) h.out
  · exact h.elim
theorem D60_4_z (nb : Nat) (vals : List (A PU)) (objs : List (AObj PU)) (K : A PU → List (AObj PU) → Prop) : ¬ D60_4 0 nb vals objs K := by
  intro h; unfold D60_4 at h; split at h <;> (first | exact h | exact h.out)
theorem D60_4_ok (k : Nat) (live : List Nat) (hl : cutOf 60 4 PE.cuts = some live) (nb : Nat) (vals : List (A PU)) (objs : List (AObj PU)) (K : A PU → List (AObj PU) → Prop) (h : D60_4 (k + 1) nb vals objs K) : fnOk PE.P 60 = true ∧ Hold (vcut PE (PT k) (PC k) 60 4 live nb vals objs K) := by
  obtain rfl : live = [0, 3] := Option.some.inj (hl.symm.trans (by kernel_rfl : cutOf 60 4 PE.cuts = some [0, 3]))
  refine ⟨fnok60, ?_⟩; unfold D60_4 at h; split at h
  · exact Hold.mp (by kernel_rfl) h.out
  · exact h.elim
theorem D60_8_z (nb : Nat) (vals : List (A PU)) (objs : List (AObj PU)) (K : A PU → List (AObj PU) → Prop) : ¬ D60_8 0 nb vals objs K := by
  intro h; unfold D60_8 at h; split at h <;> (first | exact h | exact h.out)
theorem D60_8_ok (k : Nat) (live : List Nat) (hl : cutOf 60 8 PE.cuts = some live) (nb : Nat) (vals : List (A PU)) (objs : List (AObj PU)) (K : A PU → List (AObj PU) → Prop) (h : D60_8 (k + 1) nb vals objs K) : fnOk PE.P 60 = true ∧ Hold (vcut PE (PT k) (PC k) 60 8 live nb vals objs K) := by
  obtain rfl : live = [3, 4, 5] := Option.some.inj (hl.symm.trans (by kernel_rfl : cutOf 60 8 PE.cuts = some [3, 4, 5]))
  refine ⟨fnok60, ?_⟩; unfold D60_8 at h; split at h
  · exact Hold.mp (by kernel_rfl) h.out
  · exact h.elim
theorem D62_3_z (nb : Nat) (vals : List (A PU)) (objs : List (AObj PU)) (K : A PU → List (AObj PU) → Prop) : ¬ D62_3 0 nb vals objs K := by
  intro h; unfold D62_3 at h; split at h <;> (first | exact h | exact h.out)
theorem D62_3_ok (k : Nat) (live : List Nat) (hl : cutOf 62 3 PE.cuts = some live) (nb : Nat) (vals : List (A PU)) (objs : List (AObj PU)) (K : A PU → List (AObj PU) → Prop) (h : D62_3 (k + 1) nb vals objs K) : fnOk PE.P 62 = true ∧ Hold (vcut PE (PT k) (PC k) 62 3 live nb vals objs K) := by
  obtain rfl : live = [1, 2, 4, 5, 6] := Option.some.inj (hl.symm.trans (by kernel_rfl : cutOf 62 3 PE.cuts = some [1, 2, 4, 5, 6]))
  refine ⟨fnok62, ?_⟩; unfold D62_3 at h; split at h
  · exact Hold.mp (by kernel_rfl) h.out
  · exact h.elim
theorem D62_7_z (nb : Nat) (vals : List (A PU)) (objs : List (AObj PU)) (K : A PU → List (AObj PU) → Prop) : ¬ D62_7 0 nb vals objs K := by
  intro h; unfold D62_7 at h; split at h <;> (first | exact h | exact h.out)
theorem D62_7_ok (k : Nat) (live : List Nat) (hl : cutOf 62 7 PE.cuts = some live) (nb : Nat) (vals : List (A PU)) (objs : List (AObj PU)) (K : A PU → List (AObj PU) → Prop) (h : D62_7 (k + 1) nb vals objs K) : fnOk PE.P 62 = true ∧ Hold (vcut PE (PT k) (PC k) 62 7 live nb vals objs K) := by
  obtain rfl : live = [2, 4, 5, 7] := Option.some.inj (hl.symm.trans (by kernel_rfl : cutOf 62 7 PE.cuts = some [2, 4, 5, 7]))
  refine ⟨fnok62, ?_⟩; unfold D62_7 at h; split at h
  · exact Hold.mp (by kernel_rfl) h.out
  · exact h.elim
theorem D62_14_z (nb : Nat) (vals : List (A PU)) (objs : List (AObj PU)) (K : A PU → List (AObj PU) → Prop) : ¬ D62_14 0 nb vals objs K := by
  intro h; unfold D62_14 at h; split at h <;> (first | exact h | exact h.out)
theorem D62_14_ok (k : Nat) (live : List Nat) (hl : cutOf 62 14 PE.cuts = some live) (nb : Nat) (vals : List (A PU)) (objs : List (AObj PU)) (K : A PU → List (AObj PU) → Prop) (h : D62_14 (k + 1) nb vals objs K) : fnOk PE.P 62 = true ∧ Hold (vcut PE (PT k) (PC k) 62 14 live nb vals objs K) := by
  obtain rfl : live = [2, 4, 5, 10, 11] := Option.some.inj (hl.symm.trans (by kernel_rfl : cutOf 62 14 PE.cuts = some [2, 4, 5, 10, 11]))
  refine ⟨fnok62, ?_⟩; unfold D62_14 at h; split at h
  · exact Hold.mp (by kernel_rfl) h.out
  · exact h.elim
theorem D62_22_z (nb : Nat) (vals : List (A PU)) (objs : List (AObj PU)) (K : A PU → List (AObj PU) → Prop) : ¬ D62_22 0 nb vals objs K := by
  intro h; unfold D62_22 at h; split at h <;> (first | exact h | exact h.out)
theorem D62_22_ok (k : Nat) (live : List Nat) (hl : cutOf 62 22 PE.cuts = some live) (nb : Nat) (vals : List (A PU)) (objs : List (AObj PU)) (K : A PU → List (AObj PU) → Prop) (h : D62_22 (k + 1) nb vals objs K) : fnOk PE.P 62 = true ∧ Hold (vcut PE (PT k) (PC k) 62 22 live nb vals objs K) := by
  obtain rfl : live = [2, 4, 10, 16] := Option.some.inj (hl.symm.trans (by kernel_rfl : cutOf 62 22 PE.cuts = some [2, 4, 10, 16]))
  refine ⟨fnok62, ?_⟩; unfold D62_22 at h; split at h
  · exact Hold.mp (by kernel_rfl) h.out
  · exact h.elim
theorem D50_4_z (nb : Nat) (vals : List (A PU)) (objs : List (AObj PU)) (K : A PU → List (AObj PU) → Prop) : ¬ D50_4 0 nb vals objs K := by
  intro h; unfold D50_4 at h; split at h <;> (first | exact h | exact h.out)
theorem D50_4_ok (k : Nat) (live : List Nat) (hl : cutOf 50 4 PE.cuts = some live) (nb : Nat) (vals : List (A PU)) (objs : List (AObj PU)) (K : A PU → List (AObj PU) → Prop) (h : D50_4 (k + 1) nb vals objs K) : fnOk PE.P 50 = true ∧ Hold (vcut PE (PT k) (PC k) 50 4 live nb vals objs K) := by
  obtain rfl : live = [2, 3, 4, 5] := Option.some.inj (hl.symm.trans (by kernel_rfl : cutOf 50 4 PE.cuts = some [2, 3, 4, 5]))
  refine ⟨fnok50, ?_⟩; unfold D50_4 at h; split at h
  · exact Hold.mp (by kernel_rfl) h.out
  · exact h.elim
theorem D50_9_z (nb : Nat) (vals : List (A PU)) (objs : List (AObj PU)) (K : A PU → List (AObj PU) → Prop) : ¬ D50_9 0 nb vals objs K := by
  intro h; unfold D50_9 at h; split at h <;> (first | exact h | exact h.out)
theorem D50_9_ok (k : Nat) (live : List Nat) (hl : cutOf 50 9 PE.cuts = some live) (nb : Nat) (vals : List (A PU)) (objs : List (AObj PU)) (K : A PU → List (AObj PU) → Prop) (h : D50_9 (k + 1) nb vals objs K) : fnOk PE.P 50 = true ∧ Hold (vcut PE (PT k) (PC k) 50 9 live nb vals objs K) := by
  obtain rfl : live = [2, 4, 6, 7] := Option.some.inj (hl.symm.trans (by kernel_rfl : cutOf 50 9 PE.cuts = some [2, 4, 6, 7]))
  refine ⟨fnok50, ?_⟩; unfold D50_9 at h; split at h
  · exact Hold.mp (by kernel_rfl) h.out
  · exact h.elim
theorem D28_4_z (nb : Nat) (vals : List (A PU)) (objs : List (AObj PU)) (K : A PU → List (AObj PU) → Prop) : ¬ D28_4 0 nb vals objs K := by
  intro h; unfold D28_4 at h; split at h <;> (first | exact h | exact h.out)
theorem D28_4_ok (k : Nat) (live : List Nat) (hl : cutOf 28 4 PE.cuts = some live) (nb : Nat) (vals : List (A PU)) (objs : List (AObj PU)) (K : A PU → List (AObj PU) → Prop) (h : D28_4 (k + 1) nb vals objs K) : fnOk PE.P 28 = true ∧ Hold (vcut PE (PT k) (PC k) 28 4 live nb vals objs K) := by
  obtain rfl : live = [0, 5] := Option.some.inj (hl.symm.trans (by kernel_rfl : cutOf 28 4 PE.cuts = some [0, 5]))
  refine ⟨fnok28, ?_⟩; unfold D28_4 at h; split at h
  · exact Hold.mp (by kernel_rfl) h.out
  · exact h.elim
theorem D17_4_z (nb : Nat) (vals : List (A PU)) (objs : List (AObj PU)) (K : A PU → List (AObj PU) → Prop) : ¬ D17_4 0 nb vals objs K := by
  intro h; unfold D17_4 at h; split at h <;> (first | exact h | exact h.out)
theorem D17_4_ok (k : Nat) (live : List Nat) (hl : cutOf 17 4 PE.cuts = some live) (nb : Nat) (vals : List (A PU)) (objs : List (AObj PU)) (K : A PU → List (AObj PU) → Prop) (h : D17_4 (k + 1) nb vals objs K) : fnOk PE.P 17 = true ∧ Hold (vcut PE (PT k) (PC k) 17 4 live nb vals objs K) := by
  obtain rfl : live = [1, 3] := Option.some.inj (hl.symm.trans (by kernel_rfl : cutOf 17 4 PE.cuts = some [1, 3]))
  refine ⟨fnok17, ?_⟩; unfold D17_4 at h; split at h
  · exact Hold.mp (by kernel_rfl) h.out
  · exact h.elim
theorem D30_6_z (nb : Nat) (vals : List (A PU)) (objs : List (AObj PU)) (K : A PU → List (AObj PU) → Prop) : ¬ D30_6 0 nb vals objs K := by
  intro h; unfold D30_6 at h; split at h <;> (first | exact h | exact h.out)
theorem D30_6_ok (k : Nat) (live : List Nat) (hl : cutOf 30 6 PE.cuts = some live) (nb : Nat) (vals : List (A PU)) (objs : List (AObj PU)) (K : A PU → List (AObj PU) → Prop) (h : D30_6 (k + 1) nb vals objs K) : fnOk PE.P 30 = true ∧ Hold (vcut PE (PT k) (PC k) 30 6 live nb vals objs K) := by
  obtain rfl : live = [0, 1, 4, 5, 7] := Option.some.inj (hl.symm.trans (by kernel_rfl : cutOf 30 6 PE.cuts = some [0, 1, 4, 5, 7]))
  refine ⟨fnok30, ?_⟩; unfold D30_6 at h; split at h
  · exact Hold.mp (by kernel_rfl) h.out
  · exact Hold.mp (by kernel_rfl) h.out
  · exact h.elim
theorem D30_12_z (nb : Nat) (vals : List (A PU)) (objs : List (AObj PU)) (K : A PU → List (AObj PU) → Prop) : ¬ D30_12 0 nb vals objs K := by
  intro h; unfold D30_12 at h; split at h <;> (first | exact h | exact h.out)
theorem D30_12_ok (k : Nat) (live : List Nat) (hl : cutOf 30 12 PE.cuts = some live) (nb : Nat) (vals : List (A PU)) (objs : List (AObj PU)) (K : A PU → List (AObj PU) → Prop) (h : D30_12 (k + 1) nb vals objs K) : fnOk PE.P 30 = true ∧ Hold (vcut PE (PT k) (PC k) 30 12 live nb vals objs K) := by
  obtain rfl : live = [1, 4, 5, 8, 9, 10] := Option.some.inj (hl.symm.trans (by kernel_rfl : cutOf 30 12 PE.cuts = some [1, 4, 5, 8, 9, 10]))
  refine ⟨fnok30, ?_⟩; unfold D30_12 at h; split at h
  · exact Hold.mp (by kernel_rfl) h.out
  · exact h.elim
theorem D6_7_z (nb : Nat) (vals : List (A PU)) (objs : List (AObj PU)) (K : A PU → List (AObj PU) → Prop) : ¬ D6_7 0 nb vals objs K := by
  intro h; unfold D6_7 at h; split at h <;> (first | exact h | exact h.out)
theorem D6_7_ok (k : Nat) (live : List Nat) (hl : cutOf 6 7 PE.cuts = some live) (nb : Nat) (vals : List (A PU)) (objs : List (AObj PU)) (K : A PU → List (AObj PU) → Prop) (h : D6_7 (k + 1) nb vals objs K) : fnOk PE.P 6 = true ∧ Hold (vcut PE (PT k) (PC k) 6 7 live nb vals objs K) := by
  obtain rfl : live = [0, 3, 6, 7] := Option.some.inj (hl.symm.trans (by kernel_rfl : cutOf 6 7 PE.cuts = some [0, 3, 6, 7]))
  refine ⟨fnok6, ?_⟩; unfold D6_7 at h; split at h
  · exact Hold.mp (by kernel_rfl) h.out
  · exact h.elim
theorem D31_1_z (nb : Nat) (vals : List (A PU)) (objs : List (AObj PU)) (K : A PU → List (AObj PU) → Prop) : ¬ D31_1 0 nb vals objs K := by
  intro h; unfold D31_1 at h; split at h <;> (first | exact h | exact h.out)
theorem D31_1_ok (k : Nat) (live : List Nat) (hl : cutOf 31 1 PE.cuts = some live) (nb : Nat) (vals : List (A PU)) (objs : List (AObj PU)) (K : A PU → List (AObj PU) → Prop) (h : D31_1 (k + 1) nb vals objs K) : fnOk PE.P 31 = true ∧ Hold (vcut PE (PT k) (PC k) 31 1 live nb vals objs K) := by
  obtain rfl : live = [0, 5, 6, 7] := Option.some.inj (hl.symm.trans (by kernel_rfl : cutOf 31 1 PE.cuts = some [0, 5, 6, 7]))
  refine ⟨fnok31, ?_⟩; unfold D31_1 at h; split at h
  · exact Hold.mp (by kernel_rfl) h.out
  · exact Hold.mp (by kernel_rfl) h.out
  · exact Hold.mp (by kernel_rfl) h.out
  · exact Hold.mp (by kernel_rfl) h.out
  · exact h.elim
theorem D11_2_z (nb : Nat) (vals : List (A PU)) (objs : List (AObj PU)) (K : A PU → List (AObj PU) → Prop) : ¬ D11_2 0 nb vals objs K := by
  intro h; unfold D11_2 at h; split at h <;> (first | exact h | exact h.out)
theorem D11_2_ok (k : Nat) (live : List Nat) (hl : cutOf 11 2 PE.cuts = some live) (nb : Nat) (vals : List (A PU)) (objs : List (AObj PU)) (K : A PU → List (AObj PU) → Prop) (h : D11_2 (k + 1) nb vals objs K) : fnOk PE.P 11 = true ∧ Hold (vcut PE (PT k) (PC k) 11 2 live nb vals objs K) := by
  obtain rfl : live = [0, 1, 5] := Option.some.inj (hl.symm.trans (by kernel_rfl : cutOf 11 2 PE.cuts = some [0, 1, 5]))
  refine ⟨fnok11, ?_⟩; unfold D11_2 at h; split at h
  · exact Hold.mp (by kernel_rfl) h.out
  · exact h.elim
theorem D11_5_z (nb : Nat) (vals : List (A PU)) (objs : List (AObj PU)) (K : A PU → List (AObj PU) → Prop) : ¬ D11_5 0 nb vals objs K := by
  intro h; unfold D11_5 at h; split at h <;> (first | exact h | exact h.out)
theorem D11_5_ok (k : Nat) (live : List Nat) (hl : cutOf 11 5 PE.cuts = some live) (nb : Nat) (vals : List (A PU)) (objs : List (AObj PU)) (K : A PU → List (AObj PU) → Prop) (h : D11_5 (k + 1) nb vals objs K) : fnOk PE.P 11 = true ∧ Hold (vcut PE (PT k) (PC k) 11 5 live nb vals objs K) := by
  obtain rfl : live = [0, 1, 5, 6] := Option.some.inj (hl.symm.trans (by kernel_rfl : cutOf 11 5 PE.cuts = some [0, 1, 5, 6]))
  refine ⟨fnok11, ?_⟩; unfold D11_5 at h; split at h
  · exact Hold.mp (by kernel_rfl) h.out
  · exact h.elim
theorem D12_4_z (nb : Nat) (vals : List (A PU)) (objs : List (AObj PU)) (K : A PU → List (AObj PU) → Prop) : ¬ D12_4 0 nb vals objs K := by
  intro h; unfold D12_4 at h; split at h <;> (first | exact h | exact h.out)
theorem D12_4_ok (k : Nat) (live : List Nat) (hl : cutOf 12 4 PE.cuts = some live) (nb : Nat) (vals : List (A PU)) (objs : List (AObj PU)) (K : A PU → List (AObj PU) → Prop) (h : D12_4 (k + 1) nb vals objs K) : fnOk PE.P 12 = true ∧ Hold (vcut PE (PT k) (PC k) 12 4 live nb vals objs K) := by
  obtain rfl : live = [0, 1, 5] := Option.some.inj (hl.symm.trans (by kernel_rfl : cutOf 12 4 PE.cuts = some [0, 1, 5]))
  refine ⟨fnok12, ?_⟩; unfold D12_4 at h; split at h
  · exact Hold.mp (by kernel_rfl) h.out
  · exact h.elim
theorem PSound (k : Nat) : TSound PE (PT k) ∧ CSound PE (PC k) :=
  tablesL PEok (by kernel_rfl) PTr PCr
    (List.forall_mem_cons.2 ⟨T13_z, List.forall_mem_cons.2 ⟨T4_z, List.forall_mem_cons.2 ⟨T32_z, List.forall_mem_cons.2 ⟨T33_z, List.forall_mem_cons.2 ⟨T51_z, List.forall_mem_cons.2 ⟨T52_z, List.forall_mem_cons.2 ⟨T53_z, List.forall_mem_cons.2 ⟨T34_z, List.forall_mem_cons.2 ⟨T55_z, List.forall_mem_cons.2 ⟨T36y5_z, List.forall_mem_cons.2 ⟨T63_z, List.forall_mem_cons.2 ⟨T36_z, List.forall_mem_cons.2 ⟨T37_z, List.forall_mem_cons.2 ⟨T23_z, List.forall_mem_cons.2 ⟨T42_z, List.forall_mem_cons.2 ⟨T64_z, List.forall_mem_cons.2 ⟨T56_z, List.forall_mem_cons.2 ⟨T43_z, List.forall_mem_cons.2 ⟨T44_z, List.forall_mem_cons.2 ⟨T38_z, List.forall_mem_cons.2 ⟨T54_z, List.forall_mem_cons.2 ⟨T35_z, List.forall_mem_cons.2 ⟨T21_z, List.forall_mem_cons.2 ⟨T14_z, List.forall_mem_cons.2 ⟨T15_z, List.forall_mem_cons.2 ⟨T24_z, List.forall_mem_cons.2 ⟨T41_z, List.forall_mem_cons.2 ⟨T40_z, List.forall_mem_cons.2 ⟨T39_z, List.forall_mem_cons.2 ⟨T25_z, List.forall_mem_cons.2 ⟨T16_z, List.forall_mem_cons.2 ⟨T5y6_z, List.forall_mem_cons.2 ⟨T22_z, List.forall_mem_cons.2 ⟨T5_z, List.forall_mem_cons.2 ⟨T26_z, List.forall_mem_cons.2 ⟨T45_z, List.forall_mem_cons.2 ⟨T57_z, List.forall_mem_cons.2 ⟨T58_z, List.forall_mem_cons.2 ⟨T46_z, List.forall_mem_cons.2 ⟨T27_z, List.forall_mem_cons.2 ⟨T48_z, List.forall_mem_cons.2 ⟨T49_z, List.forall_mem_cons.2 ⟨T29_z, List.forall_mem_cons.2 ⟨T60_z, List.forall_mem_cons.2 ⟨T61_z, List.forall_mem_cons.2 ⟨T65_z, List.forall_mem_cons.2 ⟨T62_z, List.forall_mem_cons.2 ⟨T50_z, List.forall_mem_cons.2 ⟨T59_z, List.forall_mem_cons.2 ⟨T47_z, List.forall_mem_cons.2 ⟨T28_z, List.forall_mem_cons.2 ⟨T17_z, List.forall_mem_cons.2 ⟨T18_z, List.forall_mem_cons.2 ⟨T30_z, List.forall_mem_cons.2 ⟨T19_z, List.forall_mem_cons.2 ⟨T6_z, List.forall_mem_cons.2 ⟨T8_z, List.forall_mem_cons.2 ⟨T20_z, List.forall_mem_cons.2 ⟨T10y5_z, List.forall_mem_cons.2 ⟨T31_z, List.forall_mem_cons.2 ⟨T10y3_z, List.forall_mem_cons.2 ⟨T10_z, List.forall_mem_cons.2 ⟨T7_z, List.forall_mem_cons.2 ⟨T9_z, List.forall_mem_cons.2 ⟨T11_z, List.forall_mem_cons.2 ⟨T12_z, List.forall_mem_cons.2 ⟨T3_z, (fun _ h => nomatch h)⟩⟩⟩⟩⟩⟩⟩⟩⟩⟩⟩⟩⟩⟩⟩⟩⟩⟩⟩⟩⟩⟩⟩⟩⟩⟩⟩⟩⟩⟩⟩⟩⟩⟩⟩⟩⟩⟩⟩⟩⟩⟩⟩⟩⟩⟩⟩⟩⟩⟩⟩⟩⟩⟩⟩⟩⟩⟩⟩⟩⟩⟩⟩⟩⟩⟩⟩)
    (List.forall_mem_cons.2 ⟨D13_5_z, List.forall_mem_cons.2 ⟨D52_3_z, List.forall_mem_cons.2 ⟨D34_3_z, List.forall_mem_cons.2 ⟨D34_4_z, List.forall_mem_cons.2 ⟨D63_0_z, List.forall_mem_cons.2 ⟨D63_1_z, List.forall_mem_cons.2 ⟨D56_2_z, List.forall_mem_cons.2 ⟨D56_11_z, List.forall_mem_cons.2 ⟨D56_14_z, List.forall_mem_cons.2 ⟨D56_23_z, List.forall_mem_cons.2 ⟨D43_3_z, List.forall_mem_cons.2 ⟨D44_9_z, List.forall_mem_cons.2 ⟨D44_15_z, List.forall_mem_cons.2 ⟨D21_2_z, List.forall_mem_cons.2 ⟨D21_6_z, List.forall_mem_cons.2 ⟨D21_9_z, List.forall_mem_cons.2 ⟨D21_10_z, List.forall_mem_cons.2 ⟨D21_12_z, List.forall_mem_cons.2 ⟨D21_15_z, List.forall_mem_cons.2 ⟨D21_18_z, List.forall_mem_cons.2 ⟨D21_21_z, List.forall_mem_cons.2 ⟨D21_22_z, List.forall_mem_cons.2 ⟨D40_2_z, List.forall_mem_cons.2 ⟨D25_5_z, List.forall_mem_cons.2 ⟨D25_7_z, List.forall_mem_cons.2 ⟨D22_1_z, List.forall_mem_cons.2 ⟨D22_2_z, List.forall_mem_cons.2 ⟨D22_3_z, List.forall_mem_cons.2 ⟨D46_3_z, List.forall_mem_cons.2 ⟨D27_4_z, List.forall_mem_cons.2 ⟨D60_4_z, List.forall_mem_cons.2 ⟨D60_8_z, List.forall_mem_cons.2 ⟨D62_3_z, List.forall_mem_cons.2 ⟨D62_7_z, List.forall_mem_cons.2 ⟨D62_14_z, List.forall_mem_cons.2 ⟨D62_22_z, List.forall_mem_cons.2 ⟨D50_4_z, List.forall_mem_cons.2 ⟨D50_9_z, List.forall_mem_cons.2 ⟨D28_4_z, List.forall_mem_cons.2 ⟨D17_4_z, List.forall_mem_cons.2 ⟨D30_6_z, List.forall_mem_cons.2 ⟨D30_12_z, List.forall_mem_cons.2 ⟨D6_7_z, List.forall_mem_cons.2 ⟨D31_1_z, List.forall_mem_cons.2 ⟨D11_2_z, List.forall_mem_cons.2 ⟨D11_5_z, List.forall_mem_cons.2 ⟨D12_4_z, (fun _ h => nomatch h)⟩⟩⟩⟩⟩⟩⟩⟩⟩⟩⟩⟩⟩⟩⟩⟩⟩⟩⟩⟩⟩⟩⟩⟩⟩⟩⟩⟩⟩⟩⟩⟩⟩⟩⟩⟩⟩⟩⟩⟩⟩⟩⟩⟩⟩⟩⟩)
    (fun k => List.forall_mem_cons.2 ⟨T13_ok k, List.forall_mem_cons.2 ⟨T4_ok k, List.forall_mem_cons.2 ⟨T32_ok k, List.forall_mem_cons.2 ⟨T33_ok k, List.forall_mem_cons.2 ⟨T51_ok k, List.forall_mem_cons.2 ⟨T52_ok k, List.forall_mem_cons.2 ⟨T53_ok k, List.forall_mem_cons.2 ⟨T34_ok k, List.forall_mem_cons.2 ⟨T55_ok k, List.forall_mem_cons.2 ⟨T36y5_ok k, List.forall_mem_cons.2 ⟨T63_ok k, List.forall_mem_cons.2 ⟨T36_ok k, List.forall_mem_cons.2 ⟨T37_ok k, List.forall_mem_cons.2 ⟨T23_ok k, List.forall_mem_cons.2 ⟨T42_ok k, List.forall_mem_cons.2 ⟨T64_ok k, List.forall_mem_cons.2 ⟨T56_ok k, List.forall_mem_cons.2 ⟨T43_ok k, List.forall_mem_cons.2 ⟨T44_ok k, List.forall_mem_cons.2 ⟨T38_ok k, List.forall_mem_cons.2 ⟨T54_ok k, List.forall_mem_cons.2 ⟨T35_ok k, List.forall_mem_cons.2 ⟨T21_ok k, List.forall_mem_cons.2 ⟨T14_ok k, List.forall_mem_cons.2 ⟨T15_ok k, List.forall_mem_cons.2 ⟨T24_ok k, List.forall_mem_cons.2 ⟨T41_ok k, List.forall_mem_cons.2 ⟨T40_ok k, List.forall_mem_cons.2 ⟨T39_ok k, List.forall_mem_cons.2 ⟨T25_ok k, List.forall_mem_cons.2 ⟨T16_ok k, List.forall_mem_cons.2 ⟨T5y6_ok k, List.forall_mem_cons.2 ⟨T22_ok k, List.forall_mem_cons.2 ⟨T5_ok k, List.forall_mem_cons.2 ⟨T26_ok k, List.forall_mem_cons.2 ⟨T45_ok k, List.forall_mem_cons.2 ⟨T57_ok k, List.forall_mem_cons.2 ⟨T58_ok k, List.forall_mem_cons.2 ⟨T46_ok k, List.forall_mem_cons.2 ⟨T27_ok k, List.forall_mem_cons.2 ⟨T48_ok k, List.forall_mem_cons.2 ⟨T49_ok k, List.forall_mem_cons.2 ⟨T29_ok k, List.forall_mem_cons.2 ⟨T60_ok k, List.forall_mem_cons.2 ⟨T61_ok k, List.forall_mem_cons.2 ⟨T65_ok k, List.forall_mem_cons.2 ⟨T62_ok k, List.forall_mem_cons.2 ⟨T50_ok k, List.forall_mem_cons.2 ⟨T59_ok k, List.forall_mem_cons.2 ⟨T47_ok k, List.forall_mem_cons.2 ⟨T28_ok k, List.forall_mem_cons.2 ⟨T17_ok k, List.forall_mem_cons.2 ⟨T18_ok k, List.forall_mem_cons.2 ⟨T30_ok k, List.forall_mem_cons.2 ⟨T19_ok k, List.forall_mem_cons.2 ⟨T6_ok k, List.forall_mem_cons.2 ⟨T8_ok k, List.forall_mem_cons.2 ⟨T20_ok k, List.forall_mem_cons.2 ⟨T10y5_ok k, List.forall_mem_cons.2 ⟨T31_ok k, List.forall_mem_cons.2 ⟨T10y3_ok k, List.forall_mem_cons.2 ⟨T10_ok k, List.forall_mem_cons.2 ⟨T7_ok k, List.forall_mem_cons.2 ⟨T9_ok k, List.forall_mem_cons.2 ⟨T11_ok k, List.forall_mem_cons.2 ⟨T12_ok k, List.forall_mem_cons.2 ⟨T3_ok k, (fun _ h => nomatch h)⟩⟩⟩⟩⟩⟩⟩⟩⟩⟩⟩⟩⟩⟩⟩⟩⟩⟩⟩⟩⟩⟩⟩⟩⟩⟩⟩⟩⟩⟩⟩⟩⟩⟩⟩⟩⟩⟩⟩⟩⟩⟩⟩⟩⟩⟩⟩⟩⟩⟩⟩⟩⟩⟩⟩⟩⟩⟩⟩⟩⟩⟩⟩⟩⟩⟩⟩)
    (fun k => List.forall_mem_cons.2 ⟨D13_5_ok k, List.forall_mem_cons.2 ⟨D52_3_ok k, List.forall_mem_cons.2 ⟨D34_3_ok k, List.forall_mem_cons.2 ⟨D34_4_ok k, List.forall_mem_cons.2 ⟨D63_0_ok k, List.forall_mem_cons.2 ⟨D63_1_ok k, List.forall_mem_cons.2 ⟨D56_2_ok k, List.forall_mem_cons.2 ⟨D56_11_ok k, List.forall_mem_cons.2 ⟨D56_14_ok k, List.forall_mem_cons.2 ⟨D56_23_ok k, List.forall_mem_cons.2 ⟨D43_3_ok k, List.forall_mem_cons.2 ⟨D44_9_ok k, List.forall_mem_cons.2 ⟨D44_15_ok k, List.forall_mem_cons.2 ⟨D21_2_ok k, List.forall_mem_cons.2 ⟨D21_6_ok k, List.forall_mem_cons.2 ⟨D21_9_ok k, List.forall_mem_cons.2 ⟨D21_10_ok k, List.forall_mem_cons.2 ⟨D21_12_ok k, List.forall_mem_cons.2 ⟨D21_15_ok k, List.forall_mem_cons.2 ⟨D21_18_ok k, List.forall_mem_cons.2 ⟨D21_21_ok k, List.forall_mem_cons.2 ⟨D21_22_ok k, List.forall_mem_cons.2 ⟨D40_2_ok k, List.forall_mem_cons.2 ⟨D25_5_ok k, List.forall_mem_cons.2 ⟨D25_7_ok k, List.forall_mem_cons.2 ⟨D22_1_ok k, List.forall_mem_cons.2 ⟨D22_2_ok k, List.forall_mem_cons.2 ⟨D22_3_ok k, List.forall_mem_cons.2 ⟨D46_3_ok k, List.forall_mem_cons.2 ⟨D27_4_ok k, List.forall_mem_cons.2 ⟨D60_4_ok k, List.forall_mem_cons.2 ⟨D60_8_ok k, List.forall_mem_cons.2 ⟨D62_3_ok k, List.forall_mem_cons.2 ⟨D62_7_ok k, List.forall_mem_cons.2 ⟨D62_14_ok k, List.forall_mem_cons.2 ⟨D62_22_ok k, List.forall_mem_cons.2 ⟨D50_4_ok k, List.forall_mem_cons.2 ⟨D50_9_ok k, List.forall_mem_cons.2 ⟨D28_4_ok k, List.forall_mem_cons.2 ⟨D17_4_ok k, List.forall_mem_cons.2 ⟨D30_6_ok k, List.forall_mem_cons.2 ⟨D30_12_ok k, List.forall_mem_cons.2 ⟨D6_7_ok k, List.forall_mem_cons.2 ⟨D31_1_ok k, List.forall_mem_cons.2 ⟨D11_2_ok k, List.forall_mem_cons.2 ⟨D11_5_ok k, List.forall_mem_cons.2 ⟨D12_4_ok k, (fun _ h => nomatch h)⟩⟩⟩⟩⟩⟩⟩⟩⟩⟩⟩⟩⟩⟩⟩⟩⟩⟩⟩⟩⟩⟩⟩⟩⟩⟩⟩⟩⟩⟩⟩⟩⟩⟩⟩⟩⟩⟩⟩⟩⟩⟩⟩⟩⟩⟩⟩) k
end Go.V
