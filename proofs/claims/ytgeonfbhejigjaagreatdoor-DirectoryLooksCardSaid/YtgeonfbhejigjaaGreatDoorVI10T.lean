import Derived.Test.YtgeonfbhejigjaaGreatDoorVJ10
import Derived.Test.YtgeonfbhejigjaaGreatDoorVI10S
import Derived.Test.YtgeonfbhejigjaaGreatDoorVI10J
import Derived.Test.YtgeonfbhejigjaaGreatDoorVI10I
set_option maxHeartbeats 4000000
set_option maxRecDepth 10000
set_option linter.unusedVariables false
namespace Go.V
open Go
def J0(g:(Bool->Prop)->Prop)(K:Kt PU):Prop:=g (fun z0=>K (.bool z0) [])
def T33(k:Nat):Fn PU:=altT [.agg 4,.i,.r 40,.r 45,.r 47] (F_r08_BigDirectory k) J0<|fN
def T12(k:Nat):Fn PU:=altT [.agg 4,.i,.r 40,.r 45,.r 47,.agg 7,.i,.i,.i,.str,.str,.i,.arr 5 32] (F_l10_large k) J0<|fN
def J1(g:(Int->(List S_api_User)->(List S_api_Head)->(List S_api_Session)->Prop)->Prop)(K:Kt PU):Prop:=g (fun z0 z1 z2 z3=>K (.agg [.int .i64 z0,.usl 40 z1,.usl 45 z2,.usl 47 z3]) [])
def T13(k:Nat):Fn PU:=altT [.agg 4,.i,.r 40,.r 45,.r 47] (F_r08_OwnDirectory k) J1<|fN
def T49(k:Nat):Fn PU:=altT [.i,.i,.i] (F_directory_within k) J0<|fN
def T50(k:Nat):Fn PU:=altT [.str] (F_directory_name k) J0<|fN
def J2(g:(Int->Int->ByteArray->Prop)->Prop)(K:Kt PU):Prop:=g (fun z0 z1 z2=>K (.agg [.int .i64 z0,.int .i64 z1,.str z2]) [])
def T91(k:Nat):Fn PU:=altT [.r 43] (F_version_last k) J2<|altT [.t 43] (F_version_last k) J2<|fN
def T92(k:Nat):Fn PU:=altT [.agg 3,.i,.i,.str] (F_version_may k) J0<|fN
def T93(k:Nat):Fn PU:=altT [.agg 3,.i,.i,.str] (F_version_open k) J0<|fN
def J3(g:(Int->Prop)->Prop)(K:Kt PU):Prop:=g (fun z0=>K (.int .i64 z0) [])
def T51(k:Nat):Fn PU:=altT [.r 43] (F_version_Check k) J3<|altT [.t 43] (F_version_Check k) J3<|fN
def J4(g:(Int->Prop)->Prop)(K:Kt PU):Prop:=g (fun z0=>K (.clo 196 [.ptr 0 []]) [.box (.int .i64 z0)])
def T182(k:Nat):Fn PU:=altT [.i] (F_octet_groups k) J4<|fN
def J5(g:((List Int)->Prop)->Prop)(K:Kt PU):Prop:=g (fun z0=>K (.clo 0 []) [.box (.own 1),.lst 5 z0])
def J6(g:((List Int)->Prop)->Prop)(K:Kt PU):Prop:=g (fun z0=>K (.clo 0 []) [.box (.own 2),.dead,.lst 5 z0])
def T154y5(k:Nat):Fn PU:=altT [.int .u8,.ptr 0 [],.box,.clip false 5] (F_octet_PutCount_y5 k) J5<|altT [.int .u8,.ptr 0 [],.box,.own 1,.lst 5] (F_octet_PutCount_y5_s1 k) J6<|altT [.int .u8,.ptr 0 [],.box,.clip true 5] (F_octet_PutCount_y5 k) J5<|fN
def J7(g:(Int->(List Int)->Prop)->Prop)(K:Kt PU):Prop:=g (fun z0 z1=>K (.tup []) [.lp 154 5 [6] [.ptr 2 []] 0,.box (.int .i64 z0),.box (.own 3),.lst 5 z1])
def T196(k:Nat):Fn PU:=altT [.yld 0,.ptr 1 [],.lp 154 5 [6] 1 0,.ptr 2 [],.box,.i,.box,.clip false 5] (F_octet_groups_1 k) J7<|altT [.yld 0,.ptr 1 [],.lp 154 5 [6] 1 0,.ptr 2 [],.box,.i,.box,.clip true 5] (F_octet_groups_1 k) J7<|fN
def J8(g:((List Int)->Int->Prop)->Prop)(K:Kt PU):Prop:=g (fun z0 z1=>K (.tup [.usl 5 z0,.int .i64 z1]) [])
def T154(k:Nat):Fn PU:=altT [.r 5,.i] (F_octet_PutCount k) J8<|altT [.t 5,.i] (F_octet_PutCount k) J8<|fN
def J9(g:((List Int)->Prop)->Prop)(K:Kt PU):Prop:=g (fun z0=>K (.usl 5 z0) [])
def T155(k:Nat):Fn PU:=altT [.t 5,.arr 5 32] (F_octet_PutDigest k) J9<|fN
def T110(k:Nat):Fn PU:=altT [.agg 3,.i,.arr 5 32,.arr 5 32] (F_head_Bytes k) J8<|fN
def J10(g:((List Int)->(List Int)->Int->Prop)->Prop)(K:Kt PU):Prop:=g (fun z0 z1 z2=>K (.ptr 0 []) [.box (.agg [.arr 189 8 z0,.arr 5 64 z1,.int .i64 z2])])
def T138(k:Nat):Fn PU:=altT [] (F_sha_New k) J10<|fN
def J11(g:(Int->Prop)->Prop)(K:Kt PU):Prop:=g (fun z0=>K (.int .u32 z0) [])
def T193(k:Nat):Fn PU:=altT [.int .u32,.i] (F_math_bits_RotateLeft32 k) J11<|fN
def J12(g:((List Int)->(List Int)->Int->Prop)->Prop)(K:Kt PU):Prop:=g (fun z0 z1 z2=>K (.tup []) [.box (.agg [.arr 189 8 z0,.arr 5 64 z1,.int .i64 z2])])
def T175(k:Nat):Fn PU:=altT [.ptr 0 [],.box,.agg 3,.arr 189 8,.arr 5 64,.i] (F_sha_Hash_mix k) J12<|fN
def J13(g:(Int->(List Int)->(List Int)->Int->Prop)->Prop)(K:Kt PU):Prop:=g (fun z0 z1 z2 z3=>K (.int .i64 z0) [.box (.agg [.arr 189 8 z1,.arr 5 64 z2,.int .i64 z3])])
def T139(k:Nat):Fn PU:=altT [.ptr 0 [],.t 5,.box,.agg 3,.arr 189 8,.arr 5 64,.i] (F_sha_Hash_Write k) J13<|altT [.ptr 0 [],.r 5,.box,.agg 3,.arr 189 8,.arr 5 64,.i] (F_sha_Hash_Write k) J13<|fN
def J14(g:((List Int)->(List Int)->(List Int)->Int->Prop)->Prop)(K:Kt PU):Prop:=g (fun z0 z1 z2 z3=>K (.arr 5 32 z0) [.box (.agg [.arr 189 8 z1,.arr 5 64 z2,.int .i64 z3])])
def T140(k:Nat):Fn PU:=altT [.ptr 0 [],.box,.agg 3,.arr 189 8,.arr 5 64,.i] (F_sha_Hash_Sum k) J14<|fN
def J15(g:((List Int)->Prop)->Prop)(K:Kt PU):Prop:=g (fun z0=>K (.arr 5 32 z0) [])
def T99(k:Nat):Fn PU:=altT [.t 5] (F_sha_Sum k) J15<|fN
def J16(g:((List Int)->Int->Prop)->Prop)(K:Kt PU):Prop:=g (fun z0 z1=>K (.tup [.arr 5 32 z0,.int .i64 z1]) [])
def T78(k:Nat):Fn PU:=altT [.agg 3,.i,.arr 5 32,.arr 5 32] (F_head_Digest k) J16<|fN
def T52(k:Nat):Fn PU:=altT [.r 45] (F_directory_prev k) J15<|altT [.t 45] (F_directory_prev k) J15<|fN
def T19(k:Nat):Fn PU:=altT [.agg 4,.i,.r 40,.r 45,.r 47] (F_directory_Check k) J3<|altT [.agg 4,.i,.t 40,.t 45,.t 47] (F_directory_Check k) J3<|fN
def T53(k:Nat):Fn PU:=altT [.agg 4,.i,.r 40,.r 45,.r 47,.bool,.i] (F_directory_sealed k) J3<|altT [.agg 4,.i,.t 40,.t 45,.t 47,.bool,.i] (F_directory_sealed k) J3<|fN
def J17(g:(Bool->Int->Prop)->Prop)(K:Kt PU):Prop:=g (fun z0 z1=>K (.bool z0) [.box (.int .i64 z1)])
def T101(k:Nat):Fn PU:=altT [.agg 3,.i,.i,.str,.ptr 0 [],.box,.i] (F_version_At_1 k) J17<|fN
def J18(g:(Int->Int->Prop)->Prop)(K:Kt PU):Prop:=g (fun z0 z1=>K (.int .i64 z0) [.box (.int .i64 z1)])
def T100(k:Nat):Fn PU:=altT [.r 43,.clo 101 1,.ptr 0 [],.box,.i] (F_slices_IndexFunc_api_Version_api_Version k) J18<|altT [.t 43,.clo 101 1,.ptr 0 [],.box,.i] (F_slices_IndexFunc_api_Version_api_Version k) J18<|fN
def J19(g:((List S_api_Version)->Prop)->Prop)(K:Kt PU):Prop:=g (fun z0=>K (.usl 43 z0) [])
def T80(k:Nat):Fn PU:=altT [.r 43] (F_slices_Clone_api_Version_api_Version k) J19<|altT [.t 43] (F_slices_Clone_api_Version_api_Version k) J19<|fN
def T59(k:Nat):Fn PU:=altT [.r 43,.i] (F_version_At k) J19<|altT [.t 43,.i] (F_version_At k) J19<|fN
def J20(g:((List Int)->(List Int)->Prop)->Prop)(K:Kt PU):Prop:=g (fun z0 z1=>K (.tup []) [.box (.agg [.own 2]),.lst 5 z0,.lst 5 z1])
def T173(k:Nat):Fn PU:=altT [.ptr 0 [],.i,.box,.agg 1,.own 1,.lst 5] (F_version_laid_count k) J20<|fN
def T174(k:Nat):Fn PU:=altT [.t 5,.str] (F_octet_PutBytes k) J8<|fN
def T137(k:Nat):Fn PU:=altT [.t 43] (F_version_Put k) J8<|fN
def T98(k:Nat):Fn PU:=altT [.t 43] (F_version_Digest k) J16<|fN
def T58(k:Nat):Fn PU:=altT [.str] (F_path_Of k) J15<|fN
def J21(g:(Int->(List S_api_User)->(List S_api_Head)->(List S_api_Session)->(List S_api_Leaf)->Prop)->Prop)(K:Kt PU):Prop:=g (fun z0 z1 z2 z3 z4=>K (.own 1) [.box (.agg [.agg [.int .i64 z0,.ro false 40 z1,.ro false 45 z2,.ro false 47 z3]]),.lst 140 z4])
def J22(g:(Int->(List S_api_User)->(List S_api_Head)->(List S_api_Session)->(List S_api_Leaf)->Prop)->Prop)(K:Kt PU):Prop:=g (fun z0 z1 z2 z3 z4=>K (.own 4) [.box (.agg [.agg [.int .i64 z0,.own 1,.own 2,.own 3]]),.lst 40 z1,.lst 45 z2,.lst 47 z3,.lst 140 z4])
def J23(g:(Int->(List S_api_User)->(List S_api_Head)->(List S_api_Session)->(List S_api_Leaf)->Prop)->Prop)(K:Kt PU):Prop:=g (fun z0 z1 z2 z3 z4=>K (.own 1) [.box (.agg [.agg [.int .i64 z0,.ro true 40 z1,.ro true 45 z2,.ro true 47 z3]]),.lst 140 z4])
def T57(k:Nat):Fn PU:=altT [.ptr 0 [],.i,.box,.agg 1,.agg 4,.i,.r 40,.r 45,.r 47] (F_directory_work_leaves k) J21<|altT [.ptr 0 [],.i,.box,.agg 1,.agg 4,.i,.own 1,.own 2,.own 3,.lst 40,.lst 45,.lst 47] (F_directory_work_leaves_s1 k) J22<|altT [.ptr 0 [],.i,.box,.agg 1,.agg 4,.i,.t 40,.t 45,.t 47] (F_directory_work_leaves k) J23<|fN
def T166(k:Nat):Fn PU:=altT [.i] (F_smt_width k) J0<|fN
def J24(g:(Int->Prop)->(Int->Int->Int->(KT S_api_Leaf)->Prop)->Prop)(K:Kt PU):Prop:=g (fun z0=>K (.tup [.nilp,.int .i64 z0]) []) (fun z0 z1 z2 z3=>K (.tup [.ptr 0 [],.int .i64 z0]) [.box (.agg [.int .i64 z1,.int .i64 z2,.tr 140 z3 []])])
def T128(k:Nat):Fn PU:=altT [.i] (F_smt_New k) J24<|fN
def J25(g:(Int->Int->Int->(KT S_api_Leaf)->Prop)->Prop)(K:Kt PU):Prop:=g (fun z0 z1 z2 z3=>K (.int .i64 z0) [.box (.agg [.int .i64 z1,.int .i64 z2,.tr 140 z3 []])])
def T129(k:Nat):Fn PU:=altT [.nilp,.t 140] (F_smt_Tree_Set k) J3<|altT [.ptr 0 [],.t 140,.box,.agg 3,.i,.i,.tr 140 []] (F_smt_Tree_Set_s1 k) J25<|fN
def J26(g:((List Int)->Int->Int->(KT S_api_Leaf)->Prop)->Prop)(K:Kt PU):Prop:=g (fun z0 z1 z2 z3=>K (.arr 5 32 z0) [.box (.agg [.int .i64 z1,.int .i64 z2,.tr 140 z3 []])])
def T130(k:Nat):Fn PU:=altT [.nilp] (F_smt_Tree_Root k) J15<|altT [.ptr 0 [],.box,.agg 3,.i,.i,.tr 140 []] (F_smt_Tree_Root_s1 k) J26<|fN
def J27(g:((List S_api_Leaf)->Prop)->Prop)(K:Kt PU):Prop:=g (fun z0=>K (.usl 140 z0) [])
def T95(k:Nat):Fn PU:=altT [.t 140] (F_slices_Clone_api_Leaf_api_Leaf k) J27<|fN
def T213(k:Nat):Fn PU:=altT [.int .u8] (F_cmp_isNaN_byte k) J0<|fN
def T200(k:Nat):Fn PU:=altT [.int .u8,.int .u8] (F_cmp_Compare_byte k) J3<|fN
def T187(k:Nat):Fn PU:=altT [.t 5,.t 5] (F_slices_Compare_byte_byte k) J3<|fN
def T186(k:Nat):Fn PU:=altT [.agg 2,.arr 5 32,.arr 5 32,.agg 2,.arr 5 32,.arr 5 32] (F_smt_twice_1 k) J3<|fN
def J28(g:((List S_api_Leaf)->Prop)->Prop)(K:Kt PU):Prop:=g (fun z0=>K (.tup []) [.lst 140 z0])
def T185(k:Nat):Fn PU:=altT [.own 0,.clo 186 0,.lst 140] (F_slices_SortFunc_api_Leaf_api_Leaf k) J28<|fN
def T167(k:Nat):Fn PU:=altT [.t 140] (F_smt_twice k) J0<|fN
def J29(g:(Bool->Int->Int->Int->(List Int)->(List Int)->(List Int)->(KT S_api_Leaf)->(KT S_api_Leaf)->Prop)->Prop)(K:Kt PU):Prop:=g (fun z0 z1 z2 z3 z4 z5 z6 z7 z8=>K (.bool z0) [.box (.agg [.agg [.agg [.int .u32 z1,.int .i32 z2,.int .u32 z3],.arr 5 32 z4],.agg [.arr 5 32 z5,.arr 5 32 z6],.tr 140 z7 [],.tr 140 z8 []])])
def T188(k:Nat):Fn PU:=altT [.tr 140 []] (F_smt_knot_inner k) J0<|altT [.ptr 0 [],.box,.agg 4,.agg 2,.agg 3,.int .u32,.int .i32,.int .u32,.arr 5 32,.agg 2,.arr 5 32,.arr 5 32,.tr 140 [],.tr 140 []] (F_smt_knot_inner_s1 k) J29<|fN
def J30(g:(Int->Prop)->Prop)(K:Kt PU):Prop:=g (fun z0=>K (.int .u8 z0) [])
def T171(k:Nat):Fn PU:=altT [.i] (F_path_mask k) J30<|fN
def J31(g:(Int->Int->Prop)->Prop)(K:Kt PU):Prop:=g (fun z0 z1=>K (.tup [.int .i64 z0,.int .i64 z1]) [])
def T131(k:Nat):Fn PU:=altT [.arr 5 32,.i] (F_path_Bit k) J31<|fN
def T189(k:Nat):Fn PU:=altT [.arr 5 32,.i] (F_smt_right k) J0<|fN
def J32(g:((List Int)->Bool->Int->Int->(KT S_api_Leaf)->Prop)->Prop)(K:Kt PU):Prop:=g (fun z0 z1 z2 z3 z4=>K (.tup [.arr 5 32 z0,.bool z1]) [.box (.agg [.int .i64 z2,.int .i64 z3,.tr 140 z4 []])])
def T168(k:Nat):Fn PU:=altT [.ptr 0 [],.arr 5 32,.box,.agg 3,.i,.i,.tr 140 []] (F_smt_Tree_Get k) J32<|fN
def J33(g:((KT S_api_Leaf)->Prop)->Prop)(K:Kt PU):Prop:=g (fun z0=>K (.tr 140 z0 []) [])
def T169(k:Nat):Fn PU:=altT [.tr 140 [],.agg 2,.arr 5 32,.arr 5 32,.i] (F_smt_knot_with k) J33<|fN
def T192(k:Nat):Fn PU:=altT [.i,.arr 5 32] (F_smt_short k) J15<|fN
def T172(k:Nat):Fn PU:=altT [.i,.int .u8,.t 29] (F_smt_summed k) J15<|altT [.i,.int .u8,.r 29] (F_smt_summed k) J15<|fN
def T136(k:Nat):Fn PU:=altT [.i,.arr 5 32,.arr 5 32] (F_smt_Node k) J15<|fN
def T133(k:Nat):Fn PU:=altT [.i,.agg 2,.arr 5 32,.arr 5 32] (F_smt_Leaf k) J15<|fN
def J34(g:(Int->Int->Int->Int->(List Int)->(List Int)->(List Int)->(KT S_api_Leaf)->(KT S_api_Leaf)->Prop)->Prop)(K:Kt PU):Prop:=g (fun z0 z1 z2 z3 z4 z5 z6 z7 z8=>K (.tup []) [.box (.ptr 2 []),.box (.int .i64 z0),.box (.agg [.agg [.agg [.int .u32 z1,.int .i32 z2,.int .u32 z3],.arr 5 32 z4],.agg [.arr 5 32 z5,.arr 5 32 z6],.tr 140 z7 [],.tr 140 z8 []])])
def T191(k:Nat):Fn PU:=altT [.ptr 0 [],.ptr 1 [],.box,.ptr 2 [],.box,.i,.box,.agg 4,.agg 2,.agg 3,.int .u32,.int .i32,.int .u32,.arr 5 32,.agg 2,.arr 5 32,.arr 5 32,.tr 140 [],.tr 140 []] (F_smt_knot_digest_1 k) J34<|fN
def T132(k:Nat):Fn PU:=altT [.i] (F_smt_Empty k) J15<|fN
def T170(k:Nat):Fn PU:=altT [.tr 140 [],.i] (F_smt_knot_digest k) J15<|fN
def T94(k:Nat):Fn PU:=altT [.i,.t 140] (F_smt_Root k) J16<|fN
def J35(g:((List Int)->Int->(List S_api_User)->(List S_api_Head)->(List S_api_Session)->Prop)->Prop)(K:Kt PU):Prop:=g (fun z0 z1 z2 z3 z4=>K (.arr 5 32 z0) [.box (.agg [.agg [.int .i64 z1,.ro false 40 z2,.ro false 45 z3,.ro false 47 z4]])])
def J36(g:((List Int)->Int->(List S_api_User)->(List S_api_Head)->(List S_api_Session)->Prop)->Prop)(K:Kt PU):Prop:=g (fun z0 z1 z2 z3 z4=>K (.arr 5 32 z0) [.box (.agg [.agg [.int .i64 z1,.own 1,.own 2,.own 3]]),.lst 40 z2,.lst 45 z3,.lst 47 z4])
def J37(g:((List Int)->Int->(List S_api_User)->(List S_api_Head)->(List S_api_Session)->Prop)->Prop)(K:Kt PU):Prop:=g (fun z0 z1 z2 z3 z4=>K (.arr 5 32 z0) [.box (.agg [.agg [.int .i64 z1,.ro true 40 z2,.ro true 45 z3,.ro true 47 z4]])])
def T54(k:Nat):Fn PU:=altT [.ptr 0 [],.i,.box,.agg 1,.agg 4,.i,.r 40,.r 45,.r 47] (F_directory_work_root k) J35<|altT [.ptr 0 [],.i,.box,.agg 1,.agg 4,.i,.own 1,.own 2,.own 3,.lst 40,.lst 45,.lst 47] (F_directory_work_root_s1 k) J36<|altT [.ptr 0 [],.i,.box,.agg 1,.agg 4,.i,.t 40,.t 45,.t 47] (F_directory_work_root k) J37<|fN
def T21(k:Nat):Fn PU:=altT [.agg 4,.i,.r 40,.r 45,.r 47,.i] (F_directory_Root k) J16<|altT [.agg 4,.i,.t 40,.t 45,.t 47,.i] (F_directory_Root k) J16<|fN
def T55(k:Nat):Fn PU:=altT [.i,.i,.i] (F_r10_within k) J0<|fN
def T61(k:Nat):Fn PU:=altT [.str] (F_r10_Name k) J0<|fN
def T152(k:Nat):Fn PU:=altT [.agg 3,.i,.i,.str] (F_r07_May k) J0<|fN
def T153(k:Nat):Fn PU:=altT [.i,.i] (F_r07_follows k) J0<|fN
def T109(k:Nat):Fn PU:=altT [.r 43] (F_r07_Is k) J0<|altT [.t 43] (F_r07_Is k) J0<|fN
def T86(k:Nat):Fn PU:=altT [.t 40,.i] (F_r10_users k) J0<|fN
def T159(k:Nat):Fn PU:=altT [.agg 3,.i,.arr 5 32,.arr 5 32] (F_r09_May k) J0<|fN
def T160(k:Nat):Fn PU:=altT [.i] (F_r01_Groups k) J9<|fN
def T113(k:Nat):Fn PU:=altT [.agg 3,.i,.arr 5 32,.arr 5 32] (F_r09_Bytes k) J8<|fN
def T149(k:Nat):Fn PU:=altT [.t 5] (F_r02_Padded k) J9<|fN
def J38(g:((List Int)->Prop)->Prop)(K:Kt PU):Prop:=g (fun z0=>K (.arr 189 8 z0) [])
def T150(k:Nat):Fn PU:=altT [] (F_r02_begin k) J38<|fN
def T181(k:Nat):Fn PU:=altT [.int .u32,.i] (F_r02_turned k) J11<|fN
def T151(k:Nat):Fn PU:=altT [.arr 189 8,.t 5] (F_r02_block k) J38<|fN
def T108(k:Nat):Fn PU:=altT [.t 5] (F_r02_Sum k) J15<|fN
def T89(k:Nat):Fn PU:=altT [.agg 3,.i,.arr 5 32,.arr 5 32] (F_r09_Digest k) J16<|fN
def T44(k:Nat):Fn PU:=altT [.t 45] (F_r10_Prev k) J15<|fN
def T87(k:Nat):Fn PU:=altT [.t 45,.i] (F_r10_heads k) J0<|fN
def T41(k:Nat):Fn PU:=altT [.agg 4,.i,.t 40,.t 45,.t 47] (F_r10_Right k) J0<|fN
def T65(k:Nat):Fn PU:=altT [.r 43,.i] (F_r07_At k) J19<|altT [.t 43,.i] (F_r07_At k) J19<|fN
def T195(k:Nat):Fn PU:=altT [.str] (F_r01_Bytes k) J8<|fN
def T180(k:Nat):Fn PU:=altT [.t 43] (F_r07_Bytes k) J9<|fN
def T148(k:Nat):Fn PU:=altT [.t 43] (F_r07_Put k) J8<|fN
def T107(k:Nat):Fn PU:=altT [.t 43] (F_r07_Digest k) J16<|fN
def T64(k:Nat):Fn PU:=altT [.str] (F_r04_Of k) J15<|fN
def T63(k:Nat):Fn PU:=altT [.agg 4,.i,.t 40,.t 45,.t 47,.i] (F_r10_Leaves k) J27<|fN
def T124(k:Nat):Fn PU:=altT [.i] (F_r05_Width k) J0<|fN
def T125(k:Nat):Fn PU:=altT [.t 140] (F_r05_Twice k) J0<|fN
def T177(k:Nat):Fn PU:=altT [.i,.t 5] (F_r05_Short k) J16<|fN
def T145(k:Nat):Fn PU:=altT [.i] (F_r05_Empty k) J15<|fN
def T178(k:Nat):Fn PU:=altT [.agg 2,.arr 5 32,.arr 5 32] (F_r05_LeafBytes k) J9<|fN
def T146(k:Nat):Fn PU:=altT [.i,.agg 2,.arr 5 32,.arr 5 32] (F_r05_Leaf k) J15<|fN
def T144(k:Nat):Fn PU:=altT [.i] (F_r04_weight k) J3<|fN
def T104(k:Nat):Fn PU:=altT [.arr 5 32,.i] (F_r04_At k) J3<|fN
def T105(k:Nat):Fn PU:=altT [.t 140,.i,.i] (F_r05_Half k) J27<|fN
def T179(k:Nat):Fn PU:=altT [.arr 5 32,.arr 5 32] (F_r05_NodeBytes k) J9<|fN
def T147(k:Nat):Fn PU:=altT [.i,.arr 5 32,.arr 5 32] (F_r05_Node k) J15<|fN
def T106(k:Nat):Fn PU:=altT [.i,.t 140,.i] (F_r05_Digest k) J15<|fN
def T88(k:Nat):Fn PU:=altT [.i,.t 140] (F_r05_Root k) J16<|fN
def T43(k:Nat):Fn PU:=altT [.agg 4,.i,.t 40,.t 45,.t 47,.i] (F_r10_root k) J15<|fN
def T22(k:Nat):Fn PU:=altT [.agg 4,.i,.t 40,.t 45,.t 47,.i] (F_r10_Root k) J16<|fN
def T96(k:Nat):Fn PU:=altT [.arr 5 32,.i] (F_proof_right k) J0<|fN
def T135(k:Nat):Fn PU:=altT [.agg 2,.arr 5 32,.arr 5 32,.ptr 0 [],.box,.i] (F_proof_at_1 k) J17<|fN
def T134(k:Nat):Fn PU:=altT [.t 140,.clo 135 1,.ptr 0 [],.box,.i] (F_slices_IndexFunc_api_Leaf_api_Leaf k) J18<|fN
def T97(k:Nat):Fn PU:=altT [.i,.t 140,.i] (F_proof_at k) J15<|fN
def J39(g:(Bool->(List Int)->(List (List Int))->Bool->(List Int)->(List Int)->Int->Prop)->Prop)(K:Kt PU):Prop:=g (fun z0 z1 z2 z3 z4 z5 z6=>K (.tup [.agg [.bool z0,.arr 5 32 z1],.agg [.usl 29 z2,.bool z3,.arr 5 32 z4,.arr 5 32 z5],.int .i64 z6]) [])
def T56(k:Nat):Fn PU:=altT [.i,.t 140,.arr 5 32] (F_proof_Make k) J39<|fN
def T176(k:Nat):Fn PU:=altT [.str,.str] (F_internal_bytealg_CompareString k) J3<|fN
def T143(k:Nat):Fn PU:=altT [.str,.str] (F_strings_Compare k) J3<|fN
def T142(k:Nat):Fn PU:=altT [.agg 2,.str,.r 43,.str] (F_directory_work_user_1 k) J3<|fN
def J40(g:(Int->Bool->Prop)->Prop)(K:Kt PU):Prop:=g (fun z0 z1=>K (.tup [.int .i64 z0,.bool z1]) [])
def T141(k:Nat):Fn PU:=altT [.r 40,.str,.clo 142 0] (F_slices_BinarySearchFunc_api_User_api_User_string k) J40<|altT [.t 40,.str,.clo 142 0] (F_slices_BinarySearchFunc_api_User_api_User_string k) J40<|fN
def J41(g:(Int->Bool->Int->(List S_api_User)->(List S_api_Head)->(List S_api_Session)->Prop)->Prop)(K:Kt PU):Prop:=g (fun z0 z1 z2 z3 z4 z5=>K (.tup [.int .i64 z0,.bool z1]) [.box (.agg [.agg [.int .i64 z2,.ro false 40 z3,.ro false 45 z4,.ro false 47 z5]])])
def J42(g:(Int->Bool->Int->(List S_api_User)->(List S_api_Head)->(List S_api_Session)->Prop)->Prop)(K:Kt PU):Prop:=g (fun z0 z1 z2 z3 z4 z5=>K (.tup [.int .i64 z0,.bool z1]) [.box (.agg [.agg [.int .i64 z2,.own 1,.own 2,.own 3]]),.lst 40 z3,.lst 45 z4,.lst 47 z5])
def J43(g:(Int->Bool->Int->(List S_api_User)->(List S_api_Head)->(List S_api_Session)->Prop)->Prop)(K:Kt PU):Prop:=g (fun z0 z1 z2 z3 z4 z5=>K (.tup [.int .i64 z0,.bool z1]) [.box (.agg [.agg [.int .i64 z2,.ro true 40 z3,.ro true 45 z4,.ro true 47 z5]])])
def T102(k:Nat):Fn PU:=altT [.ptr 0 [],.str,.box,.agg 1,.agg 4,.i,.r 40,.r 45,.r 47] (F_directory_work_user k) J41<|altT [.ptr 0 [],.str,.box,.agg 1,.agg 4,.i,.own 1,.own 2,.own 3,.lst 40,.lst 45,.lst 47] (F_directory_work_user k) J42<|altT [.ptr 0 [],.str,.box,.agg 1,.agg 4,.i,.t 40,.t 45,.t 47] (F_directory_work_user k) J43<|fN
def J44(g:((List S_api_Version)->Int->(List S_api_User)->(List S_api_Head)->(List S_api_Session)->Prop)->(Int->(List S_api_User)->(List S_api_Head)->(List S_api_Session)->(List S_api_Version)->Prop)->Prop)(K:Kt PU):Prop:=g (fun z0 z1 z2 z3 z4=>K (.ro false 43 z0) [.box (.agg [.agg [.int .i64 z1,.ro false 40 z2,.ro false 45 z3,.ro false 47 z4]])]) (fun z0 z1 z2 z3 z4=>K (.own 1) [.box (.agg [.agg [.int .i64 z0,.ro false 40 z1,.ro false 45 z2,.ro false 47 z3]]),.lst 43 z4])
def J45(g:((List S_api_Version)->Int->(List S_api_User)->(List S_api_Head)->(List S_api_Session)->Prop)->(Int->(List S_api_User)->(List S_api_Head)->(List S_api_Session)->(List S_api_Version)->Prop)->Prop)(K:Kt PU):Prop:=g (fun z0 z1 z2 z3 z4=>K (.ro false 43 z0) [.box (.agg [.agg [.int .i64 z1,.own 1,.own 2,.own 3]]),.lst 40 z2,.lst 45 z3,.lst 47 z4]) (fun z0 z1 z2 z3 z4=>K (.own 4) [.box (.agg [.agg [.int .i64 z0,.own 1,.own 2,.own 3]]),.lst 40 z1,.lst 45 z2,.lst 47 z3,.lst 43 z4])
def J46(g:((List S_api_Version)->Int->(List S_api_User)->(List S_api_Head)->(List S_api_Session)->Prop)->(Int->(List S_api_User)->(List S_api_Head)->(List S_api_Session)->(List S_api_Version)->Prop)->Prop)(K:Kt PU):Prop:=g (fun z0 z1 z2 z3 z4=>K (.ro false 43 z0) [.box (.agg [.agg [.int .i64 z1,.ro true 40 z2,.ro true 45 z3,.ro true 47 z4]])]) (fun z0 z1 z2 z3 z4=>K (.own 1) [.box (.agg [.agg [.int .i64 z0,.ro true 40 z1,.ro true 45 z2,.ro true 47 z3]]),.lst 43 z4])
def T60(k:Nat):Fn PU:=altT [.ptr 0 [],.str,.box,.agg 1,.agg 4,.i,.r 40,.r 45,.r 47] (F_directory_work_history k) J44<|altT [.ptr 0 [],.str,.box,.agg 1,.agg 4,.i,.own 1,.own 2,.own 3,.lst 40,.lst 45,.lst 47] (F_directory_work_history k) J45<|altT [.ptr 0 [],.str,.box,.agg 1,.agg 4,.i,.t 40,.t 45,.t 47] (F_directory_work_history k) J46<|fN
def J47(g:((List S_api_Version)->(List (List Int))->Bool->(List Int)->(List Int)->Int->Prop)->Prop)(K:Kt PU):Prop:=g (fun z0 z1 z2 z3 z4 z5=>K (.tup [.usl 43 z0,.agg [.usl 29 z1,.bool z2,.arr 5 32 z3,.arr 5 32 z4],.int .i64 z5]) [])
def T23(k:Nat):Fn PU:=altT [.agg 4,.i,.r 40,.r 45,.r 47,.str,.i] (F_directory_Look k) J47<|altT [.agg 4,.i,.t 40,.t 45,.t 47,.str,.i] (F_directory_Look k) J47<|fN
def J48(g:((List Int)->Bool->Prop)->Prop)(K:Kt PU):Prop:=g (fun z0 z1=>K (.tup [.arr 5 32 z0,.bool z1]) [])
def T103(k:Nat):Fn PU:=altT [.t 140,.arr 5 32] (F_r05_Get k) J48<|fN
def T62(k:Nat):Fn PU:=altT [.i,.t 140,.arr 5 32] (F_r06_Make k) J39<|fN
def J49(g:((List S_api_Version)->Prop)->((List S_api_Version)->Prop)->Prop)(K:Kt PU):Prop:=g (fun z0=>K (.ro false 43 z0) []) (fun z0=>K (.usl 43 z0) [])
def T66(k:Nat):Fn PU:=altT [.agg 4,.i,.t 40,.t 45,.t 47,.str] (F_r10_History k) J49<|fN
def T24(k:Nat):Fn PU:=altT [.agg 4,.i,.t 40,.t 45,.t 47,.str,.i] (F_r10_Look k) J47<|fN
def T25(k:Nat):Fn PU:=altT [.t 43,.t 43] (F_r08_SameVersions k) J0<|altT [.r 43,.r 43] (F_r08_SameVersions k) J0<|fN
def T26(k:Nat):Fn PU:=altT [.agg 4,.t 29,.bool,.arr 5 32,.arr 5 32,.agg 4,.t 29,.bool,.arr 5 32,.arr 5 32] (F_r06_Same k) J0<|fN
def J50(g:(Int->Int->Int->ByteArray->ByteArray->Int->(List Int)->Prop)->Prop)(K:Kt PU):Prop:=g (fun z0 z1 z2 z3 z4 z5 z6=>K (.agg [.int .i64 z0,.int .i64 z1,.int .i64 z2,.str z3,.str z4,.int .i64 z5,.arr 5 32 z6]) [])
def T47(k:Nat):Fn PU:=altT [.i,.str] (F_l10_put k) J50<|fN
def T20(k:Nat):Fn PU:=altT [.agg 7,.i,.i,.i,.str,.str,.i,.arr 5 32] (F_directory_May k) J0<|fN
def J51(g:((List S_api_User)->Prop)->Prop)(K:Kt PU):Prop:=g (fun z0=>K (.usl 40 z0) [])
def T79(k:Nat):Fn PU:=altT [.r 40] (F_slices_Clone_api_User_api_User k) J51<|altT [.t 40] (F_slices_Clone_api_User_api_User k) J51<|fN
def J52(g:((List S_api_Head)->Prop)->Prop)(K:Kt PU):Prop:=g (fun z0=>K (.usl 45 z0) [])
def T81(k:Nat):Fn PU:=altT [.r 45] (F_slices_Clone_api_Head_api_Head k) J52<|altT [.t 45] (F_slices_Clone_api_Head_api_Head k) J52<|fN
def J53(g:((List S_api_Session)->Prop)->Prop)(K:Kt PU):Prop:=g (fun z0=>K (.usl 47 z0) [])
def T82(k:Nat):Fn PU:=altT [.r 47] (F_slices_Clone_api_Session_api_Session k) J53<|altT [.t 47] (F_slices_Clone_api_Session_api_Session k) J53<|fN
def J54(g:(Int->(List S_api_User)->(List S_api_Head)->(List S_api_Session)->Prop)->Prop)(K:Kt PU):Prop:=g (fun z0 z1 z2 z3=>K (.ptr 0 []) [.box (.agg [.agg [.int .i64 z0,.own 1,.own 2,.own 3]]),.lst 40 z1,.lst 45 z2,.lst 47 z3])
def T38(k:Nat):Fn PU:=altT [.agg 4,.i,.r 40,.r 45,.r 47] (F_directory_begin k) J54<|altT [.agg 4,.i,.t 40,.t 45,.t 47] (F_directory_begin k) J54<|fN
def J55(g:(Int->Int->(List S_api_User)->(List S_api_Head)->(List S_api_Session)->Prop)->(Int->Int->(List S_api_User)->(List S_api_Session)->(List S_api_Head)->Prop)->Prop)(K:Kt PU):Prop:=g (fun z0 z1 z2 z3 z4=>K (.int .i64 z0) [.box (.agg [.agg [.int .i64 z1,.own 1,.own 2,.own 3]]),.lst 40 z2,.lst 45 z3,.lst 47 z4]) (fun z0 z1 z2 z3 z4=>K (.int .i64 z0) [.box (.agg [.agg [.int .i64 z1,.own 1,.own 4,.own 3]]),.lst 40 z2,.dead,.lst 47 z3,.lst 45 z4])
def T39(k:Nat):Fn PU:=altT [.ptr 0 [],.agg 7,.i,.i,.i,.str,.str,.i,.arr 5 32,.box,.agg 1,.agg 4,.i,.own 1,.own 2,.own 3,.lst 40,.lst 45,.lst 47] (F_directory_work_intend k) J55<|fN
def T161(k:Nat):Fn PU:=altT [.i] (F_cmp_isNaN_int k) J0<|fN
def T119(k:Nat):Fn PU:=altT [.i,.i] (F_cmp_Compare_int k) J3<|fN
def T118(k:Nat):Fn PU:=altT [.agg 4,.i,.i,.i,.i,.i] (F_directory_work_session_1 k) J3<|fN
def T117(k:Nat):Fn PU:=altT [.t 47,.i,.clo 118 0] (F_slices_BinarySearchFunc_api_Session_api_Session_int k) J40<|fN
def T83(k:Nat):Fn PU:=altT [.ptr 0 [],.i,.box,.agg 1,.agg 4,.i,.own 1,.own 2,.own 3,.lst 40,.lst 45,.lst 47] (F_directory_work_session k) J42<|fN
def J56(g:((List S_api_Session)->Prop)->Prop)(K:Kt PU):Prop:=g (fun z0=>K (.own 2) [.dead,.dead,.lst 47 z0])
def T84(k:Nat):Fn PU:=altT [.own 0,.i,.own 1,.lst 47,.lst 47] (F_slices_Insert_api_Session_api_Session k) J56<|fN
def J57(g:((List S_api_Version)->Int->Prop)->Prop)(K:Kt PU):Prop:=g (fun z0 z1=>K (.tup [.usl 43 z0,.int .i64 z1]) [])
def T122(k:Nat):Fn PU:=altT [.r 43,.agg 3,.i,.i,.str] (F_version_Next k) J57<|altT [.t 43,.agg 3,.i,.i,.str] (F_version_Next k) J57<|fN
def J58(g:((List S_api_User)->Prop)->Prop)(K:Kt PU):Prop:=g (fun z0=>K (.own 2) [.dead,.dead,.lst 40 z0])
def T123(k:Nat):Fn PU:=altT [.own 0,.i,.own 1,.lst 40,.lst 40] (F_slices_Insert_api_User_api_User k) J58<|fN
def J59(g:(Int->Int->(List S_api_User)->(List S_api_Head)->(List S_api_Session)->Prop)->(Int->Int->(List S_api_Head)->(List S_api_Session)->(List S_api_User)->Prop)->Prop)(K:Kt PU):Prop:=g (fun z0 z1 z2 z3 z4=>K (.int .i64 z0) [.box (.agg [.agg [.int .i64 z1,.own 1,.own 2,.own 3]]),.lst 40 z2,.lst 45 z3,.lst 47 z4]) (fun z0 z1 z2 z3 z4=>K (.int .i64 z0) [.box (.agg [.agg [.int .i64 z1,.own 4,.own 2,.own 3]]),.dead,.lst 45 z2,.lst 47 z3,.lst 40 z4])
def T85(k:Nat):Fn PU:=altT [.ptr 0 [],.agg 7,.i,.i,.i,.str,.str,.i,.arr 5 32,.box,.agg 1,.agg 4,.i,.own 1,.own 2,.own 3,.lst 40,.lst 45,.lst 47] (F_directory_work_add k) J59<|fN
def J60(g:(Int->Int->(List S_api_User)->(List S_api_Head)->(List S_api_Session)->Prop)->(Int->Int->(List S_api_Head)->(List S_api_User)->(List S_api_Session)->Prop)->(Int->Int->(List S_api_User)->(List S_api_Head)->(List S_api_Session)->Prop)->(Int->Int->(List S_api_Head)->(List S_api_Session)->(List S_api_User)->Prop)->Prop)(K:Kt PU):Prop:=g (fun z0 z1 z2 z3 z4=>K (.int .i64 z0) [.box (.agg [.agg [.int .i64 z1,.own 1,.own 2,.own 4]]),.lst 40 z2,.lst 45 z3,.dead,.lst 47 z4]) (fun z0 z1 z2 z3 z4=>K (.int .i64 z0) [.box (.agg [.agg [.int .i64 z1,.own 4,.own 2,.own 5]]),.dead,.lst 45 z2,.dead,.lst 40 z3,.lst 47 z4]) (fun z0 z1 z2 z3 z4=>K (.int .i64 z0) [.box (.agg [.agg [.int .i64 z1,.own 1,.own 2,.own 3]]),.lst 40 z2,.lst 45 z3,.lst 47 z4]) (fun z0 z1 z2 z3 z4=>K (.int .i64 z0) [.box (.agg [.agg [.int .i64 z1,.own 4,.own 2,.own 3]]),.dead,.lst 45 z2,.lst 47 z3,.lst 40 z4])
def T40(k:Nat):Fn PU:=altT [.ptr 0 [],.agg 7,.i,.i,.i,.str,.str,.i,.arr 5 32,.box,.agg 1,.agg 4,.i,.own 1,.own 2,.own 3,.lst 40,.lst 45,.lst 47] (F_directory_work_request k) J60<|fN
def J61(g:(Int->(List S_api_User)->(List S_api_Head)->(List S_api_Session)->Int->Prop)->Prop)(K:Kt PU):Prop:=g (fun z0 z1 z2 z3 z4=>K (.tup [.agg [.int .i64 z0,.usl 40 z1,.usl 45 z2,.usl 47 z3],.int .i64 z4]) [])
def T14(k:Nat):Fn PU:=altT [.agg 4,.i,.r 40,.r 45,.r 47,.agg 7,.i,.i,.i,.str,.str,.i,.arr 5 32] (F_directory_Apply k) J61<|altT [.agg 4,.i,.t 40,.t 45,.t 47,.agg 7,.i,.i,.i,.str,.str,.i,.arr 5 32] (F_directory_Apply k) J61<|fN
def T48(k:Nat):Fn PU:=altT [.i] (F_l10_seal k) J50<|fN
def T27(k:Nat):Fn PU:=altT [] (F_l10_looks k) J0<|fN
def T16(k:Nat):Fn PU:=altT [.agg 4,.i,.r 40,.r 45,.r 47,.agg 4,.i,.t 40,.t 45,.t 47] (F_r08_SameDirectory k) J0<|fN
def T6(k:Nat):Fn PU:=altT [.agg 4,.i,.r 40,.r 45,.r 47,.str,.i] (F_l10_DirectoryLooks k) J0<|fN
def T28(k:Nat):Fn PU:=altT [.str,.agg 4,.i,.r 40,.r 45,.r 47,.r 68,.r 68] (F_l19_large k) J0<|fN
def T67(k:Nat):Fn PU:=altT [.str,.agg 4,.i,.r 40,.r 45,.r 47] (F_signer_ready k) J3<|altT [.str,.agg 4,.i,.t 40,.t 45,.t 47] (F_signer_ready k) J3<|fN
def T76(k:Nat):Fn PU:=altT [.str] (F_head_signing k) J0<|fN
def J62(g:(Int->Int->Prop)->Prop)(K:Kt PU):Prop:=g (fun z0 z1=>K (.int .u8 z0) [.box (.int .u8 z1)])
def T158(k:Nat):Fn PU:=altT [.int .u8,.ptr 0 [],.box,.int .u8] (F_mac_Mac_1_1 k) J62<|fN
def J63(g:(Nat->Nat->Int->(List Int)->Prop)->Prop)(K:Kt PU):Prop:=g (fun z0 z1 z2 z3=>K (.bsl 1 [] 5 64 z0 z1) [.box (.int .u8 z2),.box (.arr 5 64 z3)])
def T157(k:Nat):Fn PU:=altT [.arr 5 64,.clo 158 1,.ptr 0 [],.box,.int .u8] (F_mac_turned_byte k) J63<|fN
def J64(g:(Nat->Nat->(List Int)->(List Int)->Prop)->Prop)(K:Kt PU):Prop:=g (fun z0 z1 z2 z3=>K (.bsl 1 [] 5 64 z0 z1) [.box (.arr 5 64 z2),.box (.arr 5 64 z3)])
def T156(k:Nat):Fn PU:=altT [.int .u8,.ptr 0 [],.box,.arr 5 64] (F_mac_Mac_1 k) J64<|fN
def T111(k:Nat):Fn PU:=altT [.t 5,.t 5] (F_mac_Mac k) J15<|fN
def J65(g:(Int->(List Int)->(List Int)->(List Int)->Int->Prop)->Prop)(K:Kt PU):Prop:=g (fun z0 z1 z2 z3 z4=>K (.tup [.agg [.agg [.int .i64 z0,.arr 5 32 z1,.arr 5 32 z2],.arr 5 32 z3],.int .i64 z4]) [])
def T68(k:Nat):Fn PU:=altT [.str,.agg 3,.i,.arr 5 32,.arr 5 32] (F_head_Sign k) J65<|fN
def J66(g:((List S_api_Signed)->Prop)->Prop)(K:Kt PU):Prop:=g (fun z0=>K (.clo 112 [.ptr 0 []]) [.box (.ro false 68 z0)])
def J67(g:((List S_api_Signed)->Prop)->Prop)(K:Kt PU):Prop:=g (fun z0=>K (.clo 112 [.ptr 0 []]) [.box (.ro true 68 z0)])
def T69(k:Nat):Fn PU:=altT [.r 68] (F_slices_Values_api_Signed_api_Signed k) J66<|altT [.t 68] (F_slices_Values_api_Signed_api_Signed k) J67<|fN
def J68(g:(Int->Int->(List Int)->(List Int)->(List Int)->Bool->Int->Int->(List Int)->(List Int)->(List Int)->Prop)->(Int->Int->(List Int)->(List Int)->(List Int)->Bool->Int->Int->(List Int)->(List Int)->(List Int)->Prop)->Prop)(K:Kt PU):Prop:=g (fun z0 z1 z2 z3 z4 z5 z6 z7 z8 z9 z10=>K (.clo 0 []) [.box (.int .i64 z0),.box (.agg [.agg [.int .i64 z1,.arr 5 32 z2,.arr 5 32 z3],.arr 5 32 z4]),.box (.bool z5),.box (.int .i64 z6),.box (.agg [.agg [.int .i64 z7,.arr 5 32 z8,.arr 5 32 z9],.arr 5 32 z10])]) (fun z0 z1 z2 z3 z4 z5 z6 z7 z8 z9 z10=>K (.clo 1 []) [.box (.int .i64 z0),.box (.agg [.agg [.int .i64 z1,.arr 5 32 z2,.arr 5 32 z3],.arr 5 32 z4]),.box (.bool z5),.box (.int .i64 z6),.box (.agg [.agg [.int .i64 z7,.arr 5 32 z8,.arr 5 32 z9],.arr 5 32 z10])])
def T29y14(k:Nat):Fn PU:=altT (.agg 2::.agg 3::.i::.arr 5 32::.arr 5 32::.arr 5 32::.ptr 0 []::.ptr 1 []::.ptr 2 []::.ptr 3 []::.ptr 4 []::.box::.i::.box::.agg 2::.agg 3::.i::.arr 5 32::.arr 5 32::.arr 5 32::.box::.bool::.box::.i::.box::.agg 2::.agg 3::.i::.arr 5 32::.arr 5 32::.arr 5 32::[]) (F_signer_Sign_y14 k) J68<|fN
def J69(g:((List S_api_Signed)->Int->Int->(List Int)->(List Int)->(List Int)->Bool->Int->Int->(List Int)->(List Int)->(List Int)->Prop)->((List S_api_Signed)->Int->Int->(List Int)->(List Int)->(List Int)->Bool->Int->Int->(List Int)->(List Int)->(List Int)->Prop)->Prop)(K:Kt PU):Prop:=g (fun z0 z1 z2 z3 z4 z5 z6 z7 z8 z9 z10 z11=>K (.tup []) [.lp 29 14 [7,8,9,10,14] [.ptr 2 [],.ptr 3 [],.ptr 4 [],.ptr 5 [],.ptr 6 []] 1,.box (.ro false 68 z0),.box (.int .i64 z1),.box (.agg [.agg [.int .i64 z2,.arr 5 32 z3,.arr 5 32 z4],.arr 5 32 z5]),.box (.bool z6),.box (.int .i64 z7),.box (.agg [.agg [.int .i64 z8,.arr 5 32 z9,.arr 5 32 z10],.arr 5 32 z11])]) (fun z0 z1 z2 z3 z4 z5 z6 z7 z8 z9 z10 z11=>K (.tup []) [.lp 29 14 [7,8,9,10,14] [.ptr 2 [],.ptr 3 [],.ptr 4 [],.ptr 5 [],.ptr 6 []] 0,.box (.ro false 68 z0),.box (.int .i64 z1),.box (.agg [.agg [.int .i64 z2,.arr 5 32 z3,.arr 5 32 z4],.arr 5 32 z5]),.box (.bool z6),.box (.int .i64 z7),.box (.agg [.agg [.int .i64 z8,.arr 5 32 z9,.arr 5 32 z10],.arr 5 32 z11])])
def J70(g:((List S_api_Signed)->Int->Int->(List Int)->(List Int)->(List Int)->Bool->Int->Int->(List Int)->(List Int)->(List Int)->Prop)->((List S_api_Signed)->Int->Int->(List Int)->(List Int)->(List Int)->Bool->Int->Int->(List Int)->(List Int)->(List Int)->Prop)->Prop)(K:Kt PU):Prop:=g (fun z0 z1 z2 z3 z4 z5 z6 z7 z8 z9 z10 z11=>K (.tup []) [.lp 29 14 [7,8,9,10,14] [.ptr 2 [],.ptr 3 [],.ptr 4 [],.ptr 5 [],.ptr 6 []] 1,.box (.ro true 68 z0),.box (.int .i64 z1),.box (.agg [.agg [.int .i64 z2,.arr 5 32 z3,.arr 5 32 z4],.arr 5 32 z5]),.box (.bool z6),.box (.int .i64 z7),.box (.agg [.agg [.int .i64 z8,.arr 5 32 z9,.arr 5 32 z10],.arr 5 32 z11])]) (fun z0 z1 z2 z3 z4 z5 z6 z7 z8 z9 z10 z11=>K (.tup []) [.lp 29 14 [7,8,9,10,14] [.ptr 2 [],.ptr 3 [],.ptr 4 [],.ptr 5 [],.ptr 6 []] 0,.box (.ro true 68 z0),.box (.int .i64 z1),.box (.agg [.agg [.int .i64 z2,.arr 5 32 z3,.arr 5 32 z4],.arr 5 32 z5]),.box (.bool z6),.box (.int .i64 z7),.box (.agg [.agg [.int .i64 z8,.arr 5 32 z9,.arr 5 32 z10],.arr 5 32 z11])])
def T112(k:Nat):Fn PU:=altT (.yld 0::.ptr 1 []::.lp 29 14 [7,8,9,10,14] 5 0::.ptr 2 []::.ptr 3 []::.ptr 4 []::.ptr 5 []::.ptr 6 []::.box::.r 68::.box::.i::.box::.agg 2::.agg 3::.i::.arr 5 32::.arr 5 32::.arr 5 32::.box::.bool::.box::.i::.box::.agg 2::.agg 3::.i::.arr 5 32::.arr 5 32::.arr 5 32::[]) (F_slices_Values_api_Signed_api_Signed_1 k) J69<|altT (.yld 0::.ptr 1 []::.lp 29 14 [7,8,9,10,14] 5 0::.ptr 2 []::.ptr 3 []::.ptr 4 []::.ptr 5 []::.ptr 6 []::.box::.t 68::.box::.i::.box::.agg 2::.agg 3::.i::.arr 5 32::.arr 5 32::.arr 5 32::.box::.bool::.box::.i::.box::.agg 2::.agg 3::.i::.arr 5 32::.arr 5 32::.arr 5 32::[]) (F_slices_Values_api_Signed_api_Signed_1 k) J70<|fN
def J71(g:(Int->(List Int)->(List Int)->(List Int)->Bool->Int->Prop)->Prop)(K:Kt PU):Prop:=g (fun z0 z1 z2 z3 z4 z5=>K (.tup [.agg [.agg [.int .i64 z0,.arr 5 32 z1,.arr 5 32 z2],.arr 5 32 z3],.bool z4,.int .i64 z5]) [])
def T29(k:Nat):Fn PU:=altT [.str,.agg 4,.i,.r 40,.r 45,.r 47,.r 68,.i] (F_signer_Sign k) J71<|altT [.str,.agg 4,.i,.t 40,.t 45,.t 47,.r 68,.i] (F_signer_Sign k) J71<|altT [.str,.agg 4,.i,.t 40,.t 45,.t 47,.t 68,.i] (F_signer_Sign k) J71<|fN
def T70(k:Nat):Fn PU:=altT [.str] (F_r09_Key k) J0<|fN
def T71(k:Nat):Fn PU:=altT [.t 68] (F_r19_rises k) J0<|fN
def T114(k:Nat):Fn PU:=altT [.t 5,.t 5] (F_r03_Mac k) J15<|fN
def T72(k:Nat):Fn PU:=altT [.str,.agg 3,.i,.arr 5 32,.arr 5 32] (F_r09_Sign k) J65<|fN
def T30(k:Nat):Fn PU:=altT [.str,.agg 4,.i,.t 40,.t 45,.t 47,.t 68,.i] (F_r19_Sign k) J71<|fN
def T73(k:Nat):Fn PU:=altT [] (F_l19_one k) J1<|fN
def T31(k:Nat):Fn PU:=altT [] (F_l19_signs k) J0<|fN
def T32(k:Nat):Fn PU:=altT [.r 68,.t 68] (F_r19_Same k) J0<|fN
def T8(k:Nat):Fn PU:=altT [.str,.agg 4,.i,.r 40,.r 45,.r 47,.r 68,.i] (F_l19_SignerSigns k) J0<|fN
def D33_5(k:Nat):Cfn PU:=altC 0 [.ptr 0 [],.i,.i,.box,.agg 4,.i,.r 40,.r 45,.r 47] (C_r08_BigDirectory_5 k) J0<|cN
def D13_3(k:Nat):Cfn PU:=altC 0 (.ptr 0 []::.ptr 1 []::.ptr 2 []::.i::.box::.agg 4::.i::.r 40::.r 45::.r 47::.box::.agg 4::.i::.own 3::.own 4::.own 5::.box::.agg 4::.i::.own 6::.own 7::.own 8::.lst 40::.lst 45::.lst 47::.lst 40::.lst 45::.lst 47::[]) (C_r08_OwnDirectory_3 k) J1<|cN
def D92_3(k:Nat):Cfn PU:=altC 0 [.ptr 0 [],.bool,.i,.box,.agg 3,.i,.i,.str] (C_version_may_3 k) J0<|cN
def D51_3(k:Nat):Cfn PU:=altC 0 [.r 43,.bool,.i] (C_version_Check_3 k) J3<|altC 0 [.t 43,.bool,.i] (C_version_Check_3 k) J3<|cN
def D51_4(k:Nat):Cfn PU:=altC 0 [.r 43,.bool,.i] (C_version_Check_4 k) J3<|altC 0 [.t 43,.bool,.i] (C_version_Check_4 k) J3<|cN
def D196_0(k:Nat):Cfn PU:=altC 3 [.yld 0,.ptr 1 [],.lp 154 5 [6] 1 0,.ptr 2 [],.box,.i,.box,.clip false 5] (C_octet_groups_1_0 k) J7<|altC 3 [.yld 0,.ptr 1 [],.lp 154 5 [6] 1 0,.ptr 2 [],.box,.i,.box,.own 3,.lst 5] (C_octet_groups_1_0_1 k) J7<|altC 3 [.yld 0,.ptr 1 [],.lp 154 5 [6] 1 0,.ptr 2 [],.box,.i,.box,.clip true 5] (C_octet_groups_1_0 k) J7<|cN
def D196_1(k:Nat):Cfn PU:=altC 3 [.yld 0,.ptr 1 [],.lp 154 5 [6] 1 0,.ptr 2 [],.box,.i,.box,.clip false 5] (C_octet_groups_1_1 k) J7<|altC 3 [.yld 0,.ptr 1 [],.lp 154 5 [6] 1 0,.ptr 2 [],.box,.i,.box,.own 3,.lst 5] (C_octet_groups_1_1_1 k) J7<|altC 3 [.yld 0,.ptr 1 [],.lp 154 5 [6] 1 0,.ptr 2 [],.box,.i,.box,.clip true 5] (C_octet_groups_1_1 k) J7<|cN
def D175_2(k:Nat):Cfn PU:=altC 1 [.ptr 0 [],.ptr 1 [],.i,.box,.agg 3,.arr 189 8,.arr 5 64,.i,.box,.arr 189 64] (C_sha_Hash_mix_2 k) J12<|cN
def D175_11(k:Nat):Cfn PU:=altC 1 [.ptr 0 [],.ptr 1 [],.i,.box,.agg 3,.arr 189 8,.arr 5 64,.i,.box,.arr 189 64] (C_sha_Hash_mix_11 k) J12<|cN
def D175_14(k:Nat):Cfn PU:=altC 1 [.ptr 0 [],.int .u32,.int .u32,.int .u32,.int .u32,.int .u32,.int .u32,.int .u32,.int .u32,.arr 189 64,.i,.box,.agg 3,.arr 189 8,.arr 5 64,.i] (C_sha_Hash_mix_14 k) J12<|cN
def D175_23(k:Nat):Cfn PU:=altC 1 [.ptr 0 [],.arr 189 8,.i,.box,.agg 3,.arr 189 8,.arr 5 64,.i] (C_sha_Hash_mix_23 k) J12<|cN
def D139_3(k:Nat):Cfn PU:=altC 1 [.ptr 0 [],.t 5,.box,.agg 3,.arr 189 8,.arr 5 64,.i] (C_sha_Hash_Write_3 k) J13<|altC 1 [.ptr 0 [],.r 5,.box,.agg 3,.arr 189 8,.arr 5 64,.i] (C_sha_Hash_Write_3 k) J13<|cN
def D140_9(k:Nat):Cfn PU:=altC 1 [.ptr 0 [],.ptr 1 [],.ptr 2 [],.ptr 3 [],.ptr 4 [],.i,.i,.box,.agg 3,.arr 189 8,.arr 5 64,.i,.box,.arr 5 32,.box,.arr 5 32,.box,.agg 3,.arr 189 8,.arr 5 64,.i,.box,.arr 5 72] (C_sha_Hash_Sum_9 k) J14<|cN
def D140_15(k:Nat):Cfn PU:=altC 1 [.ptr 1 [],.ptr 2 [],.ptr 3 [],.i,.box,.agg 3,.arr 189 8,.arr 5 64,.i,.box,.arr 5 32,.box,.arr 5 32,.box,.agg 3,.arr 189 8,.arr 5 64,.i] (C_sha_Hash_Sum_15 k) J14<|cN
def D19_2(k:Nat):Cfn PU:=altC 0 [.ptr 0 [],.bool,.box,.agg 4,.i,.r 40,.r 45,.r 47] (C_directory_Check_2 k) J3<|altC 0 [.ptr 0 [],.bool,.box,.agg 4,.i,.t 40,.t 45,.t 47] (C_directory_Check_2 k) J3<|cN
def D19_6(k:Nat):Cfn PU:=altC 0 [.ptr 0 [],.bool,.str,.r 40,.i,.i,.box,.agg 4,.i,.r 40,.r 45,.r 47] (C_directory_Check_6 k) J3<|altC 0 [.ptr 0 [],.bool,.str,.t 40,.i,.i,.box,.agg 4,.i,.t 40,.t 45,.t 47] (C_directory_Check_6 k) J3<|cN
def D19_9(k:Nat):Cfn PU:=altC 0 [.ptr 0 [],.bool,.ptr 1 [],.r 40,.i,.i,.box,.agg 4,.i,.r 40,.r 45,.r 47,.box,.agg 2,.str,.r 43] (C_directory_Check_9 k) J3<|altC 0 [.ptr 0 [],.bool,.ptr 1 [],.t 40,.i,.i,.box,.agg 4,.i,.t 40,.t 45,.t 47,.box,.agg 2,.str,.r 43] (C_directory_Check_9 k) J3<|cN
def D19_10(k:Nat):Cfn PU:=altC 0 [.ptr 0 [],.bool,.str,.r 40,.i,.i,.box,.agg 4,.i,.r 40,.r 45,.r 47] (C_directory_Check_10 k) J3<|altC 0 [.ptr 0 [],.bool,.str,.t 40,.i,.i,.box,.agg 4,.i,.t 40,.t 45,.t 47] (C_directory_Check_10 k) J3<|cN
def D19_12(k:Nat):Cfn PU:=altC 0 [.ptr 0 [],.bool,.r 45,.i,.i,.box,.agg 4,.i,.r 40,.r 45,.r 47] (C_directory_Check_12 k) J3<|altC 0 [.ptr 0 [],.bool,.t 45,.i,.i,.box,.agg 4,.i,.t 40,.t 45,.t 47] (C_directory_Check_12 k) J3<|cN
def D19_15(k:Nat):Cfn PU:=altC 0 [.ptr 0 [],.bool,.r 45,.i,.i,.box,.agg 4,.i,.r 40,.r 45,.r 47] (C_directory_Check_15 k) J3<|altC 0 [.ptr 0 [],.bool,.t 45,.i,.i,.box,.agg 4,.i,.t 40,.t 45,.t 47] (C_directory_Check_15 k) J3<|cN
def D19_18(k:Nat):Cfn PU:=altC 0 [.ptr 0 [],.bool,.i,.r 47,.i,.i,.box,.agg 4,.i,.r 40,.r 45,.r 47] (C_directory_Check_18 k) J3<|altC 0 [.ptr 0 [],.bool,.i,.t 47,.i,.i,.box,.agg 4,.i,.t 40,.t 45,.t 47] (C_directory_Check_18 k) J3<|cN
def D19_21(k:Nat):Cfn PU:=altC 0 [.ptr 0 [],.bool,.ptr 1 [],.r 47,.i,.i,.box,.agg 4,.i,.r 40,.r 45,.r 47,.box,.agg 4,.i,.i,.i,.i] (C_directory_Check_21 k) J3<|altC 0 [.ptr 0 [],.bool,.ptr 1 [],.t 47,.i,.i,.box,.agg 4,.i,.t 40,.t 45,.t 47,.box,.agg 4,.i,.i,.i,.i] (C_directory_Check_21 k) J3<|cN
def D19_22(k:Nat):Cfn PU:=altC 0 [.ptr 0 [],.bool,.i,.r 47,.i,.i,.box,.agg 4,.i,.r 40,.r 45,.r 47] (C_directory_Check_22 k) J3<|altC 0 [.ptr 0 [],.bool,.i,.t 47,.i,.i,.box,.agg 4,.i,.t 40,.t 45,.t 47] (C_directory_Check_22 k) J3<|cN
def D100_2(k:Nat):Cfn PU:=altC 1 [.r 43,.clo 101 1,.ptr 0 [],.i,.i,.box,.i] (C_slices_IndexFunc_api_Version_api_Version_2 k) J18<|altC 1 [.t 43,.clo 101 1,.ptr 0 [],.i,.i,.box,.i] (C_slices_IndexFunc_api_Version_api_Version_2 k) J18<|cN
def D137_8(k:Nat):Cfn PU:=altC 0 [.ptr 0 [],.clo 1000173 1,.ptr 0 [],.t 43,.i,.i,.box,.agg 1,.own 1,.lst 5] (C_version_Put_8 k) J8<|cN
def D57_3(k:Nat):Cfn PU:=altC 1 [.i,.own 1,.r 40,.i,.i,.box,.agg 1,.agg 4,.i,.r 40,.r 45,.r 47,.lst 140] (C_directory_work_leaves_3 k) J21<|altC 4 [.i,.own 4,.own 1,.i,.i,.box,.agg 1,.agg 4,.i,.own 1,.own 2,.own 3,.lst 40,.lst 45,.lst 47,.lst 140] (C_directory_work_leaves_3_1 k) J22<|altC 1 [.i,.own 1,.t 40,.i,.i,.box,.agg 1,.agg 4,.i,.t 40,.t 45,.t 47,.lst 140] (C_directory_work_leaves_3 k) J23<|cN
def D187_2(k:Nat):Cfn PU:=altC 0 [.t 5,.t 5,.t 5,.i,.i] (C_slices_Compare_byte_byte_2 k) J3<|cN
def D167_4(k:Nat):Cfn PU:=altC 0 [.own 0,.i,.i,.lst 140] (C_smt_twice_4 k) J0<|cN
def D168_5(k:Nat):Cfn PU:=altC 1 [.ptr 1 [],.ptr 2 [],.tr 140 [],.i,.box,.agg 3,.i,.i,.tr 140 [],.box,.arr 5 32,.box,.arr 5 32] (C_smt_Tree_Get_5 k) J32<|cN
def D168_11(k:Nat):Cfn PU:=altC 1 [.ptr 1 [],.box,.agg 3,.i,.i,.tr 140 [],.box,.arr 5 32] (C_smt_Tree_Get_11 k) J32<|cN
def D169_3(k:Nat):Cfn PU:=altC 0 [.tr 140 [],.i,.ptr 0 [],.box,.agg 2,.arr 5 32,.arr 5 32] (C_smt_knot_with_3 k) J33<|cN
def D169_8(k:Nat):Cfn PU:=altC 0 [.ptr 0 [],.i,.ptr 1 [],.box,.agg 4,.agg 2,.gh,.arr 5 32,.agg 2,.arr 5 32,.arr 5 32,.tr 140 [],.tr 140 [],.box,.agg 2,.arr 5 32,.arr 5 32] (C_smt_knot_with_8 k) J33<|altC 0 [.tr 140 [],.i,.ptr 0 [],.box,.agg 2,.arr 5 32,.arr 5 32] (C_smt_knot_with_8_1 k) J33<|cN
def D169_9(k:Nat):Cfn PU:=altC 0 [.i,.ptr 0 [],.ptr 1 [],.box,.agg 2,.arr 5 32,.arr 5 32,.box,.agg 4,.agg 2,.gh,.arr 5 32,.agg 2,.arr 5 32,.arr 5 32,.tr 140 [],.tr 140 []] (C_smt_knot_with_9 k) J33<|cN
def D129_9(k:Nat):Cfn PU:=altC 1 [.ptr 0 [],.tr 140 [],.i,.t 140,.i,.i,.box,.agg 3,.i,.i,.tr 140 []] (C_smt_Tree_Set_9 k) J25<|cN
def D192_4(k:Nat):Cfn PU:=altC 0 [.ptr 0 [],.ptr 1 [],.box,.arr 5 32,.box,.arr 5 32] (C_smt_short_4 k) J15<|cN
def D172_4(k:Nat):Cfn PU:=altC 0 [.i,.ptr 0 [],.ptr 1 [],.t 29,.i,.i,.box,.arr 5 32,.box,.agg 3,.arr 189 8,.arr 5 64,.i] (C_smt_summed_4 k) J15<|altC 0 [.i,.ptr 0 [],.ptr 1 [],.r 29,.i,.i,.box,.arr 5 32,.box,.agg 3,.arr 189 8,.arr 5 64,.i] (C_smt_summed_4 k) J15<|cN
def D94_2(k:Nat):Cfn PU:=altC 0 [.t 140,.ptr 0 [],.nilp,.i,.box,.arr 5 32] (C_smt_Root_2 k) J16<|altC 0 [.t 140,.ptr 0 [],.ptr 1 [],.i,.box,.arr 5 32,.box,.agg 3,.i,.i,.tr 140 []] (C_smt_Root_2_1 k) J16<|cN
def D94_3(k:Nat):Cfn PU:=altC 0 [.ptr 0 [],.i,.box,.arr 5 32] (C_smt_Root_3 k) J16<|cN
def D94_4(k:Nat):Cfn PU:=altC 0 [.t 140,.ptr 0 [],.nilp,.box,.arr 5 32] (C_smt_Root_4 k) J16<|altC 0 [.t 140,.ptr 0 [],.ptr 1 [],.box,.arr 5 32,.box,.agg 3,.i,.i,.tr 140 []] (C_smt_Root_4_1 k) J16<|cN
def D94_5(k:Nat):Cfn PU:=altC 0 [.ptr 0 [],.nilp,.i,.box,.arr 5 32] (C_smt_Root_5 k) J16<|altC 0 [.ptr 0 [],.ptr 1 [],.i,.box,.arr 5 32,.box,.agg 3,.i,.i,.tr 140 []] (C_smt_Root_5_1 k) J16<|cN
def D94_6(k:Nat):Cfn PU:=altC 0 [.ptr 0 [],.i,.box,.arr 5 32] (C_smt_Root_6 k) J16<|cN
def D109_3(k:Nat):Cfn PU:=altC 0 [.r 43,.ptr 0 [],.i,.box,.agg 3,.i,.i,.str] (C_r07_Is_3 k) J0<|altC 0 [.t 43,.ptr 0 [],.i,.box,.agg 3,.i,.i,.str] (C_r07_Is_3 k) J0<|cN
def D86_4(k:Nat):Cfn PU:=altC 0 [.t 40,.i,.i] (C_r10_users_4 k) J0<|cN
def D149_4(k:Nat):Cfn PU:=altC 0 [.t 5,.own 0,.lst 5] (C_r02_Padded_4 k) J9<|cN
def D149_8(k:Nat):Cfn PU:=altC 0 [.own 0,.int .u64,.i,.lst 5] (C_r02_Padded_8 k) J9<|cN
def D151_3(k:Nat):Cfn PU:=altC 0 [.t 5,.ptr 0 [],.ptr 1 [],.ptr 2 [],.i,.box,.arr 189 8,.box,.arr 189 8,.box,.arr 189 64] (C_r02_block_3 k) J38<|cN
def D151_7(k:Nat):Cfn PU:=altC 0 [.ptr 0 [],.ptr 1 [],.ptr 2 [],.i,.box,.arr 189 8,.box,.arr 189 8,.box,.arr 189 64] (C_r02_block_7 k) J38<|cN
def D151_14(k:Nat):Cfn PU:=altC 0 [.ptr 0 [],.ptr 1 [],.ptr 2 [],.ptr 3 [],.i,.box,.arr 189 8,.box,.arr 189 8,.box,.arr 189 64,.box,.arr 189 8] (C_r02_block_14 k) J38<|cN
def D151_22(k:Nat):Cfn PU:=altC 0 [.ptr 0 [],.ptr 1 [],.ptr 2 [],.i,.box,.arr 189 8,.box,.arr 189 8,.box,.arr 189 8] (C_r02_block_22 k) J38<|cN
def D108_4(k:Nat):Cfn PU:=altC 0 [.ptr 0 [],.own 1,.ptr 2 [],.i,.box,.arr 5 32,.lst 5,.box,.arr 189 8] (C_r02_Sum_4 k) J15<|cN
def D108_9(k:Nat):Cfn PU:=altC 0 [.ptr 0 [],.ptr 1 [],.ptr 2 [],.i,.box,.arr 5 32,.box,.arr 189 8,.box,.arr 5 32] (C_r02_Sum_9 k) J15<|cN
def D87_4(k:Nat):Cfn PU:=altC 0 [.t 45,.i] (C_r10_heads_4 k) J0<|cN
def D41_4(k:Nat):Cfn PU:=altC 0 [.ptr 0 [],.i,.box,.agg 4,.i,.t 40,.t 45,.t 47] (C_r10_Right_4 k) J0<|cN
def D65_5(k:Nat):Cfn PU:=altC 0 [.r 43,.i,.own 0,.i,.lst 43] (C_r07_At_5 k) J19<|altC 0 [.t 43,.i,.own 0,.i,.lst 43] (C_r07_At_5 k) J19<|cN
def D180_3(k:Nat):Cfn PU:=altC 0 [.t 43,.own 0,.i,.lst 5] (C_r07_Bytes_3 k) J9<|cN
def D63_3(k:Nat):Cfn PU:=altC 0 [.i,.ptr 0 [],.own 1,.i,.box,.agg 4,.i,.t 40,.t 45,.t 47,.lst 140] (C_r10_Leaves_3 k) J27<|cN
def D125_2(k:Nat):Cfn PU:=altC 0 [.t 140,.i] (C_r05_Twice_2 k) J0<|cN
def D125_5(k:Nat):Cfn PU:=altC 0 [.t 140,.i,.i] (C_r05_Twice_5 k) J0<|cN
def D177_6(k:Nat):Cfn PU:=altC 0 [.i,.ptr 0 [],.ptr 1 [],.ptr 2 [],.i,.box,.arr 5 32,.box,.arr 5 32,.box,.arr 5 32] (C_r05_Short_6 k) J16<|cN
def D144_3(k:Nat):Cfn PU:=altC 0 [.i,.i,.i] (C_r04_weight_3 k) J3<|cN
def D105_3(k:Nat):Cfn PU:=altC 0 [.t 140,.i,.i,.own 0,.i,.lst 140] (C_r05_Half_3 k) J27<|cN
def D105_4(k:Nat):Cfn PU:=altC 0 [.t 140,.i,.i,.own 0,.i,.lst 140] (C_r05_Half_4 k) J27<|cN
def D134_2(k:Nat):Cfn PU:=altC 1 [.t 140,.clo 135 1,.ptr 0 [],.i,.i,.box,.i] (C_slices_IndexFunc_api_Leaf_api_Leaf_2 k) J18<|cN
def D97_11(k:Nat):Cfn PU:=altC 0 [.i,.ptr 0 [],.ptr 1 [],.own 2,.own 3,.t 140,.i,.i,.box,.i,.box,.arr 5 32,.lst 140,.lst 140] (C_proof_at_11 k) J15<|cN
def D97_16(k:Nat):Cfn PU:=altC 0 [.i,.ptr 0 [],.ptr 1 [],.own 2,.own 3,.t 140,.i,.i,.box,.i,.box,.arr 5 32,.lst 140,.lst 140] (C_proof_at_16 k) J15<|cN
def D56_6(k:Nat):Cfn PU:=altC 0 [.i,.ptr 0 [],.ptr 1 [],.ptr 2 [],.own 3,.i,.box,.arr 5 32,.box,.agg 2,.bool,.arr 5 32,.box,.agg 4,.own 4,.bool,.arr 5 32,.arr 5 32,.lst 140,.lst 29] (C_proof_Make_6 k) J39<|cN
def D56_10(k:Nat):Cfn PU:=altC 0 (.i::.ptr 0 []::.ptr 1 []::.ptr 2 []::.i::.own 3::.own 4::.own 5::.i::.i::.box::.arr 5 32::.box::.agg 2::.bool::.arr 5 32::.box::.agg 4::.own 6::.bool::.arr 5 32::.arr 5 32::.lst 140::.lst 140::.lst 140::.lst 29::[]) (C_proof_Make_10 k) J39<|cN
def D56_15(k:Nat):Cfn PU:=altC 0 (.i::.ptr 0 []::.ptr 1 []::.ptr 2 []::.i::.own 3::.own 4::.own 5::.i::.i::.box::.arr 5 32::.box::.agg 2::.bool::.arr 5 32::.box::.agg 4::.own 6::.bool::.arr 5 32::.arr 5 32::.lst 140::.lst 140::.lst 140::.lst 29::[]) (C_proof_Make_15 k) J39<|cN
def D56_22(k:Nat):Cfn PU:=altC 0 [.ptr 0 [],.ptr 1 [],.box,.agg 2,.bool,.arr 5 32,.box,.agg 4,.own 2,.bool,.arr 5 32,.arr 5 32,.lst 29] (C_proof_Make_22 k) J39<|cN
def D141_3(k:Nat):Cfn PU:=altC 0 [.r 40,.str,.clo 142 0,.i,.i,.i] (C_slices_BinarySearchFunc_api_User_api_User_string_3 k) J40<|altC 0 [.t 40,.str,.clo 142 0,.i,.i,.i] (C_slices_BinarySearchFunc_api_User_api_User_string_3 k) J40<|cN
def D103_2(k:Nat):Cfn PU:=altC 0 [.t 140,.ptr 0 [],.ptr 1 [],.i,.box,.arr 5 32,.box,.arr 5 32] (C_r05_Get_2 k) J48<|cN
def D62_9(k:Nat):Cfn PU:=altC 0 (.i::.ptr 0 []::.ptr 1 []::.ptr 2 []::.bool::.ptr 3 []::.ptr 4 []::.t 140::.i::.box::.arr 5 32::.box::.agg 2::.bool::.arr 5 32::.box::.agg 4::.own 5::.bool::.arr 5 32::.arr 5 32::.box::.agg 2::.bool::.arr 5 32::.box::.agg 4::.own 6::.bool::.arr 5 32::.arr 5 32::.lst 29::.lst 29::[]) (C_r06_Make_9 k) J39<|altC 0 (.i::.ptr 0 []::.ptr 1 []::.ptr 2 []::.bool::.ptr 3 []::.ptr 4 []::.own 5::.i::.box::.arr 5 32::.box::.agg 2::.bool::.arr 5 32::.box::.agg 4::.own 6::.bool::.arr 5 32::.arr 5 32::.box::.agg 2::.bool::.arr 5 32::.box::.agg 4::.own 7::.bool::.arr 5 32::.arr 5 32::.lst 140::.lst 29::.lst 29::[]) (C_r06_Make_9_1 k) J39<|cN
def D62_11(k:Nat):Cfn PU:=altC 0 (.i::.ptr 0 []::.ptr 1 []::.ptr 2 []::.bool::.ptr 3 []::.ptr 4 []::.t 140::.i::.box::.arr 5 32::.box::.agg 2::.bool::.arr 5 32::.box::.agg 4::.own 5::.bool::.arr 5 32::.arr 5 32::.box::.agg 2::.bool::.arr 5 32::.box::.agg 4::.own 6::.bool::.arr 5 32::.arr 5 32::.lst 29::.lst 29::[]) (C_r06_Make_11 k) J39<|altC 0 (.i::.ptr 0 []::.ptr 1 []::.ptr 2 []::.bool::.ptr 3 []::.ptr 4 []::.own 5::.i::.box::.arr 5 32::.box::.agg 2::.bool::.arr 5 32::.box::.agg 4::.own 6::.bool::.arr 5 32::.arr 5 32::.box::.agg 2::.bool::.arr 5 32::.box::.agg 4::.own 7::.bool::.arr 5 32::.arr 5 32::.lst 140::.lst 29::.lst 29::[]) (C_r06_Make_11_1 k) J39<|cN
def D62_12(k:Nat):Cfn PU:=altC 0 (.i::.ptr 0 []::.ptr 1 []::.ptr 2 []::.bool::.ptr 3 []::.ptr 4 []::.t 140::.i::.i::.box::.arr 5 32::.box::.agg 2::.bool::.arr 5 32::.box::.agg 4::.own 5::.bool::.arr 5 32::.arr 5 32::.box::.agg 2::.bool::.arr 5 32::.box::.agg 4::.own 6::.bool::.arr 5 32::.arr 5 32::.lst 29::.lst 29::[]) (C_r06_Make_12 k) J39<|altC 0 (.i::.ptr 0 []::.ptr 1 []::.ptr 2 []::.bool::.ptr 3 []::.ptr 4 []::.own 5::.i::.i::.box::.arr 5 32::.box::.agg 2::.bool::.arr 5 32::.box::.agg 4::.own 6::.bool::.arr 5 32::.arr 5 32::.box::.agg 2::.bool::.arr 5 32::.box::.agg 4::.own 7::.bool::.arr 5 32::.arr 5 32::.lst 140::.lst 29::.lst 29::[]) (C_r06_Make_12_1 k) J39<|cN
def D62_13(k:Nat):Cfn PU:=altC 0 (.i::.ptr 0 []::.ptr 1 []::.ptr 2 []::.bool::.ptr 3 []::.ptr 4 []::.t 140::.i::.i::.own 5::.box::.arr 5 32::.box::.agg 2::.bool::.arr 5 32::.box::.agg 4::.own 6::.bool::.arr 5 32::.arr 5 32::.box::.agg 2::.bool::.arr 5 32::.box::.agg 4::.own 7::.bool::.arr 5 32::.arr 5 32::.lst 140::.lst 29::.lst 29::[]) (C_r06_Make_13 k) J39<|altC 0 (.i::.ptr 0 []::.ptr 1 []::.ptr 2 []::.bool::.ptr 3 []::.ptr 4 []::.own 5::.i::.i::.own 6::.box::.arr 5 32::.box::.agg 2::.bool::.arr 5 32::.box::.agg 4::.own 7::.bool::.arr 5 32::.arr 5 32::.box::.agg 2::.bool::.arr 5 32::.box::.agg 4::.own 8::.bool::.arr 5 32::.arr 5 32::.lst 140::.lst 140::.lst 29::.lst 29::[]) (C_r06_Make_13_1 k) J39<|cN
def D62_15(k:Nat):Cfn PU:=altC 0 (.ptr 0 []::.ptr 1 []::.bool::.ptr 2 []::.ptr 3 []::.own 4::.box::.agg 2::.bool::.arr 5 32::.box::.agg 4::.own 5::.bool::.arr 5 32::.arr 5 32::.box::.agg 2::.bool::.arr 5 32::.box::.agg 4::.own 6::.bool::.arr 5 32::.arr 5 32::.lst 140::.lst 29::.lst 29::[]) (C_r06_Make_15 k) J39<|altC 0 (.ptr 0 []::.ptr 1 []::.bool::.ptr 2 []::.ptr 3 []::.t 140::.box::.agg 2::.bool::.arr 5 32::.box::.agg 4::.own 4::.bool::.arr 5 32::.arr 5 32::.box::.agg 2::.bool::.arr 5 32::.box::.agg 4::.own 5::.bool::.arr 5 32::.arr 5 32::.lst 29::.lst 29::[]) (C_r06_Make_15_1 k) J39<|cN
def D62_17(k:Nat):Cfn PU:=altC 0 (.ptr 0 []::.ptr 1 []::.ptr 2 []::.ptr 3 []::.own 4::.box::.agg 2::.bool::.arr 5 32::.box::.agg 4::.own 5::.bool::.arr 5 32::.arr 5 32::.box::.agg 2::.bool::.arr 5 32::.box::.agg 4::.own 6::.bool::.arr 5 32::.arr 5 32::.lst 140::.lst 29::.lst 29::[]) (C_r06_Make_17 k) J39<|altC 0 (.ptr 0 []::.ptr 1 []::.ptr 2 []::.ptr 3 []::.t 140::.box::.agg 2::.bool::.arr 5 32::.box::.agg 4::.own 4::.bool::.arr 5 32::.arr 5 32::.box::.agg 2::.bool::.arr 5 32::.box::.agg 4::.own 5::.bool::.arr 5 32::.arr 5 32::.lst 29::.lst 29::[]) (C_r06_Make_17_1 k) J39<|cN
def D62_18(k:Nat):Cfn PU:=altC 0 (.ptr 0 []::.ptr 1 []::.ptr 2 []::.ptr 3 []::.own 4::.box::.agg 2::.bool::.arr 5 32::.box::.agg 4::.own 5::.bool::.arr 5 32::.arr 5 32::.box::.agg 2::.bool::.arr 5 32::.box::.agg 4::.own 6::.bool::.arr 5 32::.arr 5 32::.lst 140::.lst 29::.lst 29::[]) (C_r06_Make_18 k) J39<|altC 0 (.ptr 0 []::.ptr 1 []::.ptr 2 []::.ptr 3 []::.t 140::.box::.agg 2::.bool::.arr 5 32::.box::.agg 4::.own 4::.bool::.arr 5 32::.arr 5 32::.box::.agg 2::.bool::.arr 5 32::.box::.agg 4::.own 5::.bool::.arr 5 32::.arr 5 32::.lst 29::.lst 29::[]) (C_r06_Make_18_1 k) J39<|cN
def D62_19(k:Nat):Cfn PU:=altC 0 (.ptr 0 []::.ptr 1 []::.ptr 2 []::.ptr 3 []::.box::.agg 2::.bool::.arr 5 32::.box::.agg 4::.own 4::.bool::.arr 5 32::.arr 5 32::.box::.agg 2::.bool::.arr 5 32::.box::.agg 4::.own 5::.bool::.arr 5 32::.arr 5 32::.lst 29::.lst 29::[]) (C_r06_Make_19 k) J39<|cN
def D66_2(k:Nat):Cfn PU:=altC 0 [.str,.ptr 0 [],.i,.box,.agg 4,.i,.t 40,.t 45,.t 47] (C_r10_History_2 k) J49<|cN
def D25_4(k:Nat):Cfn PU:=altC 0 [.t 43,.t 43,.i] (C_r08_SameVersions_4 k) J0<|altC 0 [.r 43,.r 43,.i] (C_r08_SameVersions_4 k) J0<|cN
def D26_4(k:Nat):Cfn PU:=altC 0 [.ptr 0 [],.ptr 1 [],.i,.box,.agg 4,.t 29,.bool,.arr 5 32,.arr 5 32,.box,.agg 4,.t 29,.bool,.arr 5 32,.arr 5 32] (C_r06_Same_4 k) J0<|cN
def D20_8(k:Nat):Cfn PU:=altC 0 [.ptr 0 [],.ptr 1 [],.box,.agg 7,.i,.i,.i,.str,.str,.i,.arr 5 32,.box,.agg 7,.i,.i,.i,.str,.str,.i,.arr 5 32] (C_directory_May_8 k) J0<|cN
def D20_12(k:Nat):Cfn PU:=altC 0 [.ptr 0 [],.ptr 1 [],.bool,.box,.agg 7,.i,.i,.i,.str,.str,.i,.arr 5 32,.box,.agg 7,.i,.i,.i,.str,.str,.i,.arr 5 32] (C_directory_May_12 k) J0<|cN
def D20_13(k:Nat):Cfn PU:=altC 0 [.ptr 0 [],.ptr 1 [],.i,.box,.agg 7,.i,.i,.i,.str,.str,.i,.arr 5 32,.box,.agg 7,.i,.i,.i,.str,.str,.i,.arr 5 32] (C_directory_May_13 k) J0<|cN
def D20_16(k:Nat):Cfn PU:=altC 0 [.ptr 0 [],.ptr 1 [],.box,.agg 7,.i,.i,.i,.str,.str,.i,.arr 5 32,.box,.agg 7,.i,.i,.i,.str,.str,.i,.arr 5 32] (C_directory_May_16 k) J0<|cN
def D20_17(k:Nat):Cfn PU:=altC 0 [.ptr 0 [],.ptr 1 [],.box,.agg 7,.i,.i,.i,.str,.str,.i,.arr 5 32,.box,.agg 7,.i,.i,.i,.str,.str,.i,.arr 5 32] (C_directory_May_17 k) J0<|cN
def D38_3(k:Nat):Cfn PU:=altC 0 [.ptr 0 [],.own 1,.i,.i,.box,.agg 4,.i,.own 1,.r 45,.r 47,.lst 40] (C_directory_begin_3 k) J54<|altC 0 [.ptr 0 [],.own 1,.i,.i,.box,.agg 4,.i,.own 1,.t 45,.t 47,.lst 40] (C_directory_begin_3 k) J54<|cN
def D117_3(k:Nat):Cfn PU:=altC 0 [.t 47,.i,.clo 118 0,.i,.i,.i] (C_slices_BinarySearchFunc_api_Session_api_Session_int_3 k) J40<|cN
def D122_8(k:Nat):Cfn PU:=altC 0 [.r 43,.ptr 0 [],.box,.agg 3,.i,.i,.str] (C_version_Next_8 k) J57<|altC 0 [.t 43,.ptr 0 [],.box,.agg 3,.i,.i,.str] (C_version_Next_8 k) J57<|cN
def D85_5(k:Nat):Cfn PU:=altC 4 (.ptr 0 []::.ptr 4 []::.own 5::.i::.box::.agg 1::.agg 4::.i::.own 1::.own 2::.own 3::.lst 40::.lst 45::.lst 47::.box::.agg 7::.i::.i::.i::.str::.str::.i::.arr 5 32::.lst 43::[]) (C_directory_work_add_5 k) J59<|cN
def J72(g:(Int->Int->(List S_api_User)->(List S_api_Head)->(List S_api_Session)->Prop)->(Int->Int->(List S_api_Head)->(List S_api_User)->(List S_api_Session)->Prop)->Prop)(K:Kt PU):Prop:=g (fun z0 z1 z2 z3 z4=>K (.int .i64 z0) [.box (.agg [.agg [.int .i64 z1,.own 1,.own 2,.own 4]]),.lst 40 z2,.lst 45 z3,.dead,.lst 47 z4]) (fun z0 z1 z2 z3 z4=>K (.int .i64 z0) [.box (.agg [.agg [.int .i64 z1,.own 4,.own 2,.own 5]]),.dead,.lst 45 z2,.dead,.lst 40 z3,.lst 47 z4])
def D40_8(k:Nat):Cfn PU:=altC 4 [.ptr 0 [],.ptr 4 [],.i,.box,.agg 1,.agg 4,.i,.own 1,.own 2,.own 5,.lst 40,.lst 45,.dead,.box,.agg 7,.i,.i,.i,.str,.str,.i,.arr 5 32,.lst 47] (C_directory_work_request_8 k) J72<|altC 4 [.ptr 0 [],.ptr 4 [],.i,.box,.agg 1,.agg 4,.i,.own 1,.own 2,.own 3,.lst 40,.lst 45,.lst 47,.box,.agg 7,.i,.i,.i,.str,.str,.i,.arr 5 32] (C_directory_work_request_8_1 k) J59<|cN
def D40_9(k:Nat):Cfn PU:=altC 4 [.ptr 0 [],.ptr 4 [],.pel 5 4,.box,.agg 1,.agg 4,.i,.own 1,.own 2,.own 5,.lst 40,.lst 45,.dead,.box,.agg 7,.i,.i,.i,.str,.str,.i,.arr 5 32,.lst 47] (C_directory_work_request_9 k) J72<|altC 4 [.ptr 0 [],.ptr 4 [],.pel 3 4,.box,.agg 1,.agg 4,.i,.own 1,.own 2,.own 3,.lst 40,.lst 45,.lst 47,.box,.agg 7,.i,.i,.i,.str,.str,.i,.arr 5 32] (C_directory_work_request_9_1 k) J59<|cN
def D40_10(k:Nat):Cfn PU:=altC 4 [.ptr 0 [],.ptr 4 [],.pel 5 4,.box,.agg 1,.agg 4,.i,.own 1,.own 2,.own 5,.lst 40,.lst 45,.dead,.box,.agg 7,.i,.i,.i,.str,.str,.i,.arr 5 32,.lst 47] (C_directory_work_request_10 k) J72<|altC 4 [.ptr 0 [],.ptr 4 [],.pel 3 4,.box,.agg 1,.agg 4,.i,.own 1,.own 2,.own 3,.lst 40,.lst 45,.lst 47,.box,.agg 7,.i,.i,.i,.str,.str,.i,.arr 5 32] (C_directory_work_request_10_1 k) J59<|cN
def J73(g:(Int->Int->(List S_api_User)->(List S_api_Head)->(List S_api_Session)->Prop)->Prop)(K:Kt PU):Prop:=g (fun z0 z1 z2 z3 z4=>K (.int .i64 z0) [.box (.agg [.agg [.int .i64 z1,.own 1,.own 2,.own 4]]),.lst 40 z2,.lst 45 z3,.dead,.lst 47 z4])
def J74(g:(Int->Int->(List S_api_Head)->(List S_api_User)->(List S_api_Session)->Prop)->Prop)(K:Kt PU):Prop:=g (fun z0 z1 z2 z3 z4=>K (.int .i64 z0) [.box (.agg [.agg [.int .i64 z1,.own 4,.own 2,.own 5]]),.dead,.lst 45 z2,.dead,.lst 40 z3,.lst 47 z4])
def J75(g:(Int->Int->(List S_api_User)->(List S_api_Head)->(List S_api_Session)->Prop)->Prop)(K:Kt PU):Prop:=g (fun z0 z1 z2 z3 z4=>K (.int .i64 z0) [.box (.agg [.agg [.int .i64 z1,.own 1,.own 2,.own 3]]),.lst 40 z2,.lst 45 z3,.lst 47 z4])
def J76(g:(Int->Int->(List S_api_Head)->(List S_api_Session)->(List S_api_User)->Prop)->Prop)(K:Kt PU):Prop:=g (fun z0 z1 z2 z3 z4=>K (.int .i64 z0) [.box (.agg [.agg [.int .i64 z1,.own 4,.own 2,.own 3]]),.dead,.lst 45 z2,.lst 47 z3,.lst 40 z4])
def D40_11(k:Nat):Cfn PU:=altC 4 [.box,.agg 1,.agg 4,.i,.own 1,.own 2,.own 4,.lst 40,.lst 45,.dead,.lst 47] (C_directory_work_request_11 k) J73<|altC 4 [.box,.agg 1,.agg 4,.i,.own 4,.own 2,.own 5,.dead,.lst 45,.dead,.lst 40,.lst 47] (C_directory_work_request_11_1 k) J74<|altC 4 [.box,.agg 1,.agg 4,.i,.own 1,.own 2,.own 3,.lst 40,.lst 45,.lst 47] (C_directory_work_request_11 k) J75<|altC 4 [.box,.agg 1,.agg 4,.i,.own 4,.own 2,.own 3,.dead,.lst 45,.lst 47,.lst 40] (C_directory_work_request_11_3 k) J76<|cN
def D14_13(k:Nat):Cfn PU:=altC 0 [.ptr 0 [],.ptr 1 [],.i,.box,.agg 4,.i,.own 2,.own 3,.own 4,.box,.agg 1,.agg 4,.i,.own 5,.own 6,.own 7,.lst 40,.lst 45,.lst 47,.lst 40,.lst 45,.lst 47] (C_directory_Apply_13 k) J61<|cN
def D16_4(k:Nat):Cfn PU:=altC 0 [.ptr 0 [],.ptr 1 [],.i,.box,.agg 4,.i,.r 40,.r 45,.r 47,.box,.agg 4,.i,.t 40,.t 45,.t 47] (C_r08_SameDirectory_4 k) J0<|cN
def D16_9(k:Nat):Cfn PU:=altC 0 [.ptr 0 [],.ptr 1 [],.i,.box,.agg 4,.i,.r 40,.r 45,.r 47,.box,.agg 4,.i,.t 40,.t 45,.t 47] (C_r08_SameDirectory_9 k) J0<|cN
def D16_14(k:Nat):Cfn PU:=altC 0 [.ptr 0 [],.ptr 1 [],.i,.box,.agg 4,.i,.r 40,.r 45,.r 47,.box,.agg 4,.i,.t 40,.t 45,.t 47] (C_r08_SameDirectory_14 k) J0<|cN
def D6_9(k:Nat):Cfn PU:=altC 0 [.ptr 0 [],.ptr 1 [],.own 2,.bool,.box,.agg 4,.i,.r 40,.r 45,.r 47,.box,.agg 4,.i,.own 3,.own 4,.own 5,.lst 43,.lst 40,.lst 45,.lst 47] (C_l10_DirectoryLooks_9 k) J0<|cN
def D6_10(k:Nat):Cfn PU:=altC 0 [.ptr 0 [],.ptr 1 [],.own 2,.bool,.i,.box,.agg 4,.i,.r 40,.r 45,.r 47,.box,.agg 4,.i,.own 3,.own 4,.own 5,.lst 43,.lst 40,.lst 45,.lst 47] (C_l10_DirectoryLooks_10 k) J0<|cN
def D157_2(k:Nat):Cfn PU:=altC 1 [.clo 158 1,.ptr 0 [],.ptr 1 [],.arr 5 64,.i,.box,.int .u8,.box,.arr 5 64] (C_mac_turned_byte_2 k) J63<|cN
def D111_5(k:Nat):Cfn PU:=altC 0 [.bsl 0 [] 5 32,.t 5,.ptr 1 [],.ptr 2 [],.box,.arr 5 32,.box,.arr 5 32,.box,.arr 5 64] (C_mac_Mac_5 k) J15<|altC 0 [.t 5,.t 5,.ptr 0 [],.ptr 1 [],.box,.arr 5 32,.box,.arr 5 64] (C_mac_Mac_5_1 k) J15<|cN
def D111_7(k:Nat):Cfn PU:=altC 0 [.t 5,.ptr 0 [],.clo 156 1,.ptr 1 [],.box,.arr 5 32,.box,.arr 5 64] (C_mac_Mac_7 k) J15<|cN
def D112_1(k:Nat):Cfn PU:=altC 7 (.yld 0::.r 68::.i::.i::.lp 29 14 [7,8,9,10,14] 5 0::.ptr 2 []::.ptr 3 []::.ptr 4 []::.ptr 5 []::.ptr 6 []::.box::.r 68::.box::.i::.box::.agg 2::.agg 3::.i::.arr 5 32::.arr 5 32::.arr 5 32::.box::.bool::.box::.i::.box::.agg 2::.agg 3::.i::.arr 5 32::.arr 5 32::.arr 5 32::[]) (C_slices_Values_api_Signed_api_Signed_1_1 k) J69<|altC 7 (.yld 0::.t 68::.i::.i::.lp 29 14 [7,8,9,10,14] 5 0::.ptr 2 []::.ptr 3 []::.ptr 4 []::.ptr 5 []::.ptr 6 []::.box::.t 68::.box::.i::.box::.agg 2::.agg 3::.i::.arr 5 32::.arr 5 32::.arr 5 32::.box::.bool::.box::.i::.box::.agg 2::.agg 3::.i::.arr 5 32::.arr 5 32::.arr 5 32::[]) (C_slices_Values_api_Signed_api_Signed_1_1 k) J70<|cN
def D29_6(k:Nat):Cfn PU:=altC 0 (.str::.r 68::.ptr 0 []::.ptr 1 []::.ptr 2 []::.ptr 3 []::.ptr 4 []::.bool::.i::.i::.box::.agg 4::.i::.r 40::.r 45::.r 47::.box::.i::.box::.agg 2::.agg 3::.i::.arr 5 32::.arr 5 32::.arr 5 32::.box::.bool::.box::.i::[]) (C_signer_Sign_6 k) J71<|altC 0 (.str::.r 68::.ptr 0 []::.ptr 1 []::.ptr 2 []::.ptr 3 []::.ptr 4 []::.bool::.i::.i::.box::.agg 4::.i::.t 40::.t 45::.t 47::.box::.i::.box::.agg 2::.agg 3::.i::.arr 5 32::.arr 5 32::.arr 5 32::.box::.bool::.box::.i::[]) (C_signer_Sign_6 k) J71<|altC 0 (.str::.t 68::.ptr 0 []::.ptr 1 []::.ptr 2 []::.ptr 3 []::.ptr 4 []::.bool::.i::.i::.box::.agg 4::.i::.t 40::.t 45::.t 47::.box::.i::.box::.agg 2::.agg 3::.i::.arr 5 32::.arr 5 32::.arr 5 32::.box::.bool::.box::.i::[]) (C_signer_Sign_6 k) J71<|cN
def D29_9(k:Nat):Cfn PU:=altC 0 (.str::.r 68::.ptr 0 []::.ptr 1 []::.ptr 2 []::.ptr 3 []::.ptr 4 []::.bool::.i::.i::.box::.agg 4::.i::.r 40::.r 45::.r 47::.box::.i::.box::.agg 2::.agg 3::.i::.arr 5 32::.arr 5 32::.arr 5 32::.box::.bool::.box::.i::[]) (C_signer_Sign_9 k) J71<|altC 0 (.str::.r 68::.ptr 0 []::.ptr 1 []::.ptr 2 []::.ptr 3 []::.ptr 4 []::.bool::.i::.i::.box::.agg 4::.i::.t 40::.t 45::.t 47::.box::.i::.box::.agg 2::.agg 3::.i::.arr 5 32::.arr 5 32::.arr 5 32::.box::.bool::.box::.i::[]) (C_signer_Sign_9 k) J71<|altC 0 (.str::.t 68::.ptr 0 []::.ptr 1 []::.ptr 2 []::.ptr 3 []::.ptr 4 []::.bool::.i::.i::.box::.agg 4::.i::.t 40::.t 45::.t 47::.box::.i::.box::.agg 2::.agg 3::.i::.arr 5 32::.arr 5 32::.arr 5 32::.box::.bool::.box::.i::[]) (C_signer_Sign_9 k) J71<|cN
def D71_2(k:Nat):Cfn PU:=altC 0 [.t 68,.i] (C_r19_rises_2 k) J0<|cN
def D114_6(k:Nat):Cfn PU:=altC 0 [.bsl 0 [] 5 32,.t 5,.ptr 1 [],.ptr 2 [],.i,.box,.arr 5 32,.box,.arr 5 32,.box,.arr 5 64] (C_r03_Mac_6 k) J15<|altC 0 [.t 5,.t 5,.ptr 0 [],.ptr 1 [],.i,.box,.arr 5 32,.box,.arr 5 64] (C_r03_Mac_6_1 k) J15<|cN
def D114_12(k:Nat):Cfn PU:=altC 0 [.t 5,.ptr 0 [],.ptr 1 [],.own 2,.own 3,.i,.box,.arr 5 32,.box,.arr 5 64,.lst 5,.lst 5] (C_r03_Mac_12 k) J15<|cN
def D30_11(k:Nat):Cfn PU:=altC 0 (.t 68::.i::.ptr 0 []::.ptr 1 []::.ptr 2 []::.bool::.i::.box::.agg 2::.agg 3::.i::.arr 5 32::.arr 5 32::.arr 5 32::.box::.agg 2::.agg 3::.i::.arr 5 32::.arr 5 32::.arr 5 32::.box::.agg 2::.agg 3::.i::.arr 5 32::.arr 5 32::.arr 5 32::[]) (C_r19_Sign_11 k) J71<|cN
def D30_12(k:Nat):Cfn PU:=altC 0 (.t 68::.i::.ptr 0 []::.ptr 1 []::.ptr 2 []::.bool::.i::.box::.agg 2::.agg 3::.i::.arr 5 32::.arr 5 32::.arr 5 32::.box::.agg 2::.agg 3::.i::.arr 5 32::.arr 5 32::.arr 5 32::.box::.agg 2::.agg 3::.i::.arr 5 32::.arr 5 32::.arr 5 32::[]) (C_r19_Sign_12 k) J71<|cN
def D32_4(k:Nat):Cfn PU:=altC 0 [.r 68,.t 68,.i] (C_r19_Same_4 k) J0<|cN
def TLs:TL PU:=[(33,T33),(12,T12),(13,T13),(49,T49),(50,T50),(91,T91),(92,T92),(93,T93),(51,T51),(182,T182),(155000005,T154y5),(196,T196),(154,T154),(155,T155),(110,T110),(138,T138),(193,T193),(175,T175),(139,T139),(140,T140),(99,T99),(78,T78),(52,T52),(19,T19),(53,T53),(101,T101),(100,T100),(80,T80),(59,T59),(173,T173),(174,T174),(137,T137),(98,T98),(58,T58),(57,T57),(166,T166),(128,T128),(129,T129),(130,T130),(95,T95),(213,T213),(200,T200),(187,T187),(186,T186),(185,T185),(167,T167),(188,T188),(171,T171),(131,T131),(189,T189),(168,T168),(169,T169),(192,T192),(172,T172),(136,T136),(133,T133),(191,T191),(132,T132),(170,T170),(94,T94),(54,T54),(21,T21),(55,T55),(61,T61),(152,T152),(153,T153),(109,T109),(86,T86),(159,T159),(160,T160),(113,T113),(149,T149),(150,T150),(181,T181),(151,T151),(108,T108),(89,T89),(44,T44),(87,T87),(41,T41),(65,T65),(195,T195),(180,T180),(148,T148),(107,T107),(64,T64),(63,T63),(124,T124),(125,T125),(177,T177),(145,T145),(178,T178),(146,T146),(144,T144),(104,T104),(105,T105),(179,T179),(147,T147),(106,T106),(88,T88),(43,T43),(22,T22),(96,T96),(135,T135),(134,T134),(97,T97),(56,T56),(176,T176),(143,T143),(142,T142),(141,T141),(102,T102),(60,T60),(23,T23),(103,T103),(62,T62),(66,T66),(24,T24),(25,T25),(26,T26),(47,T47),(20,T20),(79,T79),(81,T81),(82,T82),(38,T38),(39,T39),(161,T161),(119,T119),(118,T118),(117,T117),(83,T83),(84,T84),(122,T122),(123,T123),(85,T85),(40,T40),(14,T14),(48,T48),(27,T27),(16,T16),(6,T6),(28,T28),(67,T67),(76,T76),(158,T158),(157,T157),(156,T156),(111,T111),(68,T68),(69,T69),(30000014,T29y14),(112,T112),(29,T29),(70,T70),(71,T71),(114,T114),(72,T72),(30,T30),(73,T73),(31,T31),(32,T32),(8,T8)]
def CLs:CL PU:=[(33,5,D33_5),(13,3,D13_3),(92,3,D92_3),(51,3,D51_3),(51,4,D51_4),(196,0,D196_0),(196,1,D196_1),(175,2,D175_2),(175,11,D175_11),(175,14,D175_14),(175,23,D175_23),(139,3,D139_3),(140,9,D140_9),(140,15,D140_15),(19,2,D19_2),(19,6,D19_6),(19,9,D19_9),(19,10,D19_10),(19,12,D19_12),(19,15,D19_15),(19,18,D19_18),(19,21,D19_21),(19,22,D19_22),(100,2,D100_2),(137,8,D137_8),(57,3,D57_3),(187,2,D187_2),(167,4,D167_4),(168,5,D168_5),(168,11,D168_11),(169,3,D169_3),(169,8,D169_8),(169,9,D169_9),(129,9,D129_9),(192,4,D192_4),(172,4,D172_4),(94,2,D94_2),(94,3,D94_3),(94,4,D94_4),(94,5,D94_5),(94,6,D94_6),(109,3,D109_3),(86,4,D86_4),(149,4,D149_4),(149,8,D149_8),(151,3,D151_3),(151,7,D151_7),(151,14,D151_14),(151,22,D151_22),(108,4,D108_4),(108,9,D108_9),(87,4,D87_4),(41,4,D41_4),(65,5,D65_5),(180,3,D180_3),(63,3,D63_3),(125,2,D125_2),(125,5,D125_5),(177,6,D177_6),(144,3,D144_3),(105,3,D105_3),(105,4,D105_4),(134,2,D134_2),(97,11,D97_11),(97,16,D97_16),(56,6,D56_6),(56,10,D56_10),(56,15,D56_15),(56,22,D56_22),(141,3,D141_3),(103,2,D103_2),(62,9,D62_9),(62,11,D62_11),(62,12,D62_12),(62,13,D62_13),(62,15,D62_15),(62,17,D62_17),(62,18,D62_18),(62,19,D62_19),(66,2,D66_2),(25,4,D25_4),(26,4,D26_4),(20,8,D20_8),(20,12,D20_12),(20,13,D20_13),(20,16,D20_16),(20,17,D20_17),(38,3,D38_3),(117,3,D117_3),(122,8,D122_8),(85,5,D85_5),(40,8,D40_8),(40,9,D40_9),(40,10,D40_10),(40,11,D40_11),(14,13,D14_13),(16,4,D16_4),(16,9,D16_9),(16,14,D16_14),(6,9,D6_9),(6,10,D6_10),(157,2,D157_2),(111,5,D111_5),(111,7,D111_7),(112,1,D112_1),(29,6,D29_6),(29,9,D29_9),(71,2,D71_2),(114,6,D114_6),(114,12,D114_12),(30,11,D30_11),(30,12,D30_12),(32,4,D32_4)]
def PT(k:Nat):Tab PU:=tabT TLs k
def PC(k:Nat):Cut PU:=tabC CLs k
abbrev GT(f:Nat)(F:Nat->Fn PU):Prop:=TG PE TLs CLs f F
abbrev GC(f id:Nat)(F:Nat->Cfn PU):Prop:=CO PE TLs CLs f id F
theorem hrow185(k:Nat)(l:List S_api_Leaf)(K:A PU->List (AObj PU)->Prop)(h:(100<=k/\List.length l<4611686018427387904)/\∀ l9:(List S_api_Leaf),List.Perm l9 l/\SortedL l9->K (.tup []) [.lst 140 l9])(TS:TSound PE (PT k)):RowSound PE 185 [.own 0,.clo 186 []] [.lst 140 l] K:=
 hand185 l K TS h.1.2 h.2 fun a b K' hab hK=>(Hold.mp (p:=Hold (F_smt_twice_1 k a.f0 a.f1 b.f0 b.f1 (fun z0=>K' (.int .i64 z0) []))) (by kernel_rfl) ⟨cmp_s k hab.1 hab.2 (by have:=h.1.1;omega) hK⟩).out
theorem hrow170(k:Nat)(x:KT S_api_Leaf)(w:Int)(K:A PU->List (AObj PU)->Prop)(h:(digBound x<=k/\(0<=w/\w<=32)/\allG w x)/\K (.arr 5 32 (digT w x)) [])(TS:TSound PE (PT k)):RowSound PE 170 [.tr 140 x [],.int .i64 w] [] K:=
 hand170 x w K TS h.1.2.1 h.1.2.2 h.2
  (fun K' hK=>(Hold.mp (p:=Hold (F_smt_Empty k w (fun z0=>K' (.arr 5 32 z0) []))) (by kernel_rfl) ⟨Empty_i k h.1.2.1 (by have:=h.1.1;unfold digBound at this;omega) hK⟩).out)
  (fun g v l r dl K' e hK=>(Hold.mp (p:=Hold (F_smt_knot_digest_1 k w 0 1 0 dl v.f0 v.f1 l r (fun z0 z1 z2 z3 z4 z5 z6 z7 z8=>K' (.tup []) [.box (.ptr 2 []),.box (.int .i64 z0),.box (.agg [.agg [.agg [.int .u32 z1,.int .i32 z2,.int .u32 z3],.arr 5 32 z4],.agg [.arr 5 32 z5,.arr 5 32 z6],.tr 140 z7 [],.tr 140 z8 []])]))) (by kernel_rfl) ⟨digest_1_s k h.1.2.1 (e▸h.1.2.2) (e▸h.1.1) (by subst e;exact hK)⟩).out)
theorem q33:fnOk PE.P 33=true:=by kernel_rfl
theorem q12:fnOk PE.P 12=true:=by kernel_rfl
theorem q13:fnOk PE.P 13=true:=by kernel_rfl
theorem q49:fnOk PE.P 49=true:=by kernel_rfl
theorem q50:fnOk PE.P 50=true:=by kernel_rfl
theorem q91:fnOk PE.P 91=true:=by kernel_rfl
theorem q92:fnOk PE.P 92=true:=by kernel_rfl
theorem q93:fnOk PE.P 93=true:=by kernel_rfl
theorem q51:fnOk PE.P 51=true:=by kernel_rfl
theorem q182:fnOk PE.P 182=true:=by kernel_rfl
theorem q154:fnOk PE.P 154=true:=by kernel_rfl
theorem q196:fnOk PE.P 196=true:=by kernel_rfl
theorem q155:fnOk PE.P 155=true:=by kernel_rfl
theorem q110:fnOk PE.P 110=true:=by kernel_rfl
theorem q138:fnOk PE.P 138=true:=by kernel_rfl
theorem q193:fnOk PE.P 193=true:=by kernel_rfl
theorem q175:fnOk PE.P 175=true:=by kernel_rfl
theorem q139:fnOk PE.P 139=true:=by kernel_rfl
theorem q140:fnOk PE.P 140=true:=by kernel_rfl
theorem q99:fnOk PE.P 99=true:=by kernel_rfl
theorem q78:fnOk PE.P 78=true:=by kernel_rfl
theorem q52:fnOk PE.P 52=true:=by kernel_rfl
theorem q19:fnOk PE.P 19=true:=by kernel_rfl
theorem q53:fnOk PE.P 53=true:=by kernel_rfl
theorem q101:fnOk PE.P 101=true:=by kernel_rfl
theorem q100:fnOk PE.P 100=true:=by kernel_rfl
theorem q80:fnOk PE.P 80=true:=by kernel_rfl
theorem q59:fnOk PE.P 59=true:=by kernel_rfl
theorem q173:fnOk PE.P 173=true:=by kernel_rfl
theorem q174:fnOk PE.P 174=true:=by kernel_rfl
theorem q137:fnOk PE.P 137=true:=by kernel_rfl
theorem q98:fnOk PE.P 98=true:=by kernel_rfl
theorem q58:fnOk PE.P 58=true:=by kernel_rfl
theorem q57:fnOk PE.P 57=true:=by kernel_rfl
theorem q166:fnOk PE.P 166=true:=by kernel_rfl
theorem q128:fnOk PE.P 128=true:=by kernel_rfl
theorem q129:fnOk PE.P 129=true:=by kernel_rfl
theorem q130:fnOk PE.P 130=true:=by kernel_rfl
theorem q95:fnOk PE.P 95=true:=by kernel_rfl
theorem q213:fnOk PE.P 213=true:=by kernel_rfl
theorem q200:fnOk PE.P 200=true:=by kernel_rfl
theorem q187:fnOk PE.P 187=true:=by kernel_rfl
theorem q186:fnOk PE.P 186=true:=by kernel_rfl
theorem q167:fnOk PE.P 167=true:=by kernel_rfl
theorem q188:fnOk PE.P 188=true:=by kernel_rfl
theorem q171:fnOk PE.P 171=true:=by kernel_rfl
theorem q131:fnOk PE.P 131=true:=by kernel_rfl
theorem q189:fnOk PE.P 189=true:=by kernel_rfl
theorem q168:fnOk PE.P 168=true:=by kernel_rfl
theorem q169:fnOk PE.P 169=true:=by kernel_rfl
theorem q192:fnOk PE.P 192=true:=by kernel_rfl
theorem q172:fnOk PE.P 172=true:=by kernel_rfl
theorem q136:fnOk PE.P 136=true:=by kernel_rfl
theorem q133:fnOk PE.P 133=true:=by kernel_rfl
theorem q191:fnOk PE.P 191=true:=by kernel_rfl
theorem q132:fnOk PE.P 132=true:=by kernel_rfl
theorem q94:fnOk PE.P 94=true:=by kernel_rfl
theorem q54:fnOk PE.P 54=true:=by kernel_rfl
theorem q21:fnOk PE.P 21=true:=by kernel_rfl
theorem q55:fnOk PE.P 55=true:=by kernel_rfl
theorem q61:fnOk PE.P 61=true:=by kernel_rfl
theorem q152:fnOk PE.P 152=true:=by kernel_rfl
theorem q153:fnOk PE.P 153=true:=by kernel_rfl
theorem q109:fnOk PE.P 109=true:=by kernel_rfl
theorem q86:fnOk PE.P 86=true:=by kernel_rfl
theorem q159:fnOk PE.P 159=true:=by kernel_rfl
theorem q160:fnOk PE.P 160=true:=by kernel_rfl
theorem q113:fnOk PE.P 113=true:=by kernel_rfl
theorem q149:fnOk PE.P 149=true:=by kernel_rfl
theorem q150:fnOk PE.P 150=true:=by kernel_rfl
theorem q181:fnOk PE.P 181=true:=by kernel_rfl
theorem q151:fnOk PE.P 151=true:=by kernel_rfl
theorem q108:fnOk PE.P 108=true:=by kernel_rfl
theorem q89:fnOk PE.P 89=true:=by kernel_rfl
theorem q44:fnOk PE.P 44=true:=by kernel_rfl
theorem q87:fnOk PE.P 87=true:=by kernel_rfl
theorem q41:fnOk PE.P 41=true:=by kernel_rfl
theorem q65:fnOk PE.P 65=true:=by kernel_rfl
theorem q195:fnOk PE.P 195=true:=by kernel_rfl
theorem q180:fnOk PE.P 180=true:=by kernel_rfl
theorem q148:fnOk PE.P 148=true:=by kernel_rfl
theorem q107:fnOk PE.P 107=true:=by kernel_rfl
theorem q64:fnOk PE.P 64=true:=by kernel_rfl
theorem q63:fnOk PE.P 63=true:=by kernel_rfl
theorem q124:fnOk PE.P 124=true:=by kernel_rfl
theorem q125:fnOk PE.P 125=true:=by kernel_rfl
theorem q177:fnOk PE.P 177=true:=by kernel_rfl
theorem q145:fnOk PE.P 145=true:=by kernel_rfl
theorem q178:fnOk PE.P 178=true:=by kernel_rfl
theorem q146:fnOk PE.P 146=true:=by kernel_rfl
theorem q144:fnOk PE.P 144=true:=by kernel_rfl
theorem q104:fnOk PE.P 104=true:=by kernel_rfl
theorem q105:fnOk PE.P 105=true:=by kernel_rfl
theorem q179:fnOk PE.P 179=true:=by kernel_rfl
theorem q147:fnOk PE.P 147=true:=by kernel_rfl
theorem q106:fnOk PE.P 106=true:=by kernel_rfl
theorem q88:fnOk PE.P 88=true:=by kernel_rfl
theorem q43:fnOk PE.P 43=true:=by kernel_rfl
theorem q22:fnOk PE.P 22=true:=by kernel_rfl
theorem q96:fnOk PE.P 96=true:=by kernel_rfl
theorem q135:fnOk PE.P 135=true:=by kernel_rfl
theorem q134:fnOk PE.P 134=true:=by kernel_rfl
theorem q97:fnOk PE.P 97=true:=by kernel_rfl
theorem q56:fnOk PE.P 56=true:=by kernel_rfl
theorem q143:fnOk PE.P 143=true:=by kernel_rfl
theorem q142:fnOk PE.P 142=true:=by kernel_rfl
theorem q141:fnOk PE.P 141=true:=by kernel_rfl
theorem q102:fnOk PE.P 102=true:=by kernel_rfl
theorem q60:fnOk PE.P 60=true:=by kernel_rfl
theorem q23:fnOk PE.P 23=true:=by kernel_rfl
theorem q103:fnOk PE.P 103=true:=by kernel_rfl
theorem q62:fnOk PE.P 62=true:=by kernel_rfl
theorem q66:fnOk PE.P 66=true:=by kernel_rfl
theorem q24:fnOk PE.P 24=true:=by kernel_rfl
theorem q25:fnOk PE.P 25=true:=by kernel_rfl
theorem q26:fnOk PE.P 26=true:=by kernel_rfl
theorem q47:fnOk PE.P 47=true:=by kernel_rfl
theorem q20:fnOk PE.P 20=true:=by kernel_rfl
theorem q79:fnOk PE.P 79=true:=by kernel_rfl
theorem q81:fnOk PE.P 81=true:=by kernel_rfl
theorem q82:fnOk PE.P 82=true:=by kernel_rfl
theorem q38:fnOk PE.P 38=true:=by kernel_rfl
theorem q39:fnOk PE.P 39=true:=by kernel_rfl
theorem q161:fnOk PE.P 161=true:=by kernel_rfl
theorem q119:fnOk PE.P 119=true:=by kernel_rfl
theorem q118:fnOk PE.P 118=true:=by kernel_rfl
theorem q117:fnOk PE.P 117=true:=by kernel_rfl
theorem q83:fnOk PE.P 83=true:=by kernel_rfl
theorem q122:fnOk PE.P 122=true:=by kernel_rfl
theorem q85:fnOk PE.P 85=true:=by kernel_rfl
theorem q40:fnOk PE.P 40=true:=by kernel_rfl
theorem q14:fnOk PE.P 14=true:=by kernel_rfl
theorem q48:fnOk PE.P 48=true:=by kernel_rfl
theorem q27:fnOk PE.P 27=true:=by kernel_rfl
theorem q16:fnOk PE.P 16=true:=by kernel_rfl
theorem q6:fnOk PE.P 6=true:=by kernel_rfl
theorem q28:fnOk PE.P 28=true:=by kernel_rfl
theorem q67:fnOk PE.P 67=true:=by kernel_rfl
theorem q76:fnOk PE.P 76=true:=by kernel_rfl
theorem q158:fnOk PE.P 158=true:=by kernel_rfl
theorem q157:fnOk PE.P 157=true:=by kernel_rfl
theorem q156:fnOk PE.P 156=true:=by kernel_rfl
theorem q111:fnOk PE.P 111=true:=by kernel_rfl
theorem q68:fnOk PE.P 68=true:=by kernel_rfl
theorem q69:fnOk PE.P 69=true:=by kernel_rfl
theorem q29:fnOk PE.P 29=true:=by kernel_rfl
theorem q112:fnOk PE.P 112=true:=by kernel_rfl
theorem q70:fnOk PE.P 70=true:=by kernel_rfl
theorem q71:fnOk PE.P 71=true:=by kernel_rfl
theorem q114:fnOk PE.P 114=true:=by kernel_rfl
theorem q72:fnOk PE.P 72=true:=by kernel_rfl
theorem q30:fnOk PE.P 30=true:=by kernel_rfl
theorem q73:fnOk PE.P 73=true:=by kernel_rfl
theorem q31:fnOk PE.P 31=true:=by kernel_rfl
theorem q32:fnOk PE.P 32=true:=by kernel_rfl
theorem q8:fnOk PE.P 8=true:=by kernel_rfl
theorem T33g:GT 33 T33:=.a q33<|.n
theorem T12g:GT 12 T12:=.a q12<|.n
theorem T13g:GT 13 T13:=.a q13<|.n
theorem T49g:GT 49 T49:=.a q49<|.n
theorem T50g:GT 50 T50:=.a q50<|.n
theorem T91g:GT 91 T91:=.a q91<|.a q91<|.n
theorem T92g:GT 92 T92:=.a q92<|.n
theorem T93g:GT 93 T93:=.a q93<|.n
theorem T51g:GT 51 T51:=.a q51<|.a q51<|.n
theorem T182g:GT 182 T182:=.a q182<|.n
theorem T154y5g:GT 155000005 T154y5:=.y (g:=154) (id:=5) q154<|.y (g:=154) (id:=5) q154<|.y (g:=154) (id:=5) q154<|.n
theorem T196g:GT 196 T196:=.a q196<|.a q196<|.n
theorem T154g:GT 154 T154:=.a q154<|.a q154<|.n
theorem T155g:GT 155 T155:=.a q155<|.n
theorem T110g:GT 110 T110:=.a q110<|.n
theorem T138g:GT 138 T138:=.a q138<|.n
theorem T193g:GT 193 T193:=.a q193<|.n
theorem T175g:GT 175 T175:=.a q175<|.n
theorem T139g:GT 139 T139:=.a q139<|.a q139<|.n
theorem T140g:GT 140 T140:=.a q140<|.n
theorem T99g:GT 99 T99:=.a q99<|.n
theorem T78g:GT 78 T78:=.a q78<|.n
theorem T52g:GT 52 T52:=.a q52<|.a q52<|.n
theorem T19g:GT 19 T19:=.a q19<|.a q19<|.n
theorem T53g:GT 53 T53:=.a q53<|.a q53<|.n
theorem T101g:GT 101 T101:=.a q101<|.n
theorem T100g:GT 100 T100:=.a q100<|.a q100<|.n
theorem T80g:GT 80 T80:=.a q80<|.a q80<|.n
theorem T59g:GT 59 T59:=.a q59<|.a q59<|.n
theorem T173g:GT 173 T173:=.a q173<|.n
theorem T174g:GT 174 T174:=.a q174<|.n
theorem T137g:GT 137 T137:=.a q137<|.n
theorem T98g:GT 98 T98:=.a q98<|.n
theorem T58g:GT 58 T58:=.a q58<|.n
theorem T57g:GT 57 T57:=.a q57<|.a q57<|.a q57<|.n
theorem T166g:GT 166 T166:=.a q166<|.n
theorem T128g:GT 128 T128:=.a q128<|.n
theorem T129g:GT 129 T129:=.a q129<|.a q129<|.n
theorem T130g:GT 130 T130:=.a q130<|.a q130<|.n
theorem T95g:GT 95 T95:=.a q95<|.n
theorem T213g:GT 213 T213:=.a q213<|.n
theorem T200g:GT 200 T200:=.a q200<|.n
theorem T187g:GT 187 T187:=.a q187<|.n
theorem T186g:GT 186 T186:=.a q186<|.n
theorem T185g:GT 185 T185:=.h (fun k _ _ h=>.row fun TS=>hrow185 k _ _ (Hold.mp (by kernel_rfl) h).out TS)<|.n
theorem T167g:GT 167 T167:=.a q167<|.n
theorem T188g:GT 188 T188:=.a q188<|.a q188<|.n
theorem T171g:GT 171 T171:=.a q171<|.n
theorem T131g:GT 131 T131:=.a q131<|.n
theorem T189g:GT 189 T189:=.a q189<|.n
theorem T168g:GT 168 T168:=.a q168<|.n
theorem T169g:GT 169 T169:=.a q169<|.n
theorem T192g:GT 192 T192:=.a q192<|.n
theorem T172g:GT 172 T172:=.a q172<|.a q172<|.n
theorem T136g:GT 136 T136:=.a q136<|.n
theorem T133g:GT 133 T133:=.a q133<|.n
theorem T191g:GT 191 T191:=.a q191<|.n
theorem T132g:GT 132 T132:=.a q132<|.n
theorem T170g:GT 170 T170:=.h (fun k _ _ h=>.row fun TS=>hrow170 k _ _ _ (Hold.mp (by kernel_rfl) h).out TS)<|.n
theorem T94g:GT 94 T94:=.a q94<|.n
theorem T54g:GT 54 T54:=.a q54<|.a q54<|.a q54<|.n
theorem T21g:GT 21 T21:=.a q21<|.a q21<|.n
theorem T55g:GT 55 T55:=.a q55<|.n
theorem T61g:GT 61 T61:=.a q61<|.n
theorem T152g:GT 152 T152:=.a q152<|.n
theorem T153g:GT 153 T153:=.a q153<|.n
theorem T109g:GT 109 T109:=.a q109<|.a q109<|.n
theorem T86g:GT 86 T86:=.a q86<|.n
theorem T159g:GT 159 T159:=.a q159<|.n
theorem T160g:GT 160 T160:=.a q160<|.n
theorem T113g:GT 113 T113:=.a q113<|.n
theorem T149g:GT 149 T149:=.a q149<|.n
theorem T150g:GT 150 T150:=.a q150<|.n
theorem T181g:GT 181 T181:=.a q181<|.n
theorem T151g:GT 151 T151:=.a q151<|.n
theorem T108g:GT 108 T108:=.a q108<|.n
theorem T89g:GT 89 T89:=.a q89<|.n
theorem T44g:GT 44 T44:=.a q44<|.n
theorem T87g:GT 87 T87:=.a q87<|.n
theorem T41g:GT 41 T41:=.a q41<|.n
theorem T65g:GT 65 T65:=.a q65<|.a q65<|.n
theorem T195g:GT 195 T195:=.a q195<|.n
theorem T180g:GT 180 T180:=.a q180<|.n
theorem T148g:GT 148 T148:=.a q148<|.n
theorem T107g:GT 107 T107:=.a q107<|.n
theorem T64g:GT 64 T64:=.a q64<|.n
theorem T63g:GT 63 T63:=.a q63<|.n
theorem T124g:GT 124 T124:=.a q124<|.n
theorem T125g:GT 125 T125:=.a q125<|.n
theorem T177g:GT 177 T177:=.a q177<|.n
theorem T145g:GT 145 T145:=.a q145<|.n
theorem T178g:GT 178 T178:=.a q178<|.n
theorem T146g:GT 146 T146:=.a q146<|.n
theorem T144g:GT 144 T144:=.a q144<|.n
theorem T104g:GT 104 T104:=.a q104<|.n
theorem T105g:GT 105 T105:=.a q105<|.n
theorem T179g:GT 179 T179:=.a q179<|.n
theorem T147g:GT 147 T147:=.a q147<|.n
theorem T106g:GT 106 T106:=.a q106<|.n
theorem T88g:GT 88 T88:=.a q88<|.n
theorem T43g:GT 43 T43:=.a q43<|.n
theorem T22g:GT 22 T22:=.a q22<|.n
theorem T96g:GT 96 T96:=.a q96<|.n
theorem T135g:GT 135 T135:=.a q135<|.n
theorem T134g:GT 134 T134:=.a q134<|.n
theorem T97g:GT 97 T97:=.a q97<|.n
theorem T56g:GT 56 T56:=.a q56<|.n
theorem T176g:GT 176 T176:=.h (fun _ _ _ h=>.row fun _=>hand176 _ _ _ (Hold.mp (by kernel_rfl) h).out)<|.n
theorem T143g:GT 143 T143:=.a q143<|.n
theorem T142g:GT 142 T142:=.a q142<|.n
theorem T141g:GT 141 T141:=.a q141<|.a q141<|.n
theorem T102g:GT 102 T102:=.a q102<|.a q102<|.a q102<|.n
theorem T60g:GT 60 T60:=.a q60<|.a q60<|.a q60<|.n
theorem T23g:GT 23 T23:=.a q23<|.a q23<|.n
theorem T103g:GT 103 T103:=.a q103<|.n
theorem T62g:GT 62 T62:=.a q62<|.n
theorem T66g:GT 66 T66:=.a q66<|.n
theorem T24g:GT 24 T24:=.a q24<|.n
theorem T25g:GT 25 T25:=.a q25<|.a q25<|.n
theorem T26g:GT 26 T26:=.a q26<|.n
theorem T47g:GT 47 T47:=.a q47<|.n
theorem T20g:GT 20 T20:=.a q20<|.n
theorem T79g:GT 79 T79:=.a q79<|.a q79<|.n
theorem T81g:GT 81 T81:=.a q81<|.a q81<|.n
theorem T82g:GT 82 T82:=.a q82<|.a q82<|.n
theorem T38g:GT 38 T38:=.a q38<|.a q38<|.n
theorem T39g:GT 39 T39:=.a q39<|.n
theorem T161g:GT 161 T161:=.a q161<|.n
theorem T119g:GT 119 T119:=.a q119<|.n
theorem T118g:GT 118 T118:=.a q118<|.n
theorem T117g:GT 117 T117:=.a q117<|.n
theorem T83g:GT 83 T83:=.a q83<|.n
theorem T84g:GT 84 T84:=.h (fun _ _ _ h=>.row fun _=>hand84 _ _ _ _ (Hold.mp (by kernel_rfl) h).out)<|.n
theorem T122g:GT 122 T122:=.a q122<|.a q122<|.n
theorem T123g:GT 123 T123:=.h (fun _ _ _ h=>.row fun _=>hand123 _ _ _ _ (Hold.mp (by kernel_rfl) h).out)<|.n
theorem T85g:GT 85 T85:=.a q85<|.n
theorem T40g:GT 40 T40:=.a q40<|.n
theorem T14g:GT 14 T14:=.a q14<|.a q14<|.n
theorem T48g:GT 48 T48:=.a q48<|.n
theorem T27g:GT 27 T27:=.a q27<|.n
theorem T16g:GT 16 T16:=.a q16<|.n
theorem T6g:GT 6 T6:=.a q6<|.n
theorem T28g:GT 28 T28:=.a q28<|.n
theorem T67g:GT 67 T67:=.a q67<|.a q67<|.n
theorem T76g:GT 76 T76:=.a q76<|.n
theorem T158g:GT 158 T158:=.a q158<|.n
theorem T157g:GT 157 T157:=.a q157<|.n
theorem T156g:GT 156 T156:=.a q156<|.n
theorem T111g:GT 111 T111:=.a q111<|.n
theorem T68g:GT 68 T68:=.a q68<|.n
theorem T69g:GT 69 T69:=.a q69<|.a q69<|.n
theorem T29y14g:GT 30000014 T29y14:=.y (g:=29) (id:=14) q29<|.n
theorem T112g:GT 112 T112:=.a q112<|.a q112<|.n
theorem T29g:GT 29 T29:=.a q29<|.a q29<|.a q29<|.n
theorem T70g:GT 70 T70:=.a q70<|.n
theorem T71g:GT 71 T71:=.a q71<|.n
theorem T114g:GT 114 T114:=.a q114<|.n
theorem T72g:GT 72 T72:=.a q72<|.n
theorem T30g:GT 30 T30:=.a q30<|.n
theorem T73g:GT 73 T73:=.a q73<|.n
theorem T31g:GT 31 T31:=.a q31<|.n
theorem T32g:GT 32 T32:=.a q32<|.n
theorem T8g:GT 8 T8:=.a q8<|.n
theorem D33_5g:GC 33 5 D33_5:=.c<|.n
theorem D13_3g:GC 13 3 D13_3:=.c<|.n
theorem D92_3g:GC 92 3 D92_3:=.c<|.n
theorem D51_3g:GC 51 3 D51_3:=.c<|.c<|.n
theorem D51_4g:GC 51 4 D51_4:=.c<|.c<|.n
theorem D196_0g:GC 196 0 D196_0:=.c<|.c<|.c<|.n
theorem D196_1g:GC 196 1 D196_1:=.c<|.c<|.c<|.n
theorem D175_2g:GC 175 2 D175_2:=.c<|.n
theorem D175_11g:GC 175 11 D175_11:=.c<|.n
theorem D175_14g:GC 175 14 D175_14:=.c<|.n
theorem D175_23g:GC 175 23 D175_23:=.c<|.n
theorem D139_3g:GC 139 3 D139_3:=.c<|.c<|.n
theorem D140_9g:GC 140 9 D140_9:=.c<|.n
theorem D140_15g:GC 140 15 D140_15:=.c<|.n
theorem D19_2g:GC 19 2 D19_2:=.c<|.c<|.n
theorem D19_6g:GC 19 6 D19_6:=.c<|.c<|.n
theorem D19_9g:GC 19 9 D19_9:=.c<|.c<|.n
theorem D19_10g:GC 19 10 D19_10:=.c<|.c<|.n
theorem D19_12g:GC 19 12 D19_12:=.c<|.c<|.n
theorem D19_15g:GC 19 15 D19_15:=.c<|.c<|.n
theorem D19_18g:GC 19 18 D19_18:=.c<|.c<|.n
theorem D19_21g:GC 19 21 D19_21:=.c<|.c<|.n
theorem D19_22g:GC 19 22 D19_22:=.c<|.c<|.n
theorem D100_2g:GC 100 2 D100_2:=.c<|.c<|.n
theorem D137_8g:GC 137 8 D137_8:=.c<|.n
theorem D57_3g:GC 57 3 D57_3:=.c<|.c<|.c<|.n
theorem D187_2g:GC 187 2 D187_2:=.c<|.n
theorem D167_4g:GC 167 4 D167_4:=.c<|.n
theorem D168_5g:GC 168 5 D168_5:=.c<|.n
theorem D168_11g:GC 168 11 D168_11:=.c<|.n
theorem D169_3g:GC 169 3 D169_3:=.c<|.n
theorem D169_8g:GC 169 8 D169_8:=.c<|.c<|.n
theorem D169_9g:GC 169 9 D169_9:=.c<|.n
theorem D129_9g:GC 129 9 D129_9:=.c<|.n
theorem D192_4g:GC 192 4 D192_4:=.c<|.n
theorem D172_4g:GC 172 4 D172_4:=.c<|.c<|.n
theorem D94_2g:GC 94 2 D94_2:=.c<|.c<|.n
theorem D94_3g:GC 94 3 D94_3:=.c<|.n
theorem D94_4g:GC 94 4 D94_4:=.c<|.c<|.n
theorem D94_5g:GC 94 5 D94_5:=.c<|.c<|.n
theorem D94_6g:GC 94 6 D94_6:=.c<|.n
theorem D109_3g:GC 109 3 D109_3:=.c<|.c<|.n
theorem D86_4g:GC 86 4 D86_4:=.c<|.n
theorem D149_4g:GC 149 4 D149_4:=.c<|.n
theorem D149_8g:GC 149 8 D149_8:=.c<|.n
theorem D151_3g:GC 151 3 D151_3:=.c<|.n
theorem D151_7g:GC 151 7 D151_7:=.c<|.n
theorem D151_14g:GC 151 14 D151_14:=.c<|.n
theorem D151_22g:GC 151 22 D151_22:=.c<|.n
theorem D108_4g:GC 108 4 D108_4:=.c<|.n
theorem D108_9g:GC 108 9 D108_9:=.c<|.n
theorem D87_4g:GC 87 4 D87_4:=.c<|.n
theorem D41_4g:GC 41 4 D41_4:=.c<|.n
theorem D65_5g:GC 65 5 D65_5:=.c<|.c<|.n
theorem D180_3g:GC 180 3 D180_3:=.c<|.n
theorem D63_3g:GC 63 3 D63_3:=.c<|.n
theorem D125_2g:GC 125 2 D125_2:=.c<|.n
theorem D125_5g:GC 125 5 D125_5:=.c<|.n
theorem D177_6g:GC 177 6 D177_6:=.c<|.n
theorem D144_3g:GC 144 3 D144_3:=.c<|.n
theorem D105_3g:GC 105 3 D105_3:=.c<|.n
theorem D105_4g:GC 105 4 D105_4:=.c<|.n
theorem D134_2g:GC 134 2 D134_2:=.c<|.n
theorem D97_11g:GC 97 11 D97_11:=.c<|.n
theorem D97_16g:GC 97 16 D97_16:=.c<|.n
theorem D56_6g:GC 56 6 D56_6:=.c<|.n
theorem D56_10g:GC 56 10 D56_10:=.c<|.n
theorem D56_15g:GC 56 15 D56_15:=.c<|.n
theorem D56_22g:GC 56 22 D56_22:=.c<|.n
theorem D141_3g:GC 141 3 D141_3:=.c<|.c<|.n
theorem D103_2g:GC 103 2 D103_2:=.c<|.n
theorem D62_9g:GC 62 9 D62_9:=.c<|.c<|.n
theorem D62_11g:GC 62 11 D62_11:=.c<|.c<|.n
theorem D62_12g:GC 62 12 D62_12:=.c<|.c<|.n
theorem D62_13g:GC 62 13 D62_13:=.c<|.c<|.n
theorem D62_15g:GC 62 15 D62_15:=.c<|.c<|.n
theorem D62_17g:GC 62 17 D62_17:=.c<|.c<|.n
theorem D62_18g:GC 62 18 D62_18:=.c<|.c<|.n
theorem D62_19g:GC 62 19 D62_19:=.c<|.n
theorem D66_2g:GC 66 2 D66_2:=.c<|.n
theorem D25_4g:GC 25 4 D25_4:=.c<|.c<|.n
theorem D26_4g:GC 26 4 D26_4:=.c<|.n
theorem D20_8g:GC 20 8 D20_8:=.c<|.n
theorem D20_12g:GC 20 12 D20_12:=.c<|.n
theorem D20_13g:GC 20 13 D20_13:=.c<|.n
theorem D20_16g:GC 20 16 D20_16:=.c<|.n
theorem D20_17g:GC 20 17 D20_17:=.c<|.n
theorem D38_3g:GC 38 3 D38_3:=.c<|.c<|.n
theorem D117_3g:GC 117 3 D117_3:=.c<|.n
theorem D122_8g:GC 122 8 D122_8:=.c<|.c<|.n
theorem D85_5g:GC 85 5 D85_5:=.c<|.n
theorem D40_8g:GC 40 8 D40_8:=.c<|.c<|.n
theorem D40_9g:GC 40 9 D40_9:=.c<|.c<|.n
theorem D40_10g:GC 40 10 D40_10:=.c<|.c<|.n
theorem D40_11g:GC 40 11 D40_11:=.c<|.c<|.c<|.c<|.n
theorem D14_13g:GC 14 13 D14_13:=.c<|.n
theorem D16_4g:GC 16 4 D16_4:=.c<|.n
theorem D16_9g:GC 16 9 D16_9:=.c<|.n
theorem D16_14g:GC 16 14 D16_14:=.c<|.n
theorem D6_9g:GC 6 9 D6_9:=.c<|.n
theorem D6_10g:GC 6 10 D6_10:=.c<|.n
theorem D157_2g:GC 157 2 D157_2:=.c<|.n
theorem D111_5g:GC 111 5 D111_5:=.c<|.c<|.n
theorem D111_7g:GC 111 7 D111_7:=.c<|.n
theorem D112_1g:GC 112 1 D112_1:=.c<|.c<|.n
theorem D29_6g:GC 29 6 D29_6:=.c<|.c<|.c<|.n
theorem D29_9g:GC 29 9 D29_9:=.c<|.c<|.c<|.n
theorem D71_2g:GC 71 2 D71_2:=.c<|.n
theorem D114_6g:GC 114 6 D114_6:=.c<|.c<|.n
theorem D114_12g:GC 114 12 D114_12:=.c<|.n
theorem D30_11g:GC 30 11 D30_11:=.c<|.n
theorem D30_12g:GC 30 12 D30_12:=.c<|.n
theorem D32_4g:GC 32 4 D32_4:=.c<|.n
theorem PSound(k:Nat):TSound PE (PT k)/\CSound PE (PC k):=
 tablesH PEok (by kernel_rfl)
  (ta T33g<|ta T12g<|ta T13g<|ta T49g<|ta T50g<|ta T91g<|ta T92g<|ta T93g<|ta T51g<|ta T182g<|ta T154y5g<|ta T196g<|ta T154g<|ta T155g<|ta T110g<|ta T138g<|ta T193g<|ta T175g<|ta T139g<|ta T140g<|ta T99g<|ta T78g<|ta T52g<|ta T19g<|ta T53g<|ta T101g<|ta T100g<|ta T80g<|ta T59g<|ta T173g<|ta T174g<|ta T137g<|ta T98g<|ta T58g<|ta T57g<|ta T166g<|ta T128g<|ta T129g<|ta T130g<|ta T95g<|ta T213g<|ta T200g<|ta T187g<|ta T186g<|ta T185g<|ta T167g<|ta T188g<|ta T171g<|ta T131g<|ta T189g<|ta T168g<|ta T169g<|ta T192g<|ta T172g<|ta T136g<|ta T133g<|ta T191g<|ta T132g<|ta T170g<|ta T94g<|ta T54g<|ta T21g<|ta T55g<|ta T61g<|ta T152g<|ta T153g<|ta T109g<|ta T86g<|ta T159g<|ta T160g<|ta T113g<|ta T149g<|ta T150g<|ta T181g<|ta T151g<|ta T108g<|ta T89g<|ta T44g<|ta T87g<|ta T41g<|ta T65g<|ta T195g<|ta T180g<|ta T148g<|ta T107g<|ta T64g<|ta T63g<|ta T124g<|ta T125g<|ta T177g<|ta T145g<|ta T178g<|ta T146g<|ta T144g<|ta T104g<|ta T105g<|ta T179g<|ta T147g<|ta T106g<|ta T88g<|ta T43g<|ta T22g<|ta T96g<|ta T135g<|ta T134g<|ta T97g<|ta T56g<|ta T176g<|ta T143g<|ta T142g<|ta T141g<|ta T102g<|ta T60g<|ta T23g<|ta T103g<|ta T62g<|ta T66g<|ta T24g<|ta T25g<|ta T26g<|ta T47g<|ta T20g<|ta T79g<|ta T81g<|ta T82g<|ta T38g<|ta T39g<|ta T161g<|ta T119g<|ta T118g<|ta T117g<|ta T83g<|ta T84g<|ta T122g<|ta T123g<|ta T85g<|ta T40g<|ta T14g<|ta T48g<|ta T27g<|ta T16g<|ta T6g<|ta T28g<|ta T67g<|ta T76g<|ta T158g<|ta T157g<|ta T156g<|ta T111g<|ta T68g<|ta T69g<|ta T29y14g<|ta T112g<|ta T29g<|ta T70g<|ta T71g<|ta T114g<|ta T72g<|ta T30g<|ta T73g<|ta T31g<|ta T32g<|ta T8g<|tn)
  (ca q33 D33_5g<|ca q13 D13_3g<|ca q92 D92_3g<|ca q51 D51_3g<|ca q51 D51_4g<|ca q196 D196_0g<|ca q196 D196_1g<|ca q175 D175_2g<|ca q175 D175_11g<|ca q175 D175_14g<|ca q175 D175_23g<|ca q139 D139_3g<|ca q140 D140_9g<|ca q140 D140_15g<|ca q19 D19_2g<|ca q19 D19_6g<|ca q19 D19_9g<|ca q19 D19_10g<|ca q19 D19_12g<|ca q19 D19_15g<|ca q19 D19_18g<|ca q19 D19_21g<|ca q19 D19_22g<|ca q100 D100_2g<|ca q137 D137_8g<|ca q57 D57_3g<|ca q187 D187_2g<|ca q167 D167_4g<|ca q168 D168_5g<|ca q168 D168_11g<|ca q169 D169_3g<|ca q169 D169_8g<|ca q169 D169_9g<|ca q129 D129_9g<|ca q192 D192_4g<|ca q172 D172_4g<|ca q94 D94_2g<|ca q94 D94_3g<|ca q94 D94_4g<|ca q94 D94_5g<|ca q94 D94_6g<|ca q109 D109_3g<|ca q86 D86_4g<|ca q149 D149_4g<|ca q149 D149_8g<|ca q151 D151_3g<|ca q151 D151_7g<|ca q151 D151_14g<|ca q151 D151_22g<|ca q108 D108_4g<|ca q108 D108_9g<|ca q87 D87_4g<|ca q41 D41_4g<|ca q65 D65_5g<|ca q180 D180_3g<|ca q63 D63_3g<|ca q125 D125_2g<|ca q125 D125_5g<|ca q177 D177_6g<|ca q144 D144_3g<|ca q105 D105_3g<|ca q105 D105_4g<|ca q134 D134_2g<|ca q97 D97_11g<|ca q97 D97_16g<|ca q56 D56_6g<|ca q56 D56_10g<|ca q56 D56_15g<|ca q56 D56_22g<|ca q141 D141_3g<|ca q103 D103_2g<|ca q62 D62_9g<|ca q62 D62_11g<|ca q62 D62_12g<|ca q62 D62_13g<|ca q62 D62_15g<|ca q62 D62_17g<|ca q62 D62_18g<|ca q62 D62_19g<|ca q66 D66_2g<|ca q25 D25_4g<|ca q26 D26_4g<|ca q20 D20_8g<|ca q20 D20_12g<|ca q20 D20_13g<|ca q20 D20_16g<|ca q20 D20_17g<|ca q38 D38_3g<|ca q117 D117_3g<|ca q122 D122_8g<|ca q85 D85_5g<|ca q40 D40_8g<|ca q40 D40_9g<|ca q40 D40_10g<|ca q40 D40_11g<|ca q14 D14_13g<|ca q16 D16_4g<|ca q16 D16_9g<|ca q16 D16_14g<|ca q6 D6_9g<|ca q6 D6_10g<|ca q157 D157_2g<|ca q111 D111_5g<|ca q111 D111_7g<|ca q112 D112_1g<|ca q29 D29_6g<|ca q29 D29_9g<|ca q71 D71_2g<|ca q114 D114_6g<|ca q114 D114_12g<|ca q30 D30_11g<|ca q30 D30_12g<|ca q32 D32_4g<|cn) k
end Go.V
