import Derived.Test.YtgeonfbhejigjaaGreatDoorVL10F
import Derived.Test.YtgeonfbhejigjaaGreatDoorProg
set_option linter.unusedVariables false
namespace Go.V
open Go
def PX:Nat->(α:Type)×α
 | 1=>⟨Unit,()⟩
 | 3=>⟨Int,(0:Int)⟩
 | 4=>⟨Bool,false⟩
 | 5=>⟨Int,(0:Int)⟩
 | 9=>⟨ByteArray,ByteArray.empty⟩
 | 21=>⟨Int,(0:Int)⟩
 | 22=>⟨(List S_api_User),([]:List S_api_User)⟩
 | 23=>⟨(List S_api_Head),([]:List S_api_Head)⟩
 | 24=>⟨(List S_api_Session),([]:List S_api_Session)⟩
 | 26=>⟨S_api_Directory,(S_api_Directory.mk (0:Int) ([]:List S_api_User) ([]:List S_api_Head) ([]:List S_api_Session))⟩
 | 27=>⟨Int,(0:Int)⟩
 | 29=>⟨(List Int),(List.replicate 32 (0:Int))⟩
 | 31=>⟨S_api_Command,(S_api_Command.mk (0:Int) (0:Int) (0:Int) ByteArray.empty ByteArray.empty (0:Int) (List.replicate 32 (0:Int)))⟩
 | 34=>⟨Int,(0:Int)⟩
 | 38=>⟨(List S_api_Version),([]:List S_api_Version)⟩
 | 40=>⟨S_api_User,(S_api_User.mk ByteArray.empty ([]:List S_api_Version))⟩
 | 41=>⟨Int,(0:Int)⟩
 | 43=>⟨S_api_Version,(S_api_Version.mk (0:Int) (0:Int) ByteArray.empty)⟩
 | 45=>⟨S_api_Head,(S_api_Head.mk (0:Int) (List.replicate 32 (0:Int)) (List.replicate 32 (0:Int)))⟩
 | 47=>⟨S_api_Session,(S_api_Session.mk (0:Int) (0:Int) (0:Int) (0:Int))⟩
 | 55=>⟨(List (List Int)),([]:List (List Int))⟩
 | 63=>⟨(List S_api_Command),([]:List S_api_Command)⟩
 | 65=>⟨(List S_api_Signed),([]:List S_api_Signed)⟩
 | 68=>⟨S_api_Signed,(S_api_Signed.mk (S_api_Head.mk (0:Int) (List.replicate 32 (0:Int)) (List.replicate 32 (0:Int))) (List.replicate 32 (0:Int)))⟩
 | 80=>⟨Unit,()⟩
 | 83=>⟨S_directory_work,(S_directory_work.mk (S_api_Directory.mk (0:Int) ([]:List S_api_User) ([]:List S_api_Head) ([]:List S_api_Session)))⟩
 | 100=>⟨(List S_api_Leaf),([]:List S_api_Leaf)⟩
 | 110=>⟨Unit,()⟩
 | 111=>⟨Unit,()⟩
 | 116=>⟨Unit,()⟩
 | 117=>⟨Unit,()⟩
 | 120=>⟨S_head_link,(S_head_link.mk (0:Int) (List.replicate 32 (0:Int)))⟩
 | 130=>⟨Unit,()⟩
 | 137=>⟨Unit,()⟩
 | 140=>⟨S_api_Leaf,(S_api_Leaf.mk (List.replicate 32 (0:Int)) (List.replicate 32 (0:Int)))⟩
 | 145=>⟨(List Int),([]:List Int)⟩
 | 156=>⟨Unit,()⟩
 | 157=>⟨Unit,()⟩
 | 161=>⟨Unit,()⟩
 | 169=>⟨Unit,()⟩
 | 181=>⟨Unit,()⟩
 | 186=>⟨Unit,()⟩
 | 189=>⟨Int,(0:Int)⟩
 | 190=>⟨(List Int),(List.replicate 8 (0:Int))⟩
 | 196=>⟨(List Int),(List.replicate 64 (0:Int))⟩
 | 198=>⟨Unit,()⟩
 | 199=>⟨Unit,()⟩
 | 201=>⟨Int,(0:Int)⟩
 | 206=>⟨Unit,()⟩
 | 208=>⟨S_smt_Tree,(S_smt_Tree.mk (0:Int) (0:Int) ())⟩
 | 213=>⟨Unit,()⟩
 | 215=>⟨S_version_laid,(S_version_laid.mk ([]:List Int))⟩
 | 216=>⟨Unit,()⟩
 | 219=>⟨S_sha_Hash,(S_sha_Hash.mk (List.replicate 8 (0:Int)) (List.replicate 64 (0:Int)) (0:Int))⟩
 | 220=>⟨(List Int),(List.replicate 72 (0:Int))⟩
 | 221=>⟨Int,(0:Int)⟩
 | 226=>⟨(List Int),(List.replicate 64 (0:Int))⟩
 | 228=>⟨Unit,()⟩
 | 229=>⟨Unit,()⟩
 | 234=>⟨Unit,()⟩
 | 236=>⟨S_sync_noCopy,(S_sync_noCopy.mk )⟩
 | 237=>⟨S_sync_noCopy,(S_sync_noCopy.mk )⟩
 | 239=>⟨S_sync_atomic_Bool,(S_sync_atomic_Bool.mk (S_sync_noCopy.mk ) (0:Int))⟩
 | 241=>⟨S_internal_sync_Mutex,(S_internal_sync_Mutex.mk (0:Int) (0:Int))⟩
 | 243=>⟨S_sync_Mutex,(S_sync_Mutex.mk (S_sync_noCopy.mk ) (S_internal_sync_Mutex.mk (0:Int) (0:Int)))⟩
 | 245=>⟨S_sync_Once,(S_sync_Once.mk (S_sync_noCopy.mk ) (S_sync_atomic_Bool.mk (S_sync_noCopy.mk ) (0:Int)) (S_sync_Mutex.mk (S_sync_noCopy.mk ) (S_internal_sync_Mutex.mk (0:Int) (0:Int))))⟩
 | 247=>⟨S_smt_made,(S_smt_made.mk (S_sync_Once.mk (S_sync_noCopy.mk ) (S_sync_atomic_Bool.mk (S_sync_noCopy.mk ) (0:Int)) (S_sync_Mutex.mk (S_sync_noCopy.mk ) (S_internal_sync_Mutex.mk (0:Int) (0:Int)))) (List.replicate 32 (0:Int)))⟩
 | 249=>⟨S_smt_knot,(S_smt_knot.mk (S_smt_made.mk (S_sync_Once.mk (S_sync_noCopy.mk ) (S_sync_atomic_Bool.mk (S_sync_noCopy.mk ) (0:Int)) (S_sync_Mutex.mk (S_sync_noCopy.mk ) (S_internal_sync_Mutex.mk (0:Int) (0:Int)))) (List.replicate 32 (0:Int))) (S_api_Leaf.mk (List.replicate 32 (0:Int)) (List.replicate 32 (0:Int))) () ())⟩
 | 253=>⟨Unit,()⟩
 | _=>⟨Unit,()⟩
def PU(c:Nat):Type:=(PX c).1
def PEnc:(c:Nat)->PU c->A PU
 | 1,(x:Unit)=>.nilf
 | 3,(x:Int)=>.int .i64 x
 | 4,(x:Bool)=>.bool x
 | 5,(x:Int)=>.int .u8 x
 | 9,(x:ByteArray)=>.str x
 | 21,(x:Int)=>.int .i32 x
 | 22,(x:(List S_api_User))=>.ro false 40 x
 | 23,(x:(List S_api_Head))=>.ro false 45 x
 | 24,(x:(List S_api_Session))=>.ro false 47 x
 | 26,(x:S_api_Directory)=>.agg [.int .i64 x.f0,.ro false 40 x.f1,.ro false 45 x.f2,.ro false 47 x.f3]
 | 27,(x:Int)=>.int .i64 x
 | 29,(x:(List Int))=>.arr 5 32 x
 | 31,(x:S_api_Command)=>.agg [.int .i64 x.f0,.int .i64 x.f1,.int .i64 x.f2,.str x.f3,.str x.f4,.int .i64 x.f5,.arr 5 32 x.f6]
 | 34,(x:Int)=>.int .i64 x
 | 38,(x:(List S_api_Version))=>.ro false 43 x
 | 40,(x:S_api_User)=>.agg [.str x.f0,.ro false 43 x.f1]
 | 41,(x:Int)=>.int .i64 x
 | 43,(x:S_api_Version)=>.agg [.int .i64 x.f0,.int .i64 x.f1,.str x.f2]
 | 45,(x:S_api_Head)=>.agg [.int .i64 x.f0,.arr 5 32 x.f1,.arr 5 32 x.f2]
 | 47,(x:S_api_Session)=>.agg [.int .i64 x.f0,.int .i64 x.f1,.int .i64 x.f2,.int .i64 x.f3]
 | 55,(x:(List (List Int)))=>.ro false 29 x
 | 63,(x:(List S_api_Command))=>.ro false 31 x
 | 65,(x:(List S_api_Signed))=>.ro false 68 x
 | 68,(x:S_api_Signed)=>.agg [.agg [.int .i64 x.f0.f0,.arr 5 32 x.f0.f1,.arr 5 32 x.f0.f2],.arr 5 32 x.f1]
 | 80,(x:Unit)=>.nilp
 | 83,(x:S_directory_work)=>.agg [.agg [.int .i64 x.f0.f0,.ro false 40 x.f0.f1,.ro false 45 x.f0.f2,.ro false 47 x.f0.f3]]
 | 100,(x:(List S_api_Leaf))=>.ro false 140 x
 | 110,(x:Unit)=>.nilf
 | 111,(x:Unit)=>.nilf
 | 116,(x:Unit)=>.nilf
 | 117,(x:Unit)=>.nilf
 | 120,(x:S_head_link)=>.agg [.int .i64 x.f0,.arr 5 32 x.f1]
 | 130,(x:Unit)=>.nilp
 | 137,(x:Unit)=>.nilf
 | 140,(x:S_api_Leaf)=>.agg [.arr 5 32 x.f0,.arr 5 32 x.f1]
 | 145,(x:(List Int))=>.ro false 5 x
 | 156,(x:Unit)=>.nilf
 | 157,(x:Unit)=>.nilf
 | 161,(x:Unit)=>.nilf
 | 169,(x:Unit)=>.nilp
 | 181,(x:Unit)=>.nilp
 | 186,(x:Unit)=>.nilf
 | 189,(x:Int)=>.int .u32 x
 | 190,(x:(List Int))=>.arr 189 8 x
 | 196,(x:(List Int))=>.arr 5 64 x
 | 198,(x:Unit)=>.nilf
 | 199,(x:Unit)=>.nilf
 | 201,(x:Int)=>.int .u64 x
 | 206,(x:Unit)=>.nilp
 | 208,(x:S_smt_Tree)=>.agg [.int .i64 x.f0,.int .i64 x.f1,.nilp]
 | 213,(x:Unit)=>.nilp
 | 215,(x:S_version_laid)=>.agg [.ro false 5 x.f0]
 | 216,(x:Unit)=>.nilf
 | 219,(x:S_sha_Hash)=>.agg [.arr 189 8 x.f0,.arr 5 64 x.f1,.int .i64 x.f2]
 | 220,(x:(List Int))=>.arr 5 72 x
 | 221,(x:Int)=>.int .u64 x
 | 226,(x:(List Int))=>.arr 189 64 x
 | 228,(x:Unit)=>.nilf
 | 229,(x:Unit)=>.nilf
 | 234,(x:Unit)=>.nilf
 | 236,(x:S_sync_noCopy)=>.agg []
 | 237,(x:S_sync_noCopy)=>.agg []
 | 239,(x:S_sync_atomic_Bool)=>.agg [.agg [],.int .u32 x.f1]
 | 241,(x:S_internal_sync_Mutex)=>.agg [.int .i32 x.f0,.int .u32 x.f1]
 | 243,(x:S_sync_Mutex)=>.agg [.agg [],.agg [.int .i32 x.f1.f0,.int .u32 x.f1.f1]]
 | 245,(x:S_sync_Once)=>.agg [.agg [],.agg [.agg [],.int .u32 x.f1.f1],.agg [.agg [],.agg [.int .i32 x.f2.f1.f0,.int .u32 x.f2.f1.f1]]]
 | 247,(x:S_smt_made)=>.agg [.agg [.agg [],.agg [.agg [],.int .u32 x.f0.f1.f1],.agg [.agg [],.agg [.int .i32 x.f0.f2.f1.f0,.int .u32 x.f0.f2.f1.f1]]],.arr 5 32 x.f1]
 | 249,(x:S_smt_knot)=>.agg [.agg [.agg [.agg [],.agg [.agg [],.int .u32 x.f0.f0.f1.f1],.agg [.agg [],.agg [.int .i32 x.f0.f0.f2.f1.f0,.int .u32 x.f0.f0.f2.f1.f1]]],.arr 5 32 x.f0.f1],.agg [.arr 5 32 x.f1.f0,.arr 5 32 x.f1.f1],.nilp,.nilp]
 | 253,(x:Unit)=>.nilf
 | _,_=>.agg []
def PDec:(c:Nat)->A PU->Option (PU c)
 | 1,a=>(dNilf a).bind fun y1=>some y1
 | 3,a=>(dInt .i64 a).bind fun y1=>some y1
 | 4,a=>(dBool a).bind fun y1=>some y1
 | 5,a=>(dInt .u8 a).bind fun y1=>some y1
 | 9,a=>(dStr a).bind fun y1=>some y1
 | 21,a=>(dInt .i32 a).bind fun y1=>some y1
 | 22,a=>(dRo 40 a).bind fun y1=>some y1
 | 23,a=>(dRo 45 a).bind fun y1=>some y1
 | 24,a=>(dRo 47 a).bind fun y1=>some y1
 | 26,a=>(dAgg a).bind fun l1=>(dCons l1).bind fun p2=>(dInt .i64 p2.1).bind fun y3=>(dCons p2.2).bind fun p4=>(dRo 40 p4.1).bind fun y5=>(dCons p4.2).bind fun p6=>(dRo 45 p6.1).bind fun y7=>(dCons p6.2).bind fun p8=>(dRo 47 p8.1).bind fun y9=>(dEnd p8.2).bind fun _=>some (S_api_Directory.mk y3 y5 y7 y9)
 | 27,a=>(dInt .i64 a).bind fun y1=>some y1
 | 29,a=>(dArr 5 32 a).bind fun y1=>some y1
 | 31,a=>(dAgg a).bind fun l1=>(dCons l1).bind fun p2=>(dInt .i64 p2.1).bind fun y3=>(dCons p2.2).bind fun p4=>(dInt .i64 p4.1).bind fun y5=>(dCons p4.2).bind fun p6=>(dInt .i64 p6.1).bind fun y7=>(dCons p6.2).bind fun p8=>(dStr p8.1).bind fun y9=>(dCons p8.2).bind fun p10=>(dStr p10.1).bind fun y11=>(dCons p10.2).bind fun p12=>(dInt .i64 p12.1).bind fun y13=>(dCons p12.2).bind fun p14=>(dArr 5 32 p14.1).bind fun y15=>(dEnd p14.2).bind fun _=>some (S_api_Command.mk y3 y5 y7 y9 y11 y13 y15)
 | 34,a=>(dInt .i64 a).bind fun y1=>some y1
 | 38,a=>(dRo 43 a).bind fun y1=>some y1
 | 40,a=>(dAgg a).bind fun l1=>(dCons l1).bind fun p2=>(dStr p2.1).bind fun y3=>(dCons p2.2).bind fun p4=>(dRo 43 p4.1).bind fun y5=>(dEnd p4.2).bind fun _=>some (S_api_User.mk y3 y5)
 | 41,a=>(dInt .i64 a).bind fun y1=>some y1
 | 43,a=>(dAgg a).bind fun l1=>(dCons l1).bind fun p2=>(dInt .i64 p2.1).bind fun y3=>(dCons p2.2).bind fun p4=>(dInt .i64 p4.1).bind fun y5=>(dCons p4.2).bind fun p6=>(dStr p6.1).bind fun y7=>(dEnd p6.2).bind fun _=>some (S_api_Version.mk y3 y5 y7)
 | 45,a=>(dAgg a).bind fun l1=>(dCons l1).bind fun p2=>(dInt .i64 p2.1).bind fun y3=>(dCons p2.2).bind fun p4=>(dArr 5 32 p4.1).bind fun y5=>(dCons p4.2).bind fun p6=>(dArr 5 32 p6.1).bind fun y7=>(dEnd p6.2).bind fun _=>some (S_api_Head.mk y3 y5 y7)
 | 47,a=>(dAgg a).bind fun l1=>(dCons l1).bind fun p2=>(dInt .i64 p2.1).bind fun y3=>(dCons p2.2).bind fun p4=>(dInt .i64 p4.1).bind fun y5=>(dCons p4.2).bind fun p6=>(dInt .i64 p6.1).bind fun y7=>(dCons p6.2).bind fun p8=>(dInt .i64 p8.1).bind fun y9=>(dEnd p8.2).bind fun _=>some (S_api_Session.mk y3 y5 y7 y9)
 | 55,a=>(dRo 29 a).bind fun y1=>some y1
 | 63,a=>(dRo 31 a).bind fun y1=>some y1
 | 65,a=>(dRo 68 a).bind fun y1=>some y1
 | 68,a=>(dAgg a).bind fun l1=>(dCons l1).bind fun p2=>(dAgg p2.1).bind fun l3=>(dCons l3).bind fun p4=>(dInt .i64 p4.1).bind fun y5=>(dCons p4.2).bind fun p6=>(dArr 5 32 p6.1).bind fun y7=>(dCons p6.2).bind fun p8=>(dArr 5 32 p8.1).bind fun y9=>(dEnd p8.2).bind fun _=>(dCons p2.2).bind fun p10=>(dArr 5 32 p10.1).bind fun y11=>(dEnd p10.2).bind fun _=>some (S_api_Signed.mk (S_api_Head.mk y5 y7 y9) y11)
 | 80,a=>(dNilp a).bind fun y1=>some y1
 | 83,a=>(dAgg a).bind fun l1=>(dCons l1).bind fun p2=>(dAgg p2.1).bind fun l3=>(dCons l3).bind fun p4=>(dInt .i64 p4.1).bind fun y5=>(dCons p4.2).bind fun p6=>(dRo 40 p6.1).bind fun y7=>(dCons p6.2).bind fun p8=>(dRo 45 p8.1).bind fun y9=>(dCons p8.2).bind fun p10=>(dRo 47 p10.1).bind fun y11=>(dEnd p10.2).bind fun _=>(dEnd p2.2).bind fun _=>some (S_directory_work.mk (S_api_Directory.mk y5 y7 y9 y11))
 | 100,a=>(dRo 140 a).bind fun y1=>some y1
 | 110,a=>(dNilf a).bind fun y1=>some y1
 | 111,a=>(dNilf a).bind fun y1=>some y1
 | 116,a=>(dNilf a).bind fun y1=>some y1
 | 117,a=>(dNilf a).bind fun y1=>some y1
 | 120,a=>(dAgg a).bind fun l1=>(dCons l1).bind fun p2=>(dInt .i64 p2.1).bind fun y3=>(dCons p2.2).bind fun p4=>(dArr 5 32 p4.1).bind fun y5=>(dEnd p4.2).bind fun _=>some (S_head_link.mk y3 y5)
 | 130,a=>(dNilp a).bind fun y1=>some y1
 | 137,a=>(dNilf a).bind fun y1=>some y1
 | 140,a=>(dAgg a).bind fun l1=>(dCons l1).bind fun p2=>(dArr 5 32 p2.1).bind fun y3=>(dCons p2.2).bind fun p4=>(dArr 5 32 p4.1).bind fun y5=>(dEnd p4.2).bind fun _=>some (S_api_Leaf.mk y3 y5)
 | 145,a=>(dRo 5 a).bind fun y1=>some y1
 | 156,a=>(dNilf a).bind fun y1=>some y1
 | 157,a=>(dNilf a).bind fun y1=>some y1
 | 161,a=>(dNilf a).bind fun y1=>some y1
 | 169,a=>(dNilp a).bind fun y1=>some y1
 | 181,a=>(dNilp a).bind fun y1=>some y1
 | 186,a=>(dNilf a).bind fun y1=>some y1
 | 189,a=>(dInt .u32 a).bind fun y1=>some y1
 | 190,a=>(dArr 189 8 a).bind fun y1=>some y1
 | 196,a=>(dArr 5 64 a).bind fun y1=>some y1
 | 198,a=>(dNilf a).bind fun y1=>some y1
 | 199,a=>(dNilf a).bind fun y1=>some y1
 | 201,a=>(dInt .u64 a).bind fun y1=>some y1
 | 206,a=>(dNilp a).bind fun y1=>some y1
 | 208,a=>(dAgg a).bind fun l1=>(dCons l1).bind fun p2=>(dInt .i64 p2.1).bind fun y3=>(dCons p2.2).bind fun p4=>(dInt .i64 p4.1).bind fun y5=>(dCons p4.2).bind fun p6=>(dNilp p6.1).bind fun y7=>(dEnd p6.2).bind fun _=>some (S_smt_Tree.mk y3 y5 y7)
 | 213,a=>(dNilp a).bind fun y1=>some y1
 | 215,a=>(dAgg a).bind fun l1=>(dCons l1).bind fun p2=>(dRo 5 p2.1).bind fun y3=>(dEnd p2.2).bind fun _=>some (S_version_laid.mk y3)
 | 216,a=>(dNilf a).bind fun y1=>some y1
 | 219,a=>(dAgg a).bind fun l1=>(dCons l1).bind fun p2=>(dArr 189 8 p2.1).bind fun y3=>(dCons p2.2).bind fun p4=>(dArr 5 64 p4.1).bind fun y5=>(dCons p4.2).bind fun p6=>(dInt .i64 p6.1).bind fun y7=>(dEnd p6.2).bind fun _=>some (S_sha_Hash.mk y3 y5 y7)
 | 220,a=>(dArr 5 72 a).bind fun y1=>some y1
 | 221,a=>(dInt .u64 a).bind fun y1=>some y1
 | 226,a=>(dArr 189 64 a).bind fun y1=>some y1
 | 228,a=>(dNilf a).bind fun y1=>some y1
 | 229,a=>(dNilf a).bind fun y1=>some y1
 | 234,a=>(dNilf a).bind fun y1=>some y1
 | 236,a=>(dAgg a).bind fun l1=>(dEnd l1).bind fun _=>some (S_sync_noCopy.mk )
 | 237,a=>(dAgg a).bind fun l1=>(dEnd l1).bind fun _=>some (S_sync_noCopy.mk )
 | 239,a=>(dAgg a).bind fun l1=>(dCons l1).bind fun p2=>(dAgg p2.1).bind fun l3=>(dEnd l3).bind fun _=>(dCons p2.2).bind fun p4=>(dInt .u32 p4.1).bind fun y5=>(dEnd p4.2).bind fun _=>some (S_sync_atomic_Bool.mk (S_sync_noCopy.mk ) y5)
 | 241,a=>(dAgg a).bind fun l1=>(dCons l1).bind fun p2=>(dInt .i32 p2.1).bind fun y3=>(dCons p2.2).bind fun p4=>(dInt .u32 p4.1).bind fun y5=>(dEnd p4.2).bind fun _=>some (S_internal_sync_Mutex.mk y3 y5)
 | 243,a=>(dAgg a).bind fun l1=>(dCons l1).bind fun p2=>(dAgg p2.1).bind fun l3=>(dEnd l3).bind fun _=>(dCons p2.2).bind fun p4=>(dAgg p4.1).bind fun l5=>(dCons l5).bind fun p6=>(dInt .i32 p6.1).bind fun y7=>(dCons p6.2).bind fun p8=>(dInt .u32 p8.1).bind fun y9=>(dEnd p8.2).bind fun _=>(dEnd p4.2).bind fun _=>some (S_sync_Mutex.mk (S_sync_noCopy.mk ) (S_internal_sync_Mutex.mk y7 y9))
 | 245,a=>(dAgg a).bind fun l1=>(dCons l1).bind fun p2=>(dAgg p2.1).bind fun l3=>(dEnd l3).bind fun _=>(dCons p2.2).bind fun p4=>(dAgg p4.1).bind fun l5=>(dCons l5).bind fun p6=>(dAgg p6.1).bind fun l7=>(dEnd l7).bind fun _=>(dCons p6.2).bind fun p8=>(dInt .u32 p8.1).bind fun y9=>(dEnd p8.2).bind fun _=>(dCons p4.2).bind fun p10=>(dAgg p10.1).bind fun l11=>(dCons l11).bind fun p12=>(dAgg p12.1).bind fun l13=>(dEnd l13).bind fun _=>(dCons p12.2).bind fun p14=>(dAgg p14.1).bind fun l15=>(dCons l15).bind fun p16=>(dInt .i32 p16.1).bind fun y17=>(dCons p16.2).bind fun p18=>(dInt .u32 p18.1).bind fun y19=>(dEnd p18.2).bind fun _=>(dEnd p14.2).bind fun _=>(dEnd p10.2).bind fun _=>some (S_sync_Once.mk (S_sync_noCopy.mk ) (S_sync_atomic_Bool.mk (S_sync_noCopy.mk ) y9) (S_sync_Mutex.mk (S_sync_noCopy.mk ) (S_internal_sync_Mutex.mk y17 y19)))
 | 247,a=>(dAgg a).bind fun l1=>(dCons l1).bind fun p2=>(dAgg p2.1).bind fun l3=>(dCons l3).bind fun p4=>(dAgg p4.1).bind fun l5=>(dEnd l5).bind fun _=>(dCons p4.2).bind fun p6=>(dAgg p6.1).bind fun l7=>(dCons l7).bind fun p8=>(dAgg p8.1).bind fun l9=>(dEnd l9).bind fun _=>(dCons p8.2).bind fun p10=>(dInt .u32 p10.1).bind fun y11=>(dEnd p10.2).bind fun _=>(dCons p6.2).bind fun p12=>(dAgg p12.1).bind fun l13=>(dCons l13).bind fun p14=>(dAgg p14.1).bind fun l15=>(dEnd l15).bind fun _=>(dCons p14.2).bind fun p16=>(dAgg p16.1).bind fun l17=>(dCons l17).bind fun p18=>(dInt .i32 p18.1).bind fun y19=>(dCons p18.2).bind fun p20=>(dInt .u32 p20.1).bind fun y21=>(dEnd p20.2).bind fun _=>(dEnd p16.2).bind fun _=>(dEnd p12.2).bind fun _=>(dCons p2.2).bind fun p22=>(dArr 5 32 p22.1).bind fun y23=>(dEnd p22.2).bind fun _=>some (S_smt_made.mk (S_sync_Once.mk (S_sync_noCopy.mk ) (S_sync_atomic_Bool.mk (S_sync_noCopy.mk ) y11) (S_sync_Mutex.mk (S_sync_noCopy.mk ) (S_internal_sync_Mutex.mk y19 y21))) y23)
 | 249,a=>(dAgg a).bind fun l1=>(dCons l1).bind fun p2=>(dAgg p2.1).bind fun l3=>(dCons l3).bind fun p4=>(dAgg p4.1).bind fun l5=>(dCons l5).bind fun p6=>(dAgg p6.1).bind fun l7=>(dEnd l7).bind fun _=>(dCons p6.2).bind fun p8=>(dAgg p8.1).bind fun l9=>(dCons l9).bind fun p10=>(dAgg p10.1).bind fun l11=>(dEnd l11).bind fun _=>(dCons p10.2).bind fun p12=>(dInt .u32 p12.1).bind fun y13=>(dEnd p12.2).bind fun _=>(dCons p8.2).bind fun p14=>(dAgg p14.1).bind fun l15=>(dCons l15).bind fun p16=>(dAgg p16.1).bind fun l17=>(dEnd l17).bind fun _=>(dCons p16.2).bind fun p18=>(dAgg p18.1).bind fun l19=>(dCons l19).bind fun p20=>(dInt .i32 p20.1).bind fun y21=>(dCons p20.2).bind fun p22=>(dInt .u32 p22.1).bind fun y23=>(dEnd p22.2).bind fun _=>(dEnd p18.2).bind fun _=>(dEnd p14.2).bind fun _=>(dCons p4.2).bind fun p24=>(dArr 5 32 p24.1).bind fun y25=>(dEnd p24.2).bind fun _=>(dCons p2.2).bind fun p26=>(dAgg p26.1).bind fun l27=>(dCons l27).bind fun p28=>(dArr 5 32 p28.1).bind fun y29=>(dCons p28.2).bind fun p30=>(dArr 5 32 p30.1).bind fun y31=>(dEnd p30.2).bind fun _=>(dCons p26.2).bind fun p32=>(dNilp p32.1).bind fun y33=>(dCons p32.2).bind fun p34=>(dNilp p34.1).bind fun y35=>(dEnd p34.2).bind fun _=>some (S_smt_knot.mk (S_smt_made.mk (S_sync_Once.mk (S_sync_noCopy.mk ) (S_sync_atomic_Bool.mk (S_sync_noCopy.mk ) y13) (S_sync_Mutex.mk (S_sync_noCopy.mk ) (S_internal_sync_Mutex.mk y21 y23))) y25) (S_api_Leaf.mk y29 y31) y33 y35)
 | 253,a=>(dNilf a).bind fun y1=>some y1
 | _,_=>.none
def PDfl(c:Nat):PU c:=(PX c).2
def PTys:List Row:=[⟨1,.func,1,8⟩,
 ⟨3,.int .i64,1,8⟩,
 ⟨4,.bool,1,1⟩,
 ⟨5,.int .u8,1,1⟩,
 ⟨9,.str,1,16⟩,
 ⟨21,.int .i32,1,4⟩,
 ⟨22,.sl 40,1,24⟩,
 ⟨23,.sl 45,1,24⟩,
 ⟨24,.sl 47,1,24⟩,
 ⟨26,.st [(3,0),(22,1),(23,2),(24,3)],4,80⟩,
 ⟨27,.int .i64,1,8⟩,
 ⟨29,.arr 32 5,32,32⟩,
 ⟨31,.st [(27,0),(3,1),(3,2),(9,3),(9,4),(3,5),(29,6)],38,96⟩,
 ⟨34,.int .i64,1,8⟩,
 ⟨38,.sl 43,1,24⟩,
 ⟨40,.st [(9,0),(38,1)],2,40⟩,
 ⟨41,.int .i64,1,8⟩,
 ⟨43,.st [(3,0),(41,1),(9,2)],3,32⟩,
 ⟨45,.st [(3,0),(29,1),(29,33)],65,72⟩,
 ⟨47,.st [(3,0),(3,1),(34,2),(3,3)],4,32⟩,
 ⟨55,.sl 29,1,24⟩,
 ⟨63,.sl 31,1,24⟩,
 ⟨65,.sl 68,1,24⟩,
 ⟨68,.st [(45,0),(29,65)],97,104⟩,
 ⟨80,.ptr 83,1,8⟩,
 ⟨83,.st [(26,0)],4,80⟩,
 ⟨100,.sl 140,1,24⟩,
 ⟨110,.func,1,8⟩,
 ⟨111,.func,1,8⟩,
 ⟨116,.func,1,8⟩,
 ⟨117,.func,1,8⟩,
 ⟨120,.st [(3,0),(29,1)],33,40⟩,
 ⟨130,.ptr 47,1,8⟩,
 ⟨137,.func,1,8⟩,
 ⟨140,.st [(29,0),(29,32)],64,64⟩,
 ⟨145,.sl 5,1,24⟩,
 ⟨156,.func,1,8⟩,
 ⟨157,.func,1,8⟩,
 ⟨161,.func,1,8⟩,
 ⟨169,.ptr 208,1,8⟩,
 ⟨181,.ptr 219,1,8⟩,
 ⟨186,.func,1,8⟩,
 ⟨189,.int .u32,1,4⟩,
 ⟨190,.arr 8 189,8,32⟩,
 ⟨196,.arr 64 5,64,64⟩,
 ⟨198,.func,1,8⟩,
 ⟨199,.func,1,8⟩,
 ⟨201,.int .u64,1,8⟩,
 ⟨206,.ptr 249,1,8⟩,
 ⟨208,.st [(3,0),(3,1),(206,2)],3,24⟩,
 ⟨213,.ptr 215,1,8⟩,
 ⟨215,.st [(145,0)],1,24⟩,
 ⟨216,.func,1,8⟩,
 ⟨219,.st [(190,0),(196,8),(3,72)],73,104⟩,
 ⟨220,.arr 72 5,72,72⟩,
 ⟨221,.int .u64,1,8⟩,
 ⟨226,.arr 64 189,64,256⟩,
 ⟨228,.func,1,8⟩,
 ⟨229,.func,1,8⟩,
 ⟨234,.func,1,8⟩,
 ⟨236,.st [],0,0⟩,
 ⟨237,.st [],0,0⟩,
 ⟨239,.st [(237,0),(189,0)],1,4⟩,
 ⟨241,.st [(21,0),(189,1)],2,8⟩,
 ⟨243,.st [(236,0),(241,0)],2,8⟩,
 ⟨245,.st [(236,0),(239,0),(243,1)],3,12⟩,
 ⟨247,.st [(245,0),(29,3)],35,44⟩,
 ⟨249,.st [(247,0),(140,35),(206,99),(206,100)],101,128⟩,
 ⟨253,.func,1,8⟩]
def PCuts:List (FuncId×Nat×List Nat):=[(33,5,[1,3,4]),(92,3,[1,3,13]),(51,3,[0,3,4]),(51,4,[0,3,4]),(196,0,[0,1]),(196,1,[0,1]),(175,2,[0,2,25]),(175,14,[0,9,10,11,12,13,14,15,16,140,141]),(175,23,[0,210,211]),(175,11,[0,2,25]),(139,3,[0,1]),(140,9,[0,2,3,4,5,6,22]),(140,15,[2,3,4,45]),(19,6,[1,3,4,38,39,40]),(19,12,[1,3,87,88,89]),(19,18,[1,3,9,114,115,116]),(19,10,[1,3,4,38,39,40]),(19,9,[1,3,6,38,39,40]),(19,22,[1,3,9,114,115,116]),(19,21,[1,3,11,114,115,116]),(19,2,[1,3]),(19,15,[1,3,87,88,89]),(157,2,[1,2,7,8]),(111,5,[0,1,4,5]),(111,7,[1,4,7]),(29,6,[0,2,5,7,8,9,10,12,25,26]),(29,9,[0,2,5,7,8,9,10,12,25,26]),(112,1,[0,5,6,7]),(20,17,[1,3]),(20,12,[1,3,4]),(20,16,[1,3]),(20,13,[1,3,8]),(20,8,[1,3]),(38,3,[1,10,11,12]),(100,2,[0,1,7,8]),(137,8,[5,6,22,23,24]),(57,3,[1,5,15,16,17]),(129,9,[0,5,6,29,30,31]),(187,2,[0,1,9,10,11]),(167,4,[0,9,10]),(168,5,[3,4,6,7]),(168,11,[4]),(169,8,[0,2,4]),(169,3,[0,2,4]),(169,9,[2,4,8]),(192,4,[4,5]),(172,4,[0,6,7,15,16,17]),(94,2,[1,4,6,7]),(94,4,[1,4,6]),(94,5,[4,6,8]),(94,3,[4,7]),(94,6,[4,8]),(117,3,[0,1,2,8,9,10]),(141,3,[0,1,2,8,9,10]),(122,8,[0,3]),(85,5,[0,3,6,7]),(40,8,[0,3,5]),(40,10,[0,3,7]),(40,9,[0,3,7]),(40,11,[]),(14,13,[4,6,7]),(9,10,[0,1,4,7,11,14]),(10,5,[0,2,3,4,6,11,12]),(10,7,[0,2,3,4,6,11,12]),(10,9,[0,2,3,4,6,11,12]),(10,12,[0,3,4,6,11]),(10,13,[0,3,4,11,15,17]),(10,14,[0,3,11,15,17,18,20]),(10,15,[15,17,18,20,21,23]),(10,6,[0,2,3,4,6,11,12]),(10,10,[0,2,3,4,6,11,12,13,14]),(115,1,[0,5,6,7]),(115,2,[0,5,6,7]),(115,3,[0,4,5,6,7]),(116,3,[2,3,5,7])]
def PProcs:List FuncId:=[38,39,40,54,57,60,69,75,83,84,85,100,101,102,112,115,123,128,129,130,138,139,140,156,157,158,168,173,175,182,183,185,188,191,196,197]
def PLoops:List (FuncId×Nat×List Nat):=[(154,5,[6]),(29,14,[7,8,9,10,14]),(35,5,[5,6]),(35,3,[3,5]),(36,6,[2,7]),(37,5,[2,4,5])]
def PEqb:(c:Nat)->List (PU c)->List (PU c)->Bool
 | 3,x,y=>eqLI x y
 | 4,x,y=>eqLB x y
 | 5,x,y=>eqLI x y
 | 9,x,y=>eqLS x y
 | 21,x,y=>eqLI x y
 | 27,x,y=>eqLI x y
 | 34,x,y=>eqLI x y
 | 41,x,y=>eqLI x y
 | 189,x,y=>eqLI x y
 | 201,x,y=>eqLI x y
 | 221,x,y=>eqLI x y
 | _,_,_=>false
def PToB:(c:Nat)->List (PU c)->Option ByteArray
 | 5,x=>some (bytesOf x)
 | _,_=>.none
def POfB:(c:Nat)->ByteArray->Option (List (PU c))
 | 5,x=>some (bytesTo x)
 | _,_=>.none
def PGlob:Nat->A PU
 | 1=>.rp false 226 [G_sha_keys] 0 []
 | _=>.none
def PKn:Kn PU:={ kp:=206,ks:=249,c:=140,mz:=.agg [.gh 0,.arr 5 32 []],dc:=5,dn:=32,dg:=fun g x=>.arr 5 32 (digT g x) }
noncomputable def PE:Env PU where
 P:=Go.Proofs.Tryz.prog
 kn:=PKn
 tys:=PTys
 enc:=PEnc
 dec:=PDec
 dflt:=PDfl
 eqb:=PEqb
 ofBytes:=POfB
 toBytes:=PToB
 cuts:=PCuts
 procs:=PProcs
 loops:=PLoops
 eqs:=[29,31,45,68,120]
 glob:=PGlob
 lends:=[139]
 reads:=[60]
theorem PEncOk(c:Nat)(x:PU c):closed (PEnc c x)=true/\size PE.sz (PEnc c x)=PE.sz c:=by
 unfold PEnc
 split
 ·exact⟨rfl,rfl⟩
 ·exact⟨rfl,rfl⟩
 ·exact⟨rfl,rfl⟩
 ·exact⟨rfl,rfl⟩
 ·exact⟨rfl,rfl⟩
 ·exact⟨rfl,rfl⟩
 ·exact⟨rfl,rfl⟩
 ·exact⟨rfl,rfl⟩
 ·exact⟨rfl,rfl⟩
 ·exact⟨rfl,rfl⟩
 ·exact⟨rfl,rfl⟩
 ·exact⟨rfl,rfl⟩
 ·exact⟨rfl,rfl⟩
 ·exact⟨rfl,rfl⟩
 ·exact⟨rfl,rfl⟩
 ·exact⟨rfl,rfl⟩
 ·exact⟨rfl,rfl⟩
 ·exact⟨rfl,rfl⟩
 ·exact⟨rfl,rfl⟩
 ·exact⟨rfl,rfl⟩
 ·exact⟨rfl,rfl⟩
 ·exact⟨rfl,rfl⟩
 ·exact⟨rfl,rfl⟩
 ·exact⟨rfl,rfl⟩
 ·exact⟨rfl,rfl⟩
 ·exact⟨rfl,rfl⟩
 ·exact⟨rfl,rfl⟩
 ·exact⟨rfl,rfl⟩
 ·exact⟨rfl,rfl⟩
 ·exact⟨rfl,rfl⟩
 ·exact⟨rfl,rfl⟩
 ·exact⟨rfl,rfl⟩
 ·exact⟨rfl,rfl⟩
 ·exact⟨rfl,rfl⟩
 ·exact⟨rfl,rfl⟩
 ·exact⟨rfl,rfl⟩
 ·exact⟨rfl,rfl⟩
 ·exact⟨rfl,rfl⟩
 ·exact⟨rfl,rfl⟩
 ·exact⟨rfl,rfl⟩
 ·exact⟨rfl,rfl⟩
 ·exact⟨rfl,rfl⟩
 ·exact⟨rfl,rfl⟩
 ·exact⟨rfl,rfl⟩
 ·exact⟨rfl,rfl⟩
 ·exact⟨rfl,rfl⟩
 ·exact⟨rfl,rfl⟩
 ·exact⟨rfl,rfl⟩
 ·exact⟨rfl,rfl⟩
 ·exact⟨rfl,rfl⟩
 ·exact⟨rfl,rfl⟩
 ·exact⟨rfl,rfl⟩
 ·exact⟨rfl,rfl⟩
 ·exact⟨rfl,rfl⟩
 ·exact⟨rfl,rfl⟩
 ·exact⟨rfl,rfl⟩
 ·exact⟨rfl,rfl⟩
 ·exact⟨rfl,rfl⟩
 ·exact⟨rfl,rfl⟩
 ·exact⟨rfl,rfl⟩
 ·exact⟨rfl,rfl⟩
 ·exact⟨rfl,rfl⟩
 ·exact⟨rfl,rfl⟩
 ·exact⟨rfl,rfl⟩
 ·exact⟨rfl,rfl⟩
 ·exact⟨rfl,rfl⟩
 ·exact⟨rfl,rfl⟩
 ·exact⟨rfl,rfl⟩
 ·exact⟨rfl,rfl⟩
 ·rename_i h1 h3 h4 h5 h9 h21 h22 h23 h24 h26 h27 h29 h31 h34 h38 h40 h41 h43 h45 h47 h55 h63 h65 h68 h80 h83 h100 h110 h111 h116 h117 h120 h130 h137 h140 h145 h156 h157 h161 h169 h181 h186 h189 h190 h196 h198 h199 h201 h206 h208 h213 h215 h216 h219 h220 h221 h226 h228 h229 h234 h236 h237 h239 h241 h243 h245 h247 h249 h253
  refine⟨rfl,?_⟩
  show 0=_
  unfold Env.sz
  have hn:rowOf c PE.tys=.none:=by
   refine rowOf_none ?_
   intro r hr
   simp only[PE,PTys,List.mem_cons,List.not_mem_nil,or_false] at hr
   rcases hr with rfl|rfl|rfl|rfl|rfl|rfl|rfl|rfl|rfl|rfl|rfl|rfl|rfl|rfl|rfl|rfl|rfl|rfl|rfl|rfl|rfl|rfl|rfl|rfl|rfl|rfl|rfl|rfl|rfl|rfl|rfl|rfl|rfl|rfl|rfl|rfl|rfl|rfl|rfl|rfl|rfl|rfl|rfl|rfl|rfl|rfl|rfl|rfl|rfl|rfl|rfl|rfl|rfl|rfl|rfl|rfl|rfl|rfl|rfl|rfl|rfl|rfl|rfl|rfl|rfl|rfl|rfl|rfl|rfl<;>intro e<;>subst e
   ·exact h1 _ rfl HEq.rfl
   ·exact h3 _ rfl HEq.rfl
   ·exact h4 _ rfl HEq.rfl
   ·exact h5 _ rfl HEq.rfl
   ·exact h9 _ rfl HEq.rfl
   ·exact h21 _ rfl HEq.rfl
   ·exact h22 _ rfl HEq.rfl
   ·exact h23 _ rfl HEq.rfl
   ·exact h24 _ rfl HEq.rfl
   ·exact h26 _ rfl HEq.rfl
   ·exact h27 _ rfl HEq.rfl
   ·exact h29 _ rfl HEq.rfl
   ·exact h31 _ rfl HEq.rfl
   ·exact h34 _ rfl HEq.rfl
   ·exact h38 _ rfl HEq.rfl
   ·exact h40 _ rfl HEq.rfl
   ·exact h41 _ rfl HEq.rfl
   ·exact h43 _ rfl HEq.rfl
   ·exact h45 _ rfl HEq.rfl
   ·exact h47 _ rfl HEq.rfl
   ·exact h55 _ rfl HEq.rfl
   ·exact h63 _ rfl HEq.rfl
   ·exact h65 _ rfl HEq.rfl
   ·exact h68 _ rfl HEq.rfl
   ·exact h80 _ rfl HEq.rfl
   ·exact h83 _ rfl HEq.rfl
   ·exact h100 _ rfl HEq.rfl
   ·exact h110 _ rfl HEq.rfl
   ·exact h111 _ rfl HEq.rfl
   ·exact h116 _ rfl HEq.rfl
   ·exact h117 _ rfl HEq.rfl
   ·exact h120 _ rfl HEq.rfl
   ·exact h130 _ rfl HEq.rfl
   ·exact h137 _ rfl HEq.rfl
   ·exact h140 _ rfl HEq.rfl
   ·exact h145 _ rfl HEq.rfl
   ·exact h156 _ rfl HEq.rfl
   ·exact h157 _ rfl HEq.rfl
   ·exact h161 _ rfl HEq.rfl
   ·exact h169 _ rfl HEq.rfl
   ·exact h181 _ rfl HEq.rfl
   ·exact h186 _ rfl HEq.rfl
   ·exact h189 _ rfl HEq.rfl
   ·exact h190 _ rfl HEq.rfl
   ·exact h196 _ rfl HEq.rfl
   ·exact h198 _ rfl HEq.rfl
   ·exact h199 _ rfl HEq.rfl
   ·exact h201 _ rfl HEq.rfl
   ·exact h206 _ rfl HEq.rfl
   ·exact h208 _ rfl HEq.rfl
   ·exact h213 _ rfl HEq.rfl
   ·exact h215 _ rfl HEq.rfl
   ·exact h216 _ rfl HEq.rfl
   ·exact h219 _ rfl HEq.rfl
   ·exact h220 _ rfl HEq.rfl
   ·exact h221 _ rfl HEq.rfl
   ·exact h226 _ rfl HEq.rfl
   ·exact h228 _ rfl HEq.rfl
   ·exact h229 _ rfl HEq.rfl
   ·exact h234 _ rfl HEq.rfl
   ·exact h236 _ rfl HEq.rfl
   ·exact h237 _ rfl HEq.rfl
   ·exact h239 _ rfl HEq.rfl
   ·exact h241 _ rfl HEq.rfl
   ·exact h243 _ rfl HEq.rfl
   ·exact h245 _ rfl HEq.rfl
   ·exact h247 _ rfl HEq.rfl
   ·exact h249 _ rfl HEq.rfl
   ·exact h253 _ rfl HEq.rfl
  rw[hn]
theorem PDecOk(c:Nat)(a:A PU)(x:PU c)(h:PDec c a=some x):PEnc c x=a:=by
 unfold PDec at h
 split at h
 ·obtain⟨y1,e1,h1⟩:=Option.bind_eq_some_iff.1 h
  obtain rfl:a=.nilf:=dNilf_ok e1
  cases h1;rfl
 ·obtain⟨y1,e1,h1⟩:=Option.bind_eq_some_iff.1 h
  obtain rfl:a=.int .i64 y1:=dInt_ok e1
  cases h1;rfl
 ·obtain⟨y1,e1,h1⟩:=Option.bind_eq_some_iff.1 h
  obtain rfl:a=.bool y1:=dBool_ok e1
  cases h1;rfl
 ·obtain⟨y1,e1,h1⟩:=Option.bind_eq_some_iff.1 h
  obtain rfl:a=.int .u8 y1:=dInt_ok e1
  cases h1;rfl
 ·obtain⟨y1,e1,h1⟩:=Option.bind_eq_some_iff.1 h
  obtain rfl:a=.str y1:=dStr_ok e1
  cases h1;rfl
 ·obtain⟨y1,e1,h1⟩:=Option.bind_eq_some_iff.1 h
  obtain rfl:a=.int .i32 y1:=dInt_ok e1
  cases h1;rfl
 ·obtain⟨y1,e1,h1⟩:=Option.bind_eq_some_iff.1 h
  obtain rfl:a=.ro false 40 y1:=dRo_ok e1
  cases h1;rfl
 ·obtain⟨y1,e1,h1⟩:=Option.bind_eq_some_iff.1 h
  obtain rfl:a=.ro false 45 y1:=dRo_ok e1
  cases h1;rfl
 ·obtain⟨y1,e1,h1⟩:=Option.bind_eq_some_iff.1 h
  obtain rfl:a=.ro false 47 y1:=dRo_ok e1
  cases h1;rfl
 ·obtain⟨l1,e1,h1⟩:=Option.bind_eq_some_iff.1 h
  obtain rfl:a=.agg l1:=dAgg_ok e1
  obtain⟨⟨q2,r2⟩,e2,h2⟩:=Option.bind_eq_some_iff.1 h1
  obtain rfl:l1=q2::r2:=dCons_ok e2
  obtain⟨y3,e3,h3⟩:=Option.bind_eq_some_iff.1 h2
  obtain rfl:q2=.int .i64 y3:=dInt_ok e3
  obtain⟨⟨q4,r4⟩,e4,h4⟩:=Option.bind_eq_some_iff.1 h3
  obtain rfl:r2=q4::r4:=dCons_ok e4
  obtain⟨y5,e5,h5⟩:=Option.bind_eq_some_iff.1 h4
  obtain rfl:q4=.ro false 40 y5:=dRo_ok e5
  obtain⟨⟨q6,r6⟩,e6,h6⟩:=Option.bind_eq_some_iff.1 h5
  obtain rfl:r4=q6::r6:=dCons_ok e6
  obtain⟨y7,e7,h7⟩:=Option.bind_eq_some_iff.1 h6
  obtain rfl:q6=.ro false 45 y7:=dRo_ok e7
  obtain⟨⟨q8,r8⟩,e8,h8⟩:=Option.bind_eq_some_iff.1 h7
  obtain rfl:r6=q8::r8:=dCons_ok e8
  obtain⟨y9,e9,h9⟩:=Option.bind_eq_some_iff.1 h8
  obtain rfl:q8=.ro false 47 y9:=dRo_ok e9
  obtain⟨_,e10,h10⟩:=Option.bind_eq_some_iff.1 h9
  obtain rfl:r8=[]:=dEnd_ok e10
  cases h10;rfl
 ·obtain⟨y1,e1,h1⟩:=Option.bind_eq_some_iff.1 h
  obtain rfl:a=.int .i64 y1:=dInt_ok e1
  cases h1;rfl
 ·obtain⟨y1,e1,h1⟩:=Option.bind_eq_some_iff.1 h
  obtain rfl:a=.arr 5 32 y1:=dArr_ok e1
  cases h1;rfl
 ·obtain⟨l1,e1,h1⟩:=Option.bind_eq_some_iff.1 h
  obtain rfl:a=.agg l1:=dAgg_ok e1
  obtain⟨⟨q2,r2⟩,e2,h2⟩:=Option.bind_eq_some_iff.1 h1
  obtain rfl:l1=q2::r2:=dCons_ok e2
  obtain⟨y3,e3,h3⟩:=Option.bind_eq_some_iff.1 h2
  obtain rfl:q2=.int .i64 y3:=dInt_ok e3
  obtain⟨⟨q4,r4⟩,e4,h4⟩:=Option.bind_eq_some_iff.1 h3
  obtain rfl:r2=q4::r4:=dCons_ok e4
  obtain⟨y5,e5,h5⟩:=Option.bind_eq_some_iff.1 h4
  obtain rfl:q4=.int .i64 y5:=dInt_ok e5
  obtain⟨⟨q6,r6⟩,e6,h6⟩:=Option.bind_eq_some_iff.1 h5
  obtain rfl:r4=q6::r6:=dCons_ok e6
  obtain⟨y7,e7,h7⟩:=Option.bind_eq_some_iff.1 h6
  obtain rfl:q6=.int .i64 y7:=dInt_ok e7
  obtain⟨⟨q8,r8⟩,e8,h8⟩:=Option.bind_eq_some_iff.1 h7
  obtain rfl:r6=q8::r8:=dCons_ok e8
  obtain⟨y9,e9,h9⟩:=Option.bind_eq_some_iff.1 h8
  obtain rfl:q8=.str y9:=dStr_ok e9
  obtain⟨⟨q10,r10⟩,e10,h10⟩:=Option.bind_eq_some_iff.1 h9
  obtain rfl:r8=q10::r10:=dCons_ok e10
  obtain⟨y11,e11,h11⟩:=Option.bind_eq_some_iff.1 h10
  obtain rfl:q10=.str y11:=dStr_ok e11
  obtain⟨⟨q12,r12⟩,e12,h12⟩:=Option.bind_eq_some_iff.1 h11
  obtain rfl:r10=q12::r12:=dCons_ok e12
  obtain⟨y13,e13,h13⟩:=Option.bind_eq_some_iff.1 h12
  obtain rfl:q12=.int .i64 y13:=dInt_ok e13
  obtain⟨⟨q14,r14⟩,e14,h14⟩:=Option.bind_eq_some_iff.1 h13
  obtain rfl:r12=q14::r14:=dCons_ok e14
  obtain⟨y15,e15,h15⟩:=Option.bind_eq_some_iff.1 h14
  obtain rfl:q14=.arr 5 32 y15:=dArr_ok e15
  obtain⟨_,e16,h16⟩:=Option.bind_eq_some_iff.1 h15
  obtain rfl:r14=[]:=dEnd_ok e16
  cases h16;rfl
 ·obtain⟨y1,e1,h1⟩:=Option.bind_eq_some_iff.1 h
  obtain rfl:a=.int .i64 y1:=dInt_ok e1
  cases h1;rfl
 ·obtain⟨y1,e1,h1⟩:=Option.bind_eq_some_iff.1 h
  obtain rfl:a=.ro false 43 y1:=dRo_ok e1
  cases h1;rfl
 ·obtain⟨l1,e1,h1⟩:=Option.bind_eq_some_iff.1 h
  obtain rfl:a=.agg l1:=dAgg_ok e1
  obtain⟨⟨q2,r2⟩,e2,h2⟩:=Option.bind_eq_some_iff.1 h1
  obtain rfl:l1=q2::r2:=dCons_ok e2
  obtain⟨y3,e3,h3⟩:=Option.bind_eq_some_iff.1 h2
  obtain rfl:q2=.str y3:=dStr_ok e3
  obtain⟨⟨q4,r4⟩,e4,h4⟩:=Option.bind_eq_some_iff.1 h3
  obtain rfl:r2=q4::r4:=dCons_ok e4
  obtain⟨y5,e5,h5⟩:=Option.bind_eq_some_iff.1 h4
  obtain rfl:q4=.ro false 43 y5:=dRo_ok e5
  obtain⟨_,e6,h6⟩:=Option.bind_eq_some_iff.1 h5
  obtain rfl:r4=[]:=dEnd_ok e6
  cases h6;rfl
 ·obtain⟨y1,e1,h1⟩:=Option.bind_eq_some_iff.1 h
  obtain rfl:a=.int .i64 y1:=dInt_ok e1
  cases h1;rfl
 ·obtain⟨l1,e1,h1⟩:=Option.bind_eq_some_iff.1 h
  obtain rfl:a=.agg l1:=dAgg_ok e1
  obtain⟨⟨q2,r2⟩,e2,h2⟩:=Option.bind_eq_some_iff.1 h1
  obtain rfl:l1=q2::r2:=dCons_ok e2
  obtain⟨y3,e3,h3⟩:=Option.bind_eq_some_iff.1 h2
  obtain rfl:q2=.int .i64 y3:=dInt_ok e3
  obtain⟨⟨q4,r4⟩,e4,h4⟩:=Option.bind_eq_some_iff.1 h3
  obtain rfl:r2=q4::r4:=dCons_ok e4
  obtain⟨y5,e5,h5⟩:=Option.bind_eq_some_iff.1 h4
  obtain rfl:q4=.int .i64 y5:=dInt_ok e5
  obtain⟨⟨q6,r6⟩,e6,h6⟩:=Option.bind_eq_some_iff.1 h5
  obtain rfl:r4=q6::r6:=dCons_ok e6
  obtain⟨y7,e7,h7⟩:=Option.bind_eq_some_iff.1 h6
  obtain rfl:q6=.str y7:=dStr_ok e7
  obtain⟨_,e8,h8⟩:=Option.bind_eq_some_iff.1 h7
  obtain rfl:r6=[]:=dEnd_ok e8
  cases h8;rfl
 ·obtain⟨l1,e1,h1⟩:=Option.bind_eq_some_iff.1 h
  obtain rfl:a=.agg l1:=dAgg_ok e1
  obtain⟨⟨q2,r2⟩,e2,h2⟩:=Option.bind_eq_some_iff.1 h1
  obtain rfl:l1=q2::r2:=dCons_ok e2
  obtain⟨y3,e3,h3⟩:=Option.bind_eq_some_iff.1 h2
  obtain rfl:q2=.int .i64 y3:=dInt_ok e3
  obtain⟨⟨q4,r4⟩,e4,h4⟩:=Option.bind_eq_some_iff.1 h3
  obtain rfl:r2=q4::r4:=dCons_ok e4
  obtain⟨y5,e5,h5⟩:=Option.bind_eq_some_iff.1 h4
  obtain rfl:q4=.arr 5 32 y5:=dArr_ok e5
  obtain⟨⟨q6,r6⟩,e6,h6⟩:=Option.bind_eq_some_iff.1 h5
  obtain rfl:r4=q6::r6:=dCons_ok e6
  obtain⟨y7,e7,h7⟩:=Option.bind_eq_some_iff.1 h6
  obtain rfl:q6=.arr 5 32 y7:=dArr_ok e7
  obtain⟨_,e8,h8⟩:=Option.bind_eq_some_iff.1 h7
  obtain rfl:r6=[]:=dEnd_ok e8
  cases h8;rfl
 ·obtain⟨l1,e1,h1⟩:=Option.bind_eq_some_iff.1 h
  obtain rfl:a=.agg l1:=dAgg_ok e1
  obtain⟨⟨q2,r2⟩,e2,h2⟩:=Option.bind_eq_some_iff.1 h1
  obtain rfl:l1=q2::r2:=dCons_ok e2
  obtain⟨y3,e3,h3⟩:=Option.bind_eq_some_iff.1 h2
  obtain rfl:q2=.int .i64 y3:=dInt_ok e3
  obtain⟨⟨q4,r4⟩,e4,h4⟩:=Option.bind_eq_some_iff.1 h3
  obtain rfl:r2=q4::r4:=dCons_ok e4
  obtain⟨y5,e5,h5⟩:=Option.bind_eq_some_iff.1 h4
  obtain rfl:q4=.int .i64 y5:=dInt_ok e5
  obtain⟨⟨q6,r6⟩,e6,h6⟩:=Option.bind_eq_some_iff.1 h5
  obtain rfl:r4=q6::r6:=dCons_ok e6
  obtain⟨y7,e7,h7⟩:=Option.bind_eq_some_iff.1 h6
  obtain rfl:q6=.int .i64 y7:=dInt_ok e7
  obtain⟨⟨q8,r8⟩,e8,h8⟩:=Option.bind_eq_some_iff.1 h7
  obtain rfl:r6=q8::r8:=dCons_ok e8
  obtain⟨y9,e9,h9⟩:=Option.bind_eq_some_iff.1 h8
  obtain rfl:q8=.int .i64 y9:=dInt_ok e9
  obtain⟨_,e10,h10⟩:=Option.bind_eq_some_iff.1 h9
  obtain rfl:r8=[]:=dEnd_ok e10
  cases h10;rfl
 ·obtain⟨y1,e1,h1⟩:=Option.bind_eq_some_iff.1 h
  obtain rfl:a=.ro false 29 y1:=dRo_ok e1
  cases h1;rfl
 ·obtain⟨y1,e1,h1⟩:=Option.bind_eq_some_iff.1 h
  obtain rfl:a=.ro false 31 y1:=dRo_ok e1
  cases h1;rfl
 ·obtain⟨y1,e1,h1⟩:=Option.bind_eq_some_iff.1 h
  obtain rfl:a=.ro false 68 y1:=dRo_ok e1
  cases h1;rfl
 ·obtain⟨l1,e1,h1⟩:=Option.bind_eq_some_iff.1 h
  obtain rfl:a=.agg l1:=dAgg_ok e1
  obtain⟨⟨q2,r2⟩,e2,h2⟩:=Option.bind_eq_some_iff.1 h1
  obtain rfl:l1=q2::r2:=dCons_ok e2
  obtain⟨l3,e3,h3⟩:=Option.bind_eq_some_iff.1 h2
  obtain rfl:q2=.agg l3:=dAgg_ok e3
  obtain⟨⟨q4,r4⟩,e4,h4⟩:=Option.bind_eq_some_iff.1 h3
  obtain rfl:l3=q4::r4:=dCons_ok e4
  obtain⟨y5,e5,h5⟩:=Option.bind_eq_some_iff.1 h4
  obtain rfl:q4=.int .i64 y5:=dInt_ok e5
  obtain⟨⟨q6,r6⟩,e6,h6⟩:=Option.bind_eq_some_iff.1 h5
  obtain rfl:r4=q6::r6:=dCons_ok e6
  obtain⟨y7,e7,h7⟩:=Option.bind_eq_some_iff.1 h6
  obtain rfl:q6=.arr 5 32 y7:=dArr_ok e7
  obtain⟨⟨q8,r8⟩,e8,h8⟩:=Option.bind_eq_some_iff.1 h7
  obtain rfl:r6=q8::r8:=dCons_ok e8
  obtain⟨y9,e9,h9⟩:=Option.bind_eq_some_iff.1 h8
  obtain rfl:q8=.arr 5 32 y9:=dArr_ok e9
  obtain⟨_,e10,h10⟩:=Option.bind_eq_some_iff.1 h9
  obtain rfl:r8=[]:=dEnd_ok e10
  obtain⟨⟨q10,r10⟩,e11,h11⟩:=Option.bind_eq_some_iff.1 h10
  obtain rfl:r2=q10::r10:=dCons_ok e11
  obtain⟨y11,e12,h12⟩:=Option.bind_eq_some_iff.1 h11
  obtain rfl:q10=.arr 5 32 y11:=dArr_ok e12
  obtain⟨_,e13,h13⟩:=Option.bind_eq_some_iff.1 h12
  obtain rfl:r10=[]:=dEnd_ok e13
  cases h13;rfl
 ·obtain⟨y1,e1,h1⟩:=Option.bind_eq_some_iff.1 h
  obtain rfl:a=.nilp:=dNilp_ok e1
  cases h1;rfl
 ·obtain⟨l1,e1,h1⟩:=Option.bind_eq_some_iff.1 h
  obtain rfl:a=.agg l1:=dAgg_ok e1
  obtain⟨⟨q2,r2⟩,e2,h2⟩:=Option.bind_eq_some_iff.1 h1
  obtain rfl:l1=q2::r2:=dCons_ok e2
  obtain⟨l3,e3,h3⟩:=Option.bind_eq_some_iff.1 h2
  obtain rfl:q2=.agg l3:=dAgg_ok e3
  obtain⟨⟨q4,r4⟩,e4,h4⟩:=Option.bind_eq_some_iff.1 h3
  obtain rfl:l3=q4::r4:=dCons_ok e4
  obtain⟨y5,e5,h5⟩:=Option.bind_eq_some_iff.1 h4
  obtain rfl:q4=.int .i64 y5:=dInt_ok e5
  obtain⟨⟨q6,r6⟩,e6,h6⟩:=Option.bind_eq_some_iff.1 h5
  obtain rfl:r4=q6::r6:=dCons_ok e6
  obtain⟨y7,e7,h7⟩:=Option.bind_eq_some_iff.1 h6
  obtain rfl:q6=.ro false 40 y7:=dRo_ok e7
  obtain⟨⟨q8,r8⟩,e8,h8⟩:=Option.bind_eq_some_iff.1 h7
  obtain rfl:r6=q8::r8:=dCons_ok e8
  obtain⟨y9,e9,h9⟩:=Option.bind_eq_some_iff.1 h8
  obtain rfl:q8=.ro false 45 y9:=dRo_ok e9
  obtain⟨⟨q10,r10⟩,e10,h10⟩:=Option.bind_eq_some_iff.1 h9
  obtain rfl:r8=q10::r10:=dCons_ok e10
  obtain⟨y11,e11,h11⟩:=Option.bind_eq_some_iff.1 h10
  obtain rfl:q10=.ro false 47 y11:=dRo_ok e11
  obtain⟨_,e12,h12⟩:=Option.bind_eq_some_iff.1 h11
  obtain rfl:r10=[]:=dEnd_ok e12
  obtain⟨_,e13,h13⟩:=Option.bind_eq_some_iff.1 h12
  obtain rfl:r2=[]:=dEnd_ok e13
  cases h13;rfl
 ·obtain⟨y1,e1,h1⟩:=Option.bind_eq_some_iff.1 h
  obtain rfl:a=.ro false 140 y1:=dRo_ok e1
  cases h1;rfl
 ·obtain⟨y1,e1,h1⟩:=Option.bind_eq_some_iff.1 h
  obtain rfl:a=.nilf:=dNilf_ok e1
  cases h1;rfl
 ·obtain⟨y1,e1,h1⟩:=Option.bind_eq_some_iff.1 h
  obtain rfl:a=.nilf:=dNilf_ok e1
  cases h1;rfl
 ·obtain⟨y1,e1,h1⟩:=Option.bind_eq_some_iff.1 h
  obtain rfl:a=.nilf:=dNilf_ok e1
  cases h1;rfl
 ·obtain⟨y1,e1,h1⟩:=Option.bind_eq_some_iff.1 h
  obtain rfl:a=.nilf:=dNilf_ok e1
  cases h1;rfl
 ·obtain⟨l1,e1,h1⟩:=Option.bind_eq_some_iff.1 h
  obtain rfl:a=.agg l1:=dAgg_ok e1
  obtain⟨⟨q2,r2⟩,e2,h2⟩:=Option.bind_eq_some_iff.1 h1
  obtain rfl:l1=q2::r2:=dCons_ok e2
  obtain⟨y3,e3,h3⟩:=Option.bind_eq_some_iff.1 h2
  obtain rfl:q2=.int .i64 y3:=dInt_ok e3
  obtain⟨⟨q4,r4⟩,e4,h4⟩:=Option.bind_eq_some_iff.1 h3
  obtain rfl:r2=q4::r4:=dCons_ok e4
  obtain⟨y5,e5,h5⟩:=Option.bind_eq_some_iff.1 h4
  obtain rfl:q4=.arr 5 32 y5:=dArr_ok e5
  obtain⟨_,e6,h6⟩:=Option.bind_eq_some_iff.1 h5
  obtain rfl:r4=[]:=dEnd_ok e6
  cases h6;rfl
 ·obtain⟨y1,e1,h1⟩:=Option.bind_eq_some_iff.1 h
  obtain rfl:a=.nilp:=dNilp_ok e1
  cases h1;rfl
 ·obtain⟨y1,e1,h1⟩:=Option.bind_eq_some_iff.1 h
  obtain rfl:a=.nilf:=dNilf_ok e1
  cases h1;rfl
 ·obtain⟨l1,e1,h1⟩:=Option.bind_eq_some_iff.1 h
  obtain rfl:a=.agg l1:=dAgg_ok e1
  obtain⟨⟨q2,r2⟩,e2,h2⟩:=Option.bind_eq_some_iff.1 h1
  obtain rfl:l1=q2::r2:=dCons_ok e2
  obtain⟨y3,e3,h3⟩:=Option.bind_eq_some_iff.1 h2
  obtain rfl:q2=.arr 5 32 y3:=dArr_ok e3
  obtain⟨⟨q4,r4⟩,e4,h4⟩:=Option.bind_eq_some_iff.1 h3
  obtain rfl:r2=q4::r4:=dCons_ok e4
  obtain⟨y5,e5,h5⟩:=Option.bind_eq_some_iff.1 h4
  obtain rfl:q4=.arr 5 32 y5:=dArr_ok e5
  obtain⟨_,e6,h6⟩:=Option.bind_eq_some_iff.1 h5
  obtain rfl:r4=[]:=dEnd_ok e6
  cases h6;rfl
 ·obtain⟨y1,e1,h1⟩:=Option.bind_eq_some_iff.1 h
  obtain rfl:a=.ro false 5 y1:=dRo_ok e1
  cases h1;rfl
 ·obtain⟨y1,e1,h1⟩:=Option.bind_eq_some_iff.1 h
  obtain rfl:a=.nilf:=dNilf_ok e1
  cases h1;rfl
 ·obtain⟨y1,e1,h1⟩:=Option.bind_eq_some_iff.1 h
  obtain rfl:a=.nilf:=dNilf_ok e1
  cases h1;rfl
 ·obtain⟨y1,e1,h1⟩:=Option.bind_eq_some_iff.1 h
  obtain rfl:a=.nilf:=dNilf_ok e1
  cases h1;rfl
 ·obtain⟨y1,e1,h1⟩:=Option.bind_eq_some_iff.1 h
  obtain rfl:a=.nilp:=dNilp_ok e1
  cases h1;rfl
 ·obtain⟨y1,e1,h1⟩:=Option.bind_eq_some_iff.1 h
  obtain rfl:a=.nilp:=dNilp_ok e1
  cases h1;rfl
 ·obtain⟨y1,e1,h1⟩:=Option.bind_eq_some_iff.1 h
  obtain rfl:a=.nilf:=dNilf_ok e1
  cases h1;rfl
 ·obtain⟨y1,e1,h1⟩:=Option.bind_eq_some_iff.1 h
  obtain rfl:a=.int .u32 y1:=dInt_ok e1
  cases h1;rfl
 ·obtain⟨y1,e1,h1⟩:=Option.bind_eq_some_iff.1 h
  obtain rfl:a=.arr 189 8 y1:=dArr_ok e1
  cases h1;rfl
 ·obtain⟨y1,e1,h1⟩:=Option.bind_eq_some_iff.1 h
  obtain rfl:a=.arr 5 64 y1:=dArr_ok e1
  cases h1;rfl
 ·obtain⟨y1,e1,h1⟩:=Option.bind_eq_some_iff.1 h
  obtain rfl:a=.nilf:=dNilf_ok e1
  cases h1;rfl
 ·obtain⟨y1,e1,h1⟩:=Option.bind_eq_some_iff.1 h
  obtain rfl:a=.nilf:=dNilf_ok e1
  cases h1;rfl
 ·obtain⟨y1,e1,h1⟩:=Option.bind_eq_some_iff.1 h
  obtain rfl:a=.int .u64 y1:=dInt_ok e1
  cases h1;rfl
 ·obtain⟨y1,e1,h1⟩:=Option.bind_eq_some_iff.1 h
  obtain rfl:a=.nilp:=dNilp_ok e1
  cases h1;rfl
 ·obtain⟨l1,e1,h1⟩:=Option.bind_eq_some_iff.1 h
  obtain rfl:a=.agg l1:=dAgg_ok e1
  obtain⟨⟨q2,r2⟩,e2,h2⟩:=Option.bind_eq_some_iff.1 h1
  obtain rfl:l1=q2::r2:=dCons_ok e2
  obtain⟨y3,e3,h3⟩:=Option.bind_eq_some_iff.1 h2
  obtain rfl:q2=.int .i64 y3:=dInt_ok e3
  obtain⟨⟨q4,r4⟩,e4,h4⟩:=Option.bind_eq_some_iff.1 h3
  obtain rfl:r2=q4::r4:=dCons_ok e4
  obtain⟨y5,e5,h5⟩:=Option.bind_eq_some_iff.1 h4
  obtain rfl:q4=.int .i64 y5:=dInt_ok e5
  obtain⟨⟨q6,r6⟩,e6,h6⟩:=Option.bind_eq_some_iff.1 h5
  obtain rfl:r4=q6::r6:=dCons_ok e6
  obtain⟨y7,e7,h7⟩:=Option.bind_eq_some_iff.1 h6
  obtain rfl:q6=.nilp:=dNilp_ok e7
  obtain⟨_,e8,h8⟩:=Option.bind_eq_some_iff.1 h7
  obtain rfl:r6=[]:=dEnd_ok e8
  cases h8;rfl
 ·obtain⟨y1,e1,h1⟩:=Option.bind_eq_some_iff.1 h
  obtain rfl:a=.nilp:=dNilp_ok e1
  cases h1;rfl
 ·obtain⟨l1,e1,h1⟩:=Option.bind_eq_some_iff.1 h
  obtain rfl:a=.agg l1:=dAgg_ok e1
  obtain⟨⟨q2,r2⟩,e2,h2⟩:=Option.bind_eq_some_iff.1 h1
  obtain rfl:l1=q2::r2:=dCons_ok e2
  obtain⟨y3,e3,h3⟩:=Option.bind_eq_some_iff.1 h2
  obtain rfl:q2=.ro false 5 y3:=dRo_ok e3
  obtain⟨_,e4,h4⟩:=Option.bind_eq_some_iff.1 h3
  obtain rfl:r2=[]:=dEnd_ok e4
  cases h4;rfl
 ·obtain⟨y1,e1,h1⟩:=Option.bind_eq_some_iff.1 h
  obtain rfl:a=.nilf:=dNilf_ok e1
  cases h1;rfl
 ·obtain⟨l1,e1,h1⟩:=Option.bind_eq_some_iff.1 h
  obtain rfl:a=.agg l1:=dAgg_ok e1
  obtain⟨⟨q2,r2⟩,e2,h2⟩:=Option.bind_eq_some_iff.1 h1
  obtain rfl:l1=q2::r2:=dCons_ok e2
  obtain⟨y3,e3,h3⟩:=Option.bind_eq_some_iff.1 h2
  obtain rfl:q2=.arr 189 8 y3:=dArr_ok e3
  obtain⟨⟨q4,r4⟩,e4,h4⟩:=Option.bind_eq_some_iff.1 h3
  obtain rfl:r2=q4::r4:=dCons_ok e4
  obtain⟨y5,e5,h5⟩:=Option.bind_eq_some_iff.1 h4
  obtain rfl:q4=.arr 5 64 y5:=dArr_ok e5
  obtain⟨⟨q6,r6⟩,e6,h6⟩:=Option.bind_eq_some_iff.1 h5
  obtain rfl:r4=q6::r6:=dCons_ok e6
  obtain⟨y7,e7,h7⟩:=Option.bind_eq_some_iff.1 h6
  obtain rfl:q6=.int .i64 y7:=dInt_ok e7
  obtain⟨_,e8,h8⟩:=Option.bind_eq_some_iff.1 h7
  obtain rfl:r6=[]:=dEnd_ok e8
  cases h8;rfl
 ·obtain⟨y1,e1,h1⟩:=Option.bind_eq_some_iff.1 h
  obtain rfl:a=.arr 5 72 y1:=dArr_ok e1
  cases h1;rfl
 ·obtain⟨y1,e1,h1⟩:=Option.bind_eq_some_iff.1 h
  obtain rfl:a=.int .u64 y1:=dInt_ok e1
  cases h1;rfl
 ·obtain⟨y1,e1,h1⟩:=Option.bind_eq_some_iff.1 h
  obtain rfl:a=.arr 189 64 y1:=dArr_ok e1
  cases h1;rfl
 ·obtain⟨y1,e1,h1⟩:=Option.bind_eq_some_iff.1 h
  obtain rfl:a=.nilf:=dNilf_ok e1
  cases h1;rfl
 ·obtain⟨y1,e1,h1⟩:=Option.bind_eq_some_iff.1 h
  obtain rfl:a=.nilf:=dNilf_ok e1
  cases h1;rfl
 ·obtain⟨y1,e1,h1⟩:=Option.bind_eq_some_iff.1 h
  obtain rfl:a=.nilf:=dNilf_ok e1
  cases h1;rfl
 ·obtain⟨l1,e1,h1⟩:=Option.bind_eq_some_iff.1 h
  obtain rfl:a=.agg l1:=dAgg_ok e1
  obtain⟨_,e2,h2⟩:=Option.bind_eq_some_iff.1 h1
  obtain rfl:l1=[]:=dEnd_ok e2
  cases h2;rfl
 ·obtain⟨l1,e1,h1⟩:=Option.bind_eq_some_iff.1 h
  obtain rfl:a=.agg l1:=dAgg_ok e1
  obtain⟨_,e2,h2⟩:=Option.bind_eq_some_iff.1 h1
  obtain rfl:l1=[]:=dEnd_ok e2
  cases h2;rfl
 ·obtain⟨l1,e1,h1⟩:=Option.bind_eq_some_iff.1 h
  obtain rfl:a=.agg l1:=dAgg_ok e1
  obtain⟨⟨q2,r2⟩,e2,h2⟩:=Option.bind_eq_some_iff.1 h1
  obtain rfl:l1=q2::r2:=dCons_ok e2
  obtain⟨l3,e3,h3⟩:=Option.bind_eq_some_iff.1 h2
  obtain rfl:q2=.agg l3:=dAgg_ok e3
  obtain⟨_,e4,h4⟩:=Option.bind_eq_some_iff.1 h3
  obtain rfl:l3=[]:=dEnd_ok e4
  obtain⟨⟨q4,r4⟩,e5,h5⟩:=Option.bind_eq_some_iff.1 h4
  obtain rfl:r2=q4::r4:=dCons_ok e5
  obtain⟨y5,e6,h6⟩:=Option.bind_eq_some_iff.1 h5
  obtain rfl:q4=.int .u32 y5:=dInt_ok e6
  obtain⟨_,e7,h7⟩:=Option.bind_eq_some_iff.1 h6
  obtain rfl:r4=[]:=dEnd_ok e7
  cases h7;rfl
 ·obtain⟨l1,e1,h1⟩:=Option.bind_eq_some_iff.1 h
  obtain rfl:a=.agg l1:=dAgg_ok e1
  obtain⟨⟨q2,r2⟩,e2,h2⟩:=Option.bind_eq_some_iff.1 h1
  obtain rfl:l1=q2::r2:=dCons_ok e2
  obtain⟨y3,e3,h3⟩:=Option.bind_eq_some_iff.1 h2
  obtain rfl:q2=.int .i32 y3:=dInt_ok e3
  obtain⟨⟨q4,r4⟩,e4,h4⟩:=Option.bind_eq_some_iff.1 h3
  obtain rfl:r2=q4::r4:=dCons_ok e4
  obtain⟨y5,e5,h5⟩:=Option.bind_eq_some_iff.1 h4
  obtain rfl:q4=.int .u32 y5:=dInt_ok e5
  obtain⟨_,e6,h6⟩:=Option.bind_eq_some_iff.1 h5
  obtain rfl:r4=[]:=dEnd_ok e6
  cases h6;rfl
 ·obtain⟨l1,e1,h1⟩:=Option.bind_eq_some_iff.1 h
  obtain rfl:a=.agg l1:=dAgg_ok e1
  obtain⟨⟨q2,r2⟩,e2,h2⟩:=Option.bind_eq_some_iff.1 h1
  obtain rfl:l1=q2::r2:=dCons_ok e2
  obtain⟨l3,e3,h3⟩:=Option.bind_eq_some_iff.1 h2
  obtain rfl:q2=.agg l3:=dAgg_ok e3
  obtain⟨_,e4,h4⟩:=Option.bind_eq_some_iff.1 h3
  obtain rfl:l3=[]:=dEnd_ok e4
  obtain⟨⟨q4,r4⟩,e5,h5⟩:=Option.bind_eq_some_iff.1 h4
  obtain rfl:r2=q4::r4:=dCons_ok e5
  obtain⟨l5,e6,h6⟩:=Option.bind_eq_some_iff.1 h5
  obtain rfl:q4=.agg l5:=dAgg_ok e6
  obtain⟨⟨q6,r6⟩,e7,h7⟩:=Option.bind_eq_some_iff.1 h6
  obtain rfl:l5=q6::r6:=dCons_ok e7
  obtain⟨y7,e8,h8⟩:=Option.bind_eq_some_iff.1 h7
  obtain rfl:q6=.int .i32 y7:=dInt_ok e8
  obtain⟨⟨q8,r8⟩,e9,h9⟩:=Option.bind_eq_some_iff.1 h8
  obtain rfl:r6=q8::r8:=dCons_ok e9
  obtain⟨y9,e10,h10⟩:=Option.bind_eq_some_iff.1 h9
  obtain rfl:q8=.int .u32 y9:=dInt_ok e10
  obtain⟨_,e11,h11⟩:=Option.bind_eq_some_iff.1 h10
  obtain rfl:r8=[]:=dEnd_ok e11
  obtain⟨_,e12,h12⟩:=Option.bind_eq_some_iff.1 h11
  obtain rfl:r4=[]:=dEnd_ok e12
  cases h12;rfl
 ·obtain⟨l1,e1,h1⟩:=Option.bind_eq_some_iff.1 h
  obtain rfl:a=.agg l1:=dAgg_ok e1
  obtain⟨⟨q2,r2⟩,e2,h2⟩:=Option.bind_eq_some_iff.1 h1
  obtain rfl:l1=q2::r2:=dCons_ok e2
  obtain⟨l3,e3,h3⟩:=Option.bind_eq_some_iff.1 h2
  obtain rfl:q2=.agg l3:=dAgg_ok e3
  obtain⟨_,e4,h4⟩:=Option.bind_eq_some_iff.1 h3
  obtain rfl:l3=[]:=dEnd_ok e4
  obtain⟨⟨q4,r4⟩,e5,h5⟩:=Option.bind_eq_some_iff.1 h4
  obtain rfl:r2=q4::r4:=dCons_ok e5
  obtain⟨l5,e6,h6⟩:=Option.bind_eq_some_iff.1 h5
  obtain rfl:q4=.agg l5:=dAgg_ok e6
  obtain⟨⟨q6,r6⟩,e7,h7⟩:=Option.bind_eq_some_iff.1 h6
  obtain rfl:l5=q6::r6:=dCons_ok e7
  obtain⟨l7,e8,h8⟩:=Option.bind_eq_some_iff.1 h7
  obtain rfl:q6=.agg l7:=dAgg_ok e8
  obtain⟨_,e9,h9⟩:=Option.bind_eq_some_iff.1 h8
  obtain rfl:l7=[]:=dEnd_ok e9
  obtain⟨⟨q8,r8⟩,e10,h10⟩:=Option.bind_eq_some_iff.1 h9
  obtain rfl:r6=q8::r8:=dCons_ok e10
  obtain⟨y9,e11,h11⟩:=Option.bind_eq_some_iff.1 h10
  obtain rfl:q8=.int .u32 y9:=dInt_ok e11
  obtain⟨_,e12,h12⟩:=Option.bind_eq_some_iff.1 h11
  obtain rfl:r8=[]:=dEnd_ok e12
  obtain⟨⟨q10,r10⟩,e13,h13⟩:=Option.bind_eq_some_iff.1 h12
  obtain rfl:r4=q10::r10:=dCons_ok e13
  obtain⟨l11,e14,h14⟩:=Option.bind_eq_some_iff.1 h13
  obtain rfl:q10=.agg l11:=dAgg_ok e14
  obtain⟨⟨q12,r12⟩,e15,h15⟩:=Option.bind_eq_some_iff.1 h14
  obtain rfl:l11=q12::r12:=dCons_ok e15
  obtain⟨l13,e16,h16⟩:=Option.bind_eq_some_iff.1 h15
  obtain rfl:q12=.agg l13:=dAgg_ok e16
  obtain⟨_,e17,h17⟩:=Option.bind_eq_some_iff.1 h16
  obtain rfl:l13=[]:=dEnd_ok e17
  obtain⟨⟨q14,r14⟩,e18,h18⟩:=Option.bind_eq_some_iff.1 h17
  obtain rfl:r12=q14::r14:=dCons_ok e18
  obtain⟨l15,e19,h19⟩:=Option.bind_eq_some_iff.1 h18
  obtain rfl:q14=.agg l15:=dAgg_ok e19
  obtain⟨⟨q16,r16⟩,e20,h20⟩:=Option.bind_eq_some_iff.1 h19
  obtain rfl:l15=q16::r16:=dCons_ok e20
  obtain⟨y17,e21,h21⟩:=Option.bind_eq_some_iff.1 h20
  obtain rfl:q16=.int .i32 y17:=dInt_ok e21
  obtain⟨⟨q18,r18⟩,e22,h22⟩:=Option.bind_eq_some_iff.1 h21
  obtain rfl:r16=q18::r18:=dCons_ok e22
  obtain⟨y19,e23,h23⟩:=Option.bind_eq_some_iff.1 h22
  obtain rfl:q18=.int .u32 y19:=dInt_ok e23
  obtain⟨_,e24,h24⟩:=Option.bind_eq_some_iff.1 h23
  obtain rfl:r18=[]:=dEnd_ok e24
  obtain⟨_,e25,h25⟩:=Option.bind_eq_some_iff.1 h24
  obtain rfl:r14=[]:=dEnd_ok e25
  obtain⟨_,e26,h26⟩:=Option.bind_eq_some_iff.1 h25
  obtain rfl:r10=[]:=dEnd_ok e26
  cases h26;rfl
 ·obtain⟨l1,e1,h1⟩:=Option.bind_eq_some_iff.1 h
  obtain rfl:a=.agg l1:=dAgg_ok e1
  obtain⟨⟨q2,r2⟩,e2,h2⟩:=Option.bind_eq_some_iff.1 h1
  obtain rfl:l1=q2::r2:=dCons_ok e2
  obtain⟨l3,e3,h3⟩:=Option.bind_eq_some_iff.1 h2
  obtain rfl:q2=.agg l3:=dAgg_ok e3
  obtain⟨⟨q4,r4⟩,e4,h4⟩:=Option.bind_eq_some_iff.1 h3
  obtain rfl:l3=q4::r4:=dCons_ok e4
  obtain⟨l5,e5,h5⟩:=Option.bind_eq_some_iff.1 h4
  obtain rfl:q4=.agg l5:=dAgg_ok e5
  obtain⟨_,e6,h6⟩:=Option.bind_eq_some_iff.1 h5
  obtain rfl:l5=[]:=dEnd_ok e6
  obtain⟨⟨q6,r6⟩,e7,h7⟩:=Option.bind_eq_some_iff.1 h6
  obtain rfl:r4=q6::r6:=dCons_ok e7
  obtain⟨l7,e8,h8⟩:=Option.bind_eq_some_iff.1 h7
  obtain rfl:q6=.agg l7:=dAgg_ok e8
  obtain⟨⟨q8,r8⟩,e9,h9⟩:=Option.bind_eq_some_iff.1 h8
  obtain rfl:l7=q8::r8:=dCons_ok e9
  obtain⟨l9,e10,h10⟩:=Option.bind_eq_some_iff.1 h9
  obtain rfl:q8=.agg l9:=dAgg_ok e10
  obtain⟨_,e11,h11⟩:=Option.bind_eq_some_iff.1 h10
  obtain rfl:l9=[]:=dEnd_ok e11
  obtain⟨⟨q10,r10⟩,e12,h12⟩:=Option.bind_eq_some_iff.1 h11
  obtain rfl:r8=q10::r10:=dCons_ok e12
  obtain⟨y11,e13,h13⟩:=Option.bind_eq_some_iff.1 h12
  obtain rfl:q10=.int .u32 y11:=dInt_ok e13
  obtain⟨_,e14,h14⟩:=Option.bind_eq_some_iff.1 h13
  obtain rfl:r10=[]:=dEnd_ok e14
  obtain⟨⟨q12,r12⟩,e15,h15⟩:=Option.bind_eq_some_iff.1 h14
  obtain rfl:r6=q12::r12:=dCons_ok e15
  obtain⟨l13,e16,h16⟩:=Option.bind_eq_some_iff.1 h15
  obtain rfl:q12=.agg l13:=dAgg_ok e16
  obtain⟨⟨q14,r14⟩,e17,h17⟩:=Option.bind_eq_some_iff.1 h16
  obtain rfl:l13=q14::r14:=dCons_ok e17
  obtain⟨l15,e18,h18⟩:=Option.bind_eq_some_iff.1 h17
  obtain rfl:q14=.agg l15:=dAgg_ok e18
  obtain⟨_,e19,h19⟩:=Option.bind_eq_some_iff.1 h18
  obtain rfl:l15=[]:=dEnd_ok e19
  obtain⟨⟨q16,r16⟩,e20,h20⟩:=Option.bind_eq_some_iff.1 h19
  obtain rfl:r14=q16::r16:=dCons_ok e20
  obtain⟨l17,e21,h21⟩:=Option.bind_eq_some_iff.1 h20
  obtain rfl:q16=.agg l17:=dAgg_ok e21
  obtain⟨⟨q18,r18⟩,e22,h22⟩:=Option.bind_eq_some_iff.1 h21
  obtain rfl:l17=q18::r18:=dCons_ok e22
  obtain⟨y19,e23,h23⟩:=Option.bind_eq_some_iff.1 h22
  obtain rfl:q18=.int .i32 y19:=dInt_ok e23
  obtain⟨⟨q20,r20⟩,e24,h24⟩:=Option.bind_eq_some_iff.1 h23
  obtain rfl:r18=q20::r20:=dCons_ok e24
  obtain⟨y21,e25,h25⟩:=Option.bind_eq_some_iff.1 h24
  obtain rfl:q20=.int .u32 y21:=dInt_ok e25
  obtain⟨_,e26,h26⟩:=Option.bind_eq_some_iff.1 h25
  obtain rfl:r20=[]:=dEnd_ok e26
  obtain⟨_,e27,h27⟩:=Option.bind_eq_some_iff.1 h26
  obtain rfl:r16=[]:=dEnd_ok e27
  obtain⟨_,e28,h28⟩:=Option.bind_eq_some_iff.1 h27
  obtain rfl:r12=[]:=dEnd_ok e28
  obtain⟨⟨q22,r22⟩,e29,h29⟩:=Option.bind_eq_some_iff.1 h28
  obtain rfl:r2=q22::r22:=dCons_ok e29
  obtain⟨y23,e30,h30⟩:=Option.bind_eq_some_iff.1 h29
  obtain rfl:q22=.arr 5 32 y23:=dArr_ok e30
  obtain⟨_,e31,h31⟩:=Option.bind_eq_some_iff.1 h30
  obtain rfl:r22=[]:=dEnd_ok e31
  cases h31;rfl
 ·obtain⟨l1,e1,h1⟩:=Option.bind_eq_some_iff.1 h
  obtain rfl:a=.agg l1:=dAgg_ok e1
  obtain⟨⟨q2,r2⟩,e2,h2⟩:=Option.bind_eq_some_iff.1 h1
  obtain rfl:l1=q2::r2:=dCons_ok e2
  obtain⟨l3,e3,h3⟩:=Option.bind_eq_some_iff.1 h2
  obtain rfl:q2=.agg l3:=dAgg_ok e3
  obtain⟨⟨q4,r4⟩,e4,h4⟩:=Option.bind_eq_some_iff.1 h3
  obtain rfl:l3=q4::r4:=dCons_ok e4
  obtain⟨l5,e5,h5⟩:=Option.bind_eq_some_iff.1 h4
  obtain rfl:q4=.agg l5:=dAgg_ok e5
  obtain⟨⟨q6,r6⟩,e6,h6⟩:=Option.bind_eq_some_iff.1 h5
  obtain rfl:l5=q6::r6:=dCons_ok e6
  obtain⟨l7,e7,h7⟩:=Option.bind_eq_some_iff.1 h6
  obtain rfl:q6=.agg l7:=dAgg_ok e7
  obtain⟨_,e8,h8⟩:=Option.bind_eq_some_iff.1 h7
  obtain rfl:l7=[]:=dEnd_ok e8
  obtain⟨⟨q8,r8⟩,e9,h9⟩:=Option.bind_eq_some_iff.1 h8
  obtain rfl:r6=q8::r8:=dCons_ok e9
  obtain⟨l9,e10,h10⟩:=Option.bind_eq_some_iff.1 h9
  obtain rfl:q8=.agg l9:=dAgg_ok e10
  obtain⟨⟨q10,r10⟩,e11,h11⟩:=Option.bind_eq_some_iff.1 h10
  obtain rfl:l9=q10::r10:=dCons_ok e11
  obtain⟨l11,e12,h12⟩:=Option.bind_eq_some_iff.1 h11
  obtain rfl:q10=.agg l11:=dAgg_ok e12
  obtain⟨_,e13,h13⟩:=Option.bind_eq_some_iff.1 h12
  obtain rfl:l11=[]:=dEnd_ok e13
  obtain⟨⟨q12,r12⟩,e14,h14⟩:=Option.bind_eq_some_iff.1 h13
  obtain rfl:r10=q12::r12:=dCons_ok e14
  obtain⟨y13,e15,h15⟩:=Option.bind_eq_some_iff.1 h14
  obtain rfl:q12=.int .u32 y13:=dInt_ok e15
  obtain⟨_,e16,h16⟩:=Option.bind_eq_some_iff.1 h15
  obtain rfl:r12=[]:=dEnd_ok e16
  obtain⟨⟨q14,r14⟩,e17,h17⟩:=Option.bind_eq_some_iff.1 h16
  obtain rfl:r8=q14::r14:=dCons_ok e17
  obtain⟨l15,e18,h18⟩:=Option.bind_eq_some_iff.1 h17
  obtain rfl:q14=.agg l15:=dAgg_ok e18
  obtain⟨⟨q16,r16⟩,e19,h19⟩:=Option.bind_eq_some_iff.1 h18
  obtain rfl:l15=q16::r16:=dCons_ok e19
  obtain⟨l17,e20,h20⟩:=Option.bind_eq_some_iff.1 h19
  obtain rfl:q16=.agg l17:=dAgg_ok e20
  obtain⟨_,e21,h21⟩:=Option.bind_eq_some_iff.1 h20
  obtain rfl:l17=[]:=dEnd_ok e21
  obtain⟨⟨q18,r18⟩,e22,h22⟩:=Option.bind_eq_some_iff.1 h21
  obtain rfl:r16=q18::r18:=dCons_ok e22
  obtain⟨l19,e23,h23⟩:=Option.bind_eq_some_iff.1 h22
  obtain rfl:q18=.agg l19:=dAgg_ok e23
  obtain⟨⟨q20,r20⟩,e24,h24⟩:=Option.bind_eq_some_iff.1 h23
  obtain rfl:l19=q20::r20:=dCons_ok e24
  obtain⟨y21,e25,h25⟩:=Option.bind_eq_some_iff.1 h24
  obtain rfl:q20=.int .i32 y21:=dInt_ok e25
  obtain⟨⟨q22,r22⟩,e26,h26⟩:=Option.bind_eq_some_iff.1 h25
  obtain rfl:r20=q22::r22:=dCons_ok e26
  obtain⟨y23,e27,h27⟩:=Option.bind_eq_some_iff.1 h26
  obtain rfl:q22=.int .u32 y23:=dInt_ok e27
  obtain⟨_,e28,h28⟩:=Option.bind_eq_some_iff.1 h27
  obtain rfl:r22=[]:=dEnd_ok e28
  obtain⟨_,e29,h29⟩:=Option.bind_eq_some_iff.1 h28
  obtain rfl:r18=[]:=dEnd_ok e29
  obtain⟨_,e30,h30⟩:=Option.bind_eq_some_iff.1 h29
  obtain rfl:r14=[]:=dEnd_ok e30
  obtain⟨⟨q24,r24⟩,e31,h31⟩:=Option.bind_eq_some_iff.1 h30
  obtain rfl:r4=q24::r24:=dCons_ok e31
  obtain⟨y25,e32,h32⟩:=Option.bind_eq_some_iff.1 h31
  obtain rfl:q24=.arr 5 32 y25:=dArr_ok e32
  obtain⟨_,e33,h33⟩:=Option.bind_eq_some_iff.1 h32
  obtain rfl:r24=[]:=dEnd_ok e33
  obtain⟨⟨q26,r26⟩,e34,h34⟩:=Option.bind_eq_some_iff.1 h33
  obtain rfl:r2=q26::r26:=dCons_ok e34
  obtain⟨l27,e35,h35⟩:=Option.bind_eq_some_iff.1 h34
  obtain rfl:q26=.agg l27:=dAgg_ok e35
  obtain⟨⟨q28,r28⟩,e36,h36⟩:=Option.bind_eq_some_iff.1 h35
  obtain rfl:l27=q28::r28:=dCons_ok e36
  obtain⟨y29,e37,h37⟩:=Option.bind_eq_some_iff.1 h36
  obtain rfl:q28=.arr 5 32 y29:=dArr_ok e37
  obtain⟨⟨q30,r30⟩,e38,h38⟩:=Option.bind_eq_some_iff.1 h37
  obtain rfl:r28=q30::r30:=dCons_ok e38
  obtain⟨y31,e39,h39⟩:=Option.bind_eq_some_iff.1 h38
  obtain rfl:q30=.arr 5 32 y31:=dArr_ok e39
  obtain⟨_,e40,h40⟩:=Option.bind_eq_some_iff.1 h39
  obtain rfl:r30=[]:=dEnd_ok e40
  obtain⟨⟨q32,r32⟩,e41,h41⟩:=Option.bind_eq_some_iff.1 h40
  obtain rfl:r26=q32::r32:=dCons_ok e41
  obtain⟨y33,e42,h42⟩:=Option.bind_eq_some_iff.1 h41
  obtain rfl:q32=.nilp:=dNilp_ok e42
  obtain⟨⟨q34,r34⟩,e43,h43⟩:=Option.bind_eq_some_iff.1 h42
  obtain rfl:r32=q34::r34:=dCons_ok e43
  obtain⟨y35,e44,h44⟩:=Option.bind_eq_some_iff.1 h43
  obtain rfl:q34=.nilp:=dNilp_ok e44
  obtain⟨_,e45,h45⟩:=Option.bind_eq_some_iff.1 h44
  obtain rfl:r34=[]:=dEnd_ok e45
  cases h45;rfl
 ·obtain⟨y1,e1,h1⟩:=Option.bind_eq_some_iff.1 h
  obtain rfl:a=.nilf:=dNilf_ok e1
  cases h1;rfl
 ·cases h
theorem PPlain:∀ r∈PE.tys,plainTy r.ty=true->PlainOk PE r.t:=
 List.forall_mem_cons.2 ⟨(fun h=>nomatch h),
 List.forall_mem_cons.2 ⟨(fun _=>⟨fun l m=>eqLI_iff l m,fun x y=>⟨decI x y,rfl,decI_iff x y⟩⟩),
 List.forall_mem_cons.2 ⟨(fun _=>⟨fun l m=>eqLB_iff l m,fun x y=>⟨decB x y,rfl,decB_iff x y⟩⟩),
 List.forall_mem_cons.2 ⟨(fun _=>⟨fun l m=>eqLI_iff l m,fun x y=>⟨decI x y,rfl,decI_iff x y⟩⟩),
 List.forall_mem_cons.2 ⟨(fun _=>⟨fun l m=>eqLS_iff l m,fun x y=>⟨seq x y,rfl,seq_iff⟩⟩),
 List.forall_mem_cons.2 ⟨(fun _=>⟨fun l m=>eqLI_iff l m,fun x y=>⟨decI x y,rfl,decI_iff x y⟩⟩),
 List.forall_mem_cons.2 ⟨(fun h=>nomatch h),
 List.forall_mem_cons.2 ⟨(fun h=>nomatch h),
 List.forall_mem_cons.2 ⟨(fun h=>nomatch h),
 List.forall_mem_cons.2 ⟨(fun h=>nomatch h),
 List.forall_mem_cons.2 ⟨(fun _=>⟨fun l m=>eqLI_iff l m,fun x y=>⟨decI x y,rfl,decI_iff x y⟩⟩),
 List.forall_mem_cons.2 ⟨(fun h=>nomatch h),
 List.forall_mem_cons.2 ⟨(fun h=>nomatch h),
 List.forall_mem_cons.2 ⟨(fun _=>⟨fun l m=>eqLI_iff l m,fun x y=>⟨decI x y,rfl,decI_iff x y⟩⟩),
 List.forall_mem_cons.2 ⟨(fun h=>nomatch h),
 List.forall_mem_cons.2 ⟨(fun h=>nomatch h),
 List.forall_mem_cons.2 ⟨(fun _=>⟨fun l m=>eqLI_iff l m,fun x y=>⟨decI x y,rfl,decI_iff x y⟩⟩),
 List.forall_mem_cons.2 ⟨(fun h=>nomatch h),
 List.forall_mem_cons.2 ⟨(fun h=>nomatch h),
 List.forall_mem_cons.2 ⟨(fun h=>nomatch h),
 List.forall_mem_cons.2 ⟨(fun h=>nomatch h),
 List.forall_mem_cons.2 ⟨(fun h=>nomatch h),
 List.forall_mem_cons.2 ⟨(fun h=>nomatch h),
 List.forall_mem_cons.2 ⟨(fun h=>nomatch h),
 List.forall_mem_cons.2 ⟨(fun h=>nomatch h),
 List.forall_mem_cons.2 ⟨(fun h=>nomatch h),
 List.forall_mem_cons.2 ⟨(fun h=>nomatch h),
 List.forall_mem_cons.2 ⟨(fun h=>nomatch h),
 List.forall_mem_cons.2 ⟨(fun h=>nomatch h),
 List.forall_mem_cons.2 ⟨(fun h=>nomatch h),
 List.forall_mem_cons.2 ⟨(fun h=>nomatch h),
 List.forall_mem_cons.2 ⟨(fun h=>nomatch h),
 List.forall_mem_cons.2 ⟨(fun h=>nomatch h),
 List.forall_mem_cons.2 ⟨(fun h=>nomatch h),
 List.forall_mem_cons.2 ⟨(fun h=>nomatch h),
 List.forall_mem_cons.2 ⟨(fun h=>nomatch h),
 List.forall_mem_cons.2 ⟨(fun h=>nomatch h),
 List.forall_mem_cons.2 ⟨(fun h=>nomatch h),
 List.forall_mem_cons.2 ⟨(fun h=>nomatch h),
 List.forall_mem_cons.2 ⟨(fun h=>nomatch h),
 List.forall_mem_cons.2 ⟨(fun h=>nomatch h),
 List.forall_mem_cons.2 ⟨(fun h=>nomatch h),
 List.forall_mem_cons.2 ⟨(fun _=>⟨fun l m=>eqLI_iff l m,fun x y=>⟨decI x y,rfl,decI_iff x y⟩⟩),
 List.forall_mem_cons.2 ⟨(fun h=>nomatch h),
 List.forall_mem_cons.2 ⟨(fun h=>nomatch h),
 List.forall_mem_cons.2 ⟨(fun h=>nomatch h),
 List.forall_mem_cons.2 ⟨(fun h=>nomatch h),
 List.forall_mem_cons.2 ⟨(fun _=>⟨fun l m=>eqLI_iff l m,fun x y=>⟨decI x y,rfl,decI_iff x y⟩⟩),
 List.forall_mem_cons.2 ⟨(fun h=>nomatch h),
 List.forall_mem_cons.2 ⟨(fun h=>nomatch h),
 List.forall_mem_cons.2 ⟨(fun h=>nomatch h),
 List.forall_mem_cons.2 ⟨(fun h=>nomatch h),
 List.forall_mem_cons.2 ⟨(fun h=>nomatch h),
 List.forall_mem_cons.2 ⟨(fun h=>nomatch h),
 List.forall_mem_cons.2 ⟨(fun h=>nomatch h),
 List.forall_mem_cons.2 ⟨(fun _=>⟨fun l m=>eqLI_iff l m,fun x y=>⟨decI x y,rfl,decI_iff x y⟩⟩),
 List.forall_mem_cons.2 ⟨(fun h=>nomatch h),
 List.forall_mem_cons.2 ⟨(fun h=>nomatch h),
 List.forall_mem_cons.2 ⟨(fun h=>nomatch h),
 List.forall_mem_cons.2 ⟨(fun h=>nomatch h),
 List.forall_mem_cons.2 ⟨(fun h=>nomatch h),
 List.forall_mem_cons.2 ⟨(fun h=>nomatch h),
 List.forall_mem_cons.2 ⟨(fun h=>nomatch h),
 List.forall_mem_cons.2 ⟨(fun h=>nomatch h),
 List.forall_mem_cons.2 ⟨(fun h=>nomatch h),
 List.forall_mem_cons.2 ⟨(fun h=>nomatch h),
 List.forall_mem_cons.2 ⟨(fun h=>nomatch h),
 List.forall_mem_cons.2 ⟨(fun h=>nomatch h),
 List.forall_mem_cons.2 ⟨(fun h=>nomatch h),
 (fun _ h=>nomatch h)⟩⟩⟩⟩⟩⟩⟩⟩⟩⟩⟩⟩⟩⟩⟩⟩⟩⟩⟩⟩⟩⟩⟩⟩⟩⟩⟩⟩⟩⟩⟩⟩⟩⟩⟩⟩⟩⟩⟩⟩⟩⟩⟩⟩⟩⟩⟩⟩⟩⟩⟩⟩⟩⟩⟩⟩⟩⟩⟩⟩⟩⟩⟩⟩⟩⟩⟩⟩⟩
theorem PToBOk(c:Nat)(l:List (PU c))(t:ByteArray)(h:PToB c l=some t):PE.ty c=.int .u8/\∃ ns:List Int,l.map (PE.enc c)=ns.map (.int .u8)/\t=bytesOf ns:=by
 unfold PToB at h
 split at h
 ·rename_i x;cases h;exact⟨rfl,x,List.map_congr_left fun _ _=>rfl,rfl⟩
 ·cases h
theorem POfBOk(c:Nat)(t:ByteArray)(l:List (PU c))(h:POfB c t=some l):PE.ty c=.int .u8/\l.map (PE.enc c)=(bytesTo t).map (.int .u8):=by
 unfold POfB at h
 split at h
 ·cases h;exact⟨rfl,List.map_congr_left fun _ _=>rfl⟩
 ·cases h
theorem PGlobOk(g:Nat):loan (PGlob g)=false/\noTupG (PGlob g)=true:=by
 unfold PGlob
 split<;>exact⟨rfl,rfl⟩
theorem PEok:EnvOk2 PE:=envOk_of PE ⟨fun c x=>(PEncOk c x).1,fun c x=>(PEncOk c x).2,PDecOk,fun _ _=>rfl⟩ (by kernel_rfl) (by kernel_rfl) ⟨PGlobOk,eqA_of PPlain,by kernel_rfl,PToBOk,POfBOk⟩
end Go.V
