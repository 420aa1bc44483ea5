import Derived.Test.YtgeonfbhejigjaaGreatDoorVI10F
import Derived.Test.YtgeonfbhejigjaaGreatDoorVJ10
import Derived.Test.YtgeonfbhejigjaaGreatDoorProg
set_option linter.unusedVariables false
namespace Go.V
open Go
def PX:Nat->(α:Type)×α
 | 1=>⟨Unit,()⟩
 | 3=>⟨Int,(0:Int)⟩
 | 4=>⟨Bool,false⟩
 | 5=>⟨Int,(0:Int)⟩
 | 9=>⟨ByteArray,ByteArray.empty⟩
 | 21=>⟨Int,(0:Int)⟩
 | 22=>⟨(List S_api_User),([]:List S_api_User)⟩
 | 23=>⟨(List S_api_Head),([]:List S_api_Head)⟩
 | 24=>⟨(List S_api_Session),([]:List S_api_Session)⟩
 | 26=>⟨S_api_Directory,(S_api_Directory.mk (0:Int) ([]:List S_api_User) ([]:List S_api_Head) ([]:List S_api_Session))⟩
 | 27=>⟨Int,(0:Int)⟩
 | 29=>⟨(List Int),(List.replicate 32 (0:Int))⟩
 | 31=>⟨S_api_Command,(S_api_Command.mk (0:Int) (0:Int) (0:Int) ByteArray.empty ByteArray.empty (0:Int) (List.replicate 32 (0:Int)))⟩
 | 34=>⟨Int,(0:Int)⟩
 | 38=>⟨(List S_api_Version),([]:List S_api_Version)⟩
 | 40=>⟨S_api_User,(S_api_User.mk ByteArray.empty ([]:List S_api_Version))⟩
 | 41=>⟨Int,(0:Int)⟩
 | 43=>⟨S_api_Version,(S_api_Version.mk (0:Int) (0:Int) ByteArray.empty)⟩
 | 45=>⟨S_api_Head,(S_api_Head.mk (0:Int) (List.replicate 32 (0:Int)) (List.replicate 32 (0:Int)))⟩
 | 47=>⟨S_api_Session,(S_api_Session.mk (0:Int) (0:Int) (0:Int) (0:Int))⟩
 | 55=>⟨(List (List Int)),([]:List (List Int))⟩
 | 57=>⟨S_api_Proof,(S_api_Proof.mk ([]:List (List Int)) false (List.replicate 32 (0:Int)) (List.replicate 32 (0:Int)))⟩
 | 65=>⟨(List S_api_Signed),([]:List S_api_Signed)⟩
 | 68=>⟨S_api_Signed,(S_api_Signed.mk (S_api_Head.mk (0:Int) (List.replicate 32 (0:Int)) (List.replicate 32 (0:Int))) (List.replicate 32 (0:Int)))⟩
 | 80=>⟨Unit,()⟩
 | 83=>⟨S_directory_work,(S_directory_work.mk (S_api_Directory.mk (0:Int) ([]:List S_api_User) ([]:List S_api_Head) ([]:List S_api_Session)))⟩
 | 97=>⟨S_api_Claim,(S_api_Claim.mk false (List.replicate 32 (0:Int)))⟩
 | 100=>⟨(List S_api_Leaf),([]:List S_api_Leaf)⟩
 | 110=>⟨Unit,()⟩
 | 111=>⟨Unit,()⟩
 | 130=>⟨Unit,()⟩
 | 137=>⟨Unit,()⟩
 | 140=>⟨S_api_Leaf,(S_api_Leaf.mk (List.replicate 32 (0:Int)) (List.replicate 32 (0:Int)))⟩
 | 145=>⟨(List Int),([]:List Int)⟩
 | 156=>⟨Unit,()⟩
 | 161=>⟨Unit,()⟩
 | 169=>⟨Unit,()⟩
 | 178=>⟨Unit,()⟩
 | 181=>⟨Unit,()⟩
 | 186=>⟨Unit,()⟩
 | 189=>⟨Int,(0:Int)⟩
 | 190=>⟨(List Int),(List.replicate 8 (0:Int))⟩
 | 196=>⟨(List Int),(List.replicate 64 (0:Int))⟩
 | 198=>⟨Unit,()⟩
 | 199=>⟨Unit,()⟩
 | 201=>⟨Int,(0:Int)⟩
 | 206=>⟨Unit,()⟩
 | 208=>⟨S_smt_Tree,(S_smt_Tree.mk (0:Int) (0:Int) ())⟩
 | 213=>⟨Unit,()⟩
 | 215=>⟨S_version_laid,(S_version_laid.mk ([]:List Int))⟩
 | 216=>⟨Unit,()⟩
 | 219=>⟨S_sha_Hash,(S_sha_Hash.mk (List.replicate 8 (0:Int)) (List.replicate 64 (0:Int)) (0:Int))⟩
 | 220=>⟨(List Int),(List.replicate 72 (0:Int))⟩
 | 221=>⟨Int,(0:Int)⟩
 | 226=>⟨(List Int),(List.replicate 64 (0:Int))⟩
 | 228=>⟨Unit,()⟩
 | 229=>⟨Unit,()⟩
 | 234=>⟨Unit,()⟩
 | 236=>⟨S_sync_noCopy,(S_sync_noCopy.mk )⟩
 | 237=>⟨S_sync_noCopy,(S_sync_noCopy.mk )⟩
 | 239=>⟨S_sync_atomic_Bool,(S_sync_atomic_Bool.mk (S_sync_noCopy.mk ) (0:Int))⟩
 | 241=>⟨S_internal_sync_Mutex,(S_internal_sync_Mutex.mk (0:Int) (0:Int))⟩
 | 243=>⟨S_sync_Mutex,(S_sync_Mutex.mk (S_sync_noCopy.mk ) (S_internal_sync_Mutex.mk (0:Int) (0:Int)))⟩
 | 245=>⟨S_sync_Once,(S_sync_Once.mk (S_sync_noCopy.mk ) (S_sync_atomic_Bool.mk (S_sync_noCopy.mk ) (0:Int)) (S_sync_Mutex.mk (S_sync_noCopy.mk ) (S_internal_sync_Mutex.mk (0:Int) (0:Int))))⟩
 | 247=>⟨S_smt_made,(S_smt_made.mk (S_sync_Once.mk (S_sync_noCopy.mk ) (S_sync_atomic_Bool.mk (S_sync_noCopy.mk ) (0:Int)) (S_sync_Mutex.mk (S_sync_noCopy.mk ) (S_internal_sync_Mutex.mk (0:Int) (0:Int)))) (List.replicate 32 (0:Int)))⟩
 | 249=>⟨S_smt_knot,(S_smt_knot.mk (S_smt_made.mk (S_sync_Once.mk (S_sync_noCopy.mk ) (S_sync_atomic_Bool.mk (S_sync_noCopy.mk ) (0:Int)) (S_sync_Mutex.mk (S_sync_noCopy.mk ) (S_internal_sync_Mutex.mk (0:Int) (0:Int)))) (List.replicate 32 (0:Int))) (S_api_Leaf.mk (List.replicate 32 (0:Int)) (List.replicate 32 (0:Int))) () ())⟩
 | 253=>⟨Unit,()⟩
 | _=>⟨Unit,()⟩
def PU(c:Nat):Type:=(PX c).1
def PEnc:(c:Nat)->PU c->A PU
 | 1,(x:Unit)=>.nilf
 | 3,(x:Int)=>.int .i64 x
 | 4,(x:Bool)=>.bool x
 | 5,(x:Int)=>.int .u8 x
 | 9,(x:ByteArray)=>.str x
 | 21,(x:Int)=>.int .i32 x
 | 22,(x:(List S_api_User))=>.ro false 40 x
 | 23,(x:(List S_api_Head))=>.ro false 45 x
 | 24,(x:(List S_api_Session))=>.ro false 47 x
 | 26,(x:S_api_Directory)=>.agg [.int .i64 x.f0,.ro false 40 x.f1,.ro false 45 x.f2,.ro false 47 x.f3]
 | 27,(x:Int)=>.int .i64 x
 | 29,(x:(List Int))=>.arr 5 32 x
 | 31,(x:S_api_Command)=>.agg [.int .i64 x.f0,.int .i64 x.f1,.int .i64 x.f2,.str x.f3,.str x.f4,.int .i64 x.f5,.arr 5 32 x.f6]
 | 34,(x:Int)=>.int .i64 x
 | 38,(x:(List S_api_Version))=>.ro false 43 x
 | 40,(x:S_api_User)=>.agg [.str x.f0,.ro false 43 x.f1]
 | 41,(x:Int)=>.int .i64 x
 | 43,(x:S_api_Version)=>.agg [.int .i64 x.f0,.int .i64 x.f1,.str x.f2]
 | 45,(x:S_api_Head)=>.agg [.int .i64 x.f0,.arr 5 32 x.f1,.arr 5 32 x.f2]
 | 47,(x:S_api_Session)=>.agg [.int .i64 x.f0,.int .i64 x.f1,.int .i64 x.f2,.int .i64 x.f3]
 | 55,(x:(List (List Int)))=>.ro false 29 x
 | 57,(x:S_api_Proof)=>.agg [.ro false 29 x.f0,.bool x.f1,.arr 5 32 x.f2,.arr 5 32 x.f3]
 | 65,(x:(List S_api_Signed))=>.ro false 68 x
 | 68,(x:S_api_Signed)=>.agg [.agg [.int .i64 x.f0.f0,.arr 5 32 x.f0.f1,.arr 5 32 x.f0.f2],.arr 5 32 x.f1]
 | 80,(x:Unit)=>.nilp
 | 83,(x:S_directory_work)=>.agg [.agg [.int .i64 x.f0.f0,.ro false 40 x.f0.f1,.ro false 45 x.f0.f2,.ro false 47 x.f0.f3]]
 | 97,(x:S_api_Claim)=>.agg [.bool x.f0,.arr 5 32 x.f1]
 | 100,(x:(List S_api_Leaf))=>.ro false 140 x
 | 110,(x:Unit)=>.nilf
 | 111,(x:Unit)=>.nilf
 | 130,(x:Unit)=>.nilp
 | 137,(x:Unit)=>.nilf
 | 140,(x:S_api_Leaf)=>.agg [.arr 5 32 x.f0,.arr 5 32 x.f1]
 | 145,(x:(List Int))=>.ro false 5 x
 | 156,(x:Unit)=>.nilf
 | 161,(x:Unit)=>.nilf
 | 169,(x:Unit)=>.nilp
 | 178,(x:Unit)=>.nilf
 | 181,(x:Unit)=>.nilp
 | 186,(x:Unit)=>.nilf
 | 189,(x:Int)=>.int .u32 x
 | 190,(x:(List Int))=>.arr 189 8 x
 | 196,(x:(List Int))=>.arr 5 64 x
 | 198,(x:Unit)=>.nilf
 | 199,(x:Unit)=>.nilf
 | 201,(x:Int)=>.int .u64 x
 | 206,(x:Unit)=>.nilp
 | 208,(x:S_smt_Tree)=>.agg [.int .i64 x.f0,.int .i64 x.f1,.nilp]
 | 213,(x:Unit)=>.nilp
 | 215,(x:S_version_laid)=>.agg [.ro false 5 x.f0]
 | 216,(x:Unit)=>.nilf
 | 219,(x:S_sha_Hash)=>.agg [.arr 189 8 x.f0,.arr 5 64 x.f1,.int .i64 x.f2]
 | 220,(x:(List Int))=>.arr 5 72 x
 | 221,(x:Int)=>.int .u64 x
 | 226,(x:(List Int))=>.arr 189 64 x
 | 228,(x:Unit)=>.nilf
 | 229,(x:Unit)=>.nilf
 | 234,(x:Unit)=>.nilf
 | 236,(x:S_sync_noCopy)=>.agg []
 | 237,(x:S_sync_noCopy)=>.agg []
 | 239,(x:S_sync_atomic_Bool)=>.agg [.agg [],.int .u32 x.f1]
 | 241,(x:S_internal_sync_Mutex)=>.agg [.int .i32 x.f0,.int .u32 x.f1]
 | 243,(x:S_sync_Mutex)=>.agg [.agg [],.agg [.int .i32 x.f1.f0,.int .u32 x.f1.f1]]
 | 245,(x:S_sync_Once)=>.agg [.agg [],.agg [.agg [],.int .u32 x.f1.f1],.agg [.agg [],.agg [.int .i32 x.f2.f1.f0,.int .u32 x.f2.f1.f1]]]
 | 247,(x:S_smt_made)=>.agg [.agg [.agg [],.agg [.agg [],.int .u32 x.f0.f1.f1],.agg [.agg [],.agg [.int .i32 x.f0.f2.f1.f0,.int .u32 x.f0.f2.f1.f1]]],.arr 5 32 x.f1]
 | 249,(x:S_smt_knot)=>.agg [.agg [.agg [.agg [],.agg [.agg [],.int .u32 x.f0.f0.f1.f1],.agg [.agg [],.agg [.int .i32 x.f0.f0.f2.f1.f0,.int .u32 x.f0.f0.f2.f1.f1]]],.arr 5 32 x.f0.f1],.agg [.arr 5 32 x.f1.f0,.arr 5 32 x.f1.f1],.nilp,.nilp]
 | 253,(x:Unit)=>.nilf
 | _,_=>.agg []
def PDec:(c:Nat)->A PU->Option (PU c)
 | 1,a=>ap (U:=PU) (G:=PU 1) [.nilf] (()) [.inl a]
 | 3,a=>ap (U:=PU) (G:=PU 3) [.int .i64] (fun y0=>y0) [.inl a]
 | 4,a=>ap (U:=PU) (G:=PU 4) [.bool] (fun y0=>y0) [.inl a]
 | 5,a=>ap (U:=PU) (G:=PU 5) [.int .u8] (fun y0=>y0) [.inl a]
 | 9,a=>ap (U:=PU) (G:=PU 9) [.str] (fun y0=>y0) [.inl a]
 | 21,a=>ap (U:=PU) (G:=PU 21) [.int .i32] (fun y0=>y0) [.inl a]
 | 22,a=>ap (U:=PU) (G:=PU 22) [.ro false 40] (fun y0=>y0) [.inl a]
 | 23,a=>ap (U:=PU) (G:=PU 23) [.ro false 45] (fun y0=>y0) [.inl a]
 | 24,a=>ap (U:=PU) (G:=PU 24) [.ro false 47] (fun y0=>y0) [.inl a]
 | 26,a=>ap (U:=PU) (G:=PU 26) [.agg 4,.int .i64,.ro false 40,.ro false 45,.ro false 47] (fun y0 y1 y2 y3=>(S_api_Directory.mk y0 y1 y2 y3)) [.inl a]
 | 27,a=>ap (U:=PU) (G:=PU 27) [.int .i64] (fun y0=>y0) [.inl a]
 | 29,a=>ap (U:=PU) (G:=PU 29) [.arr 5 32] (fun y0=>y0) [.inl a]
 | 31,a=>ap (U:=PU) (G:=PU 31) [.agg 7,.int .i64,.int .i64,.int .i64,.str,.str,.int .i64,.arr 5 32] (fun y0 y1 y2 y3 y4 y5 y6=>(S_api_Command.mk y0 y1 y2 y3 y4 y5 y6)) [.inl a]
 | 34,a=>ap (U:=PU) (G:=PU 34) [.int .i64] (fun y0=>y0) [.inl a]
 | 38,a=>ap (U:=PU) (G:=PU 38) [.ro false 43] (fun y0=>y0) [.inl a]
 | 40,a=>ap (U:=PU) (G:=PU 40) [.agg 2,.str,.ro false 43] (fun y0 y1=>(S_api_User.mk y0 y1)) [.inl a]
 | 41,a=>ap (U:=PU) (G:=PU 41) [.int .i64] (fun y0=>y0) [.inl a]
 | 43,a=>ap (U:=PU) (G:=PU 43) [.agg 3,.int .i64,.int .i64,.str] (fun y0 y1 y2=>(S_api_Version.mk y0 y1 y2)) [.inl a]
 | 45,a=>ap (U:=PU) (G:=PU 45) [.agg 3,.int .i64,.arr 5 32,.arr 5 32] (fun y0 y1 y2=>(S_api_Head.mk y0 y1 y2)) [.inl a]
 | 47,a=>ap (U:=PU) (G:=PU 47) [.agg 4,.int .i64,.int .i64,.int .i64,.int .i64] (fun y0 y1 y2 y3=>(S_api_Session.mk y0 y1 y2 y3)) [.inl a]
 | 55,a=>ap (U:=PU) (G:=PU 55) [.ro false 29] (fun y0=>y0) [.inl a]
 | 57,a=>ap (U:=PU) (G:=PU 57) [.agg 4,.ro false 29,.bool,.arr 5 32,.arr 5 32] (fun y0 y1 y2 y3=>(S_api_Proof.mk y0 y1 y2 y3)) [.inl a]
 | 65,a=>ap (U:=PU) (G:=PU 65) [.ro false 68] (fun y0=>y0) [.inl a]
 | 68,a=>ap (U:=PU) (G:=PU 68) [.agg 2,.agg 3,.int .i64,.arr 5 32,.arr 5 32,.arr 5 32] (fun y0 y1 y2 y3=>(S_api_Signed.mk (S_api_Head.mk y0 y1 y2) y3)) [.inl a]
 | 80,a=>ap (U:=PU) (G:=PU 80) [.nilp] (()) [.inl a]
 | 83,a=>ap (U:=PU) (G:=PU 83) [.agg 1,.agg 4,.int .i64,.ro false 40,.ro false 45,.ro false 47] (fun y0 y1 y2 y3=>(S_directory_work.mk (S_api_Directory.mk y0 y1 y2 y3))) [.inl a]
 | 97,a=>ap (U:=PU) (G:=PU 97) [.agg 2,.bool,.arr 5 32] (fun y0 y1=>(S_api_Claim.mk y0 y1)) [.inl a]
 | 100,a=>ap (U:=PU) (G:=PU 100) [.ro false 140] (fun y0=>y0) [.inl a]
 | 110,a=>ap (U:=PU) (G:=PU 110) [.nilf] (()) [.inl a]
 | 111,a=>ap (U:=PU) (G:=PU 111) [.nilf] (()) [.inl a]
 | 130,a=>ap (U:=PU) (G:=PU 130) [.nilp] (()) [.inl a]
 | 137,a=>ap (U:=PU) (G:=PU 137) [.nilf] (()) [.inl a]
 | 140,a=>ap (U:=PU) (G:=PU 140) [.agg 2,.arr 5 32,.arr 5 32] (fun y0 y1=>(S_api_Leaf.mk y0 y1)) [.inl a]
 | 145,a=>ap (U:=PU) (G:=PU 145) [.ro false 5] (fun y0=>y0) [.inl a]
 | 156,a=>ap (U:=PU) (G:=PU 156) [.nilf] (()) [.inl a]
 | 161,a=>ap (U:=PU) (G:=PU 161) [.nilf] (()) [.inl a]
 | 169,a=>ap (U:=PU) (G:=PU 169) [.nilp] (()) [.inl a]
 | 178,a=>ap (U:=PU) (G:=PU 178) [.nilf] (()) [.inl a]
 | 181,a=>ap (U:=PU) (G:=PU 181) [.nilp] (()) [.inl a]
 | 186,a=>ap (U:=PU) (G:=PU 186) [.nilf] (()) [.inl a]
 | 189,a=>ap (U:=PU) (G:=PU 189) [.int .u32] (fun y0=>y0) [.inl a]
 | 190,a=>ap (U:=PU) (G:=PU 190) [.arr 189 8] (fun y0=>y0) [.inl a]
 | 196,a=>ap (U:=PU) (G:=PU 196) [.arr 5 64] (fun y0=>y0) [.inl a]
 | 198,a=>ap (U:=PU) (G:=PU 198) [.nilf] (()) [.inl a]
 | 199,a=>ap (U:=PU) (G:=PU 199) [.nilf] (()) [.inl a]
 | 201,a=>ap (U:=PU) (G:=PU 201) [.int .u64] (fun y0=>y0) [.inl a]
 | 206,a=>ap (U:=PU) (G:=PU 206) [.nilp] (()) [.inl a]
 | 208,a=>ap (U:=PU) (G:=PU 208) [.agg 3,.int .i64,.int .i64,.nilp] (fun y0 y1=>(S_smt_Tree.mk y0 y1 ())) [.inl a]
 | 213,a=>ap (U:=PU) (G:=PU 213) [.nilp] (()) [.inl a]
 | 215,a=>ap (U:=PU) (G:=PU 215) [.agg 1,.ro false 5] (fun y0=>(S_version_laid.mk y0)) [.inl a]
 | 216,a=>ap (U:=PU) (G:=PU 216) [.nilf] (()) [.inl a]
 | 219,a=>ap (U:=PU) (G:=PU 219) [.agg 3,.arr 189 8,.arr 5 64,.int .i64] (fun y0 y1 y2=>(S_sha_Hash.mk y0 y1 y2)) [.inl a]
 | 220,a=>ap (U:=PU) (G:=PU 220) [.arr 5 72] (fun y0=>y0) [.inl a]
 | 221,a=>ap (U:=PU) (G:=PU 221) [.int .u64] (fun y0=>y0) [.inl a]
 | 226,a=>ap (U:=PU) (G:=PU 226) [.arr 189 64] (fun y0=>y0) [.inl a]
 | 228,a=>ap (U:=PU) (G:=PU 228) [.nilf] (()) [.inl a]
 | 229,a=>ap (U:=PU) (G:=PU 229) [.nilf] (()) [.inl a]
 | 234,a=>ap (U:=PU) (G:=PU 234) [.nilf] (()) [.inl a]
 | 236,a=>ap (U:=PU) (G:=PU 236) [.agg 0] (S_sync_noCopy.mk) [.inl a]
 | 237,a=>ap (U:=PU) (G:=PU 237) [.agg 0] (S_sync_noCopy.mk) [.inl a]
 | 239,a=>ap (U:=PU) (G:=PU 239) [.agg 2,.agg 0,.int .u32] (fun y0=>(S_sync_atomic_Bool.mk S_sync_noCopy.mk y0)) [.inl a]
 | 241,a=>ap (U:=PU) (G:=PU 241) [.agg 2,.int .i32,.int .u32] (fun y0 y1=>(S_internal_sync_Mutex.mk y0 y1)) [.inl a]
 | 243,a=>ap (U:=PU) (G:=PU 243) [.agg 2,.agg 0,.agg 2,.int .i32,.int .u32] (fun y0 y1=>(S_sync_Mutex.mk S_sync_noCopy.mk (S_internal_sync_Mutex.mk y0 y1))) [.inl a]
 | 245,a=>ap (U:=PU) (G:=PU 245) [.agg 3,.agg 0,.agg 2,.agg 0,.int .u32,.agg 2,.agg 0,.agg 2,.int .i32,.int .u32] (fun y0 y1 y2=>(S_sync_Once.mk S_sync_noCopy.mk (S_sync_atomic_Bool.mk S_sync_noCopy.mk y0) (S_sync_Mutex.mk S_sync_noCopy.mk (S_internal_sync_Mutex.mk y1 y2)))) [.inl a]
 | 247,a=>ap (U:=PU) (G:=PU 247) [.agg 2,.agg 3,.agg 0,.agg 2,.agg 0,.int .u32,.agg 2,.agg 0,.agg 2,.int .i32,.int .u32,.arr 5 32] (fun y0 y1 y2 y3=>(S_smt_made.mk (S_sync_Once.mk S_sync_noCopy.mk (S_sync_atomic_Bool.mk S_sync_noCopy.mk y0) (S_sync_Mutex.mk S_sync_noCopy.mk (S_internal_sync_Mutex.mk y1 y2))) y3)) [.inl a]
 | 249,a=>ap (U:=PU) (G:=PU 249) [.agg 4,.agg 2,.agg 3,.agg 0,.agg 2,.agg 0,.int .u32,.agg 2,.agg 0,.agg 2,.int .i32,.int .u32,.arr 5 32,.agg 2,.arr 5 32,.arr 5 32,.nilp,.nilp] (fun y0 y1 y2 y3 y4 y5=>(S_smt_knot.mk (S_smt_made.mk (S_sync_Once.mk S_sync_noCopy.mk (S_sync_atomic_Bool.mk S_sync_noCopy.mk y0) (S_sync_Mutex.mk S_sync_noCopy.mk (S_internal_sync_Mutex.mk y1 y2))) y3) (S_api_Leaf.mk y4 y5) () ())) [.inl a]
 | 253,a=>ap (U:=PU) (G:=PU 253) [.nilf] (()) [.inl a]
 | _,_=>.none
def PDfl(c:Nat):PU c:=(PX c).2
def PTys:List Row:=[⟨1,.func,1,8⟩,
 ⟨3,.int .i64,1,8⟩,
 ⟨4,.bool,1,1⟩,
 ⟨5,.int .u8,1,1⟩,
 ⟨9,.str,1,16⟩,
 ⟨21,.int .i32,1,4⟩,
 ⟨22,.sl 40,1,24⟩,
 ⟨23,.sl 45,1,24⟩,
 ⟨24,.sl 47,1,24⟩,
 ⟨26,.st [(3,0),(22,1),(23,2),(24,3)],4,80⟩,
 ⟨27,.int .i64,1,8⟩,
 ⟨29,.arr 32 5,32,32⟩,
 ⟨31,.st [(27,0),(3,1),(3,2),(9,3),(9,4),(3,5),(29,6)],38,96⟩,
 ⟨34,.int .i64,1,8⟩,
 ⟨38,.sl 43,1,24⟩,
 ⟨40,.st [(9,0),(38,1)],2,40⟩,
 ⟨41,.int .i64,1,8⟩,
 ⟨43,.st [(3,0),(41,1),(9,2)],3,32⟩,
 ⟨45,.st [(3,0),(29,1),(29,33)],65,72⟩,
 ⟨47,.st [(3,0),(3,1),(34,2),(3,3)],4,32⟩,
 ⟨55,.sl 29,1,24⟩,
 ⟨57,.st [(55,0),(4,1),(29,2),(29,34)],66,96⟩,
 ⟨65,.sl 68,1,24⟩,
 ⟨68,.st [(45,0),(29,65)],97,104⟩,
 ⟨80,.ptr 83,1,8⟩,
 ⟨83,.st [(26,0)],4,80⟩,
 ⟨97,.st [(4,0),(29,1)],33,33⟩,
 ⟨100,.sl 140,1,24⟩,
 ⟨110,.func,1,8⟩,
 ⟨111,.func,1,8⟩,
 ⟨130,.ptr 47,1,8⟩,
 ⟨137,.func,1,8⟩,
 ⟨140,.st [(29,0),(29,32)],64,64⟩,
 ⟨145,.sl 5,1,24⟩,
 ⟨156,.func,1,8⟩,
 ⟨161,.func,1,8⟩,
 ⟨169,.ptr 208,1,8⟩,
 ⟨178,.func,1,8⟩,
 ⟨181,.ptr 219,1,8⟩,
 ⟨186,.func,1,8⟩,
 ⟨189,.int .u32,1,4⟩,
 ⟨190,.arr 8 189,8,32⟩,
 ⟨196,.arr 64 5,64,64⟩,
 ⟨198,.func,1,8⟩,
 ⟨199,.func,1,8⟩,
 ⟨201,.int .u64,1,8⟩,
 ⟨206,.ptr 249,1,8⟩,
 ⟨208,.st [(3,0),(3,1),(206,2)],3,24⟩,
 ⟨213,.ptr 215,1,8⟩,
 ⟨215,.st [(145,0)],1,24⟩,
 ⟨216,.func,1,8⟩,
 ⟨219,.st [(190,0),(196,8),(3,72)],73,104⟩,
 ⟨220,.arr 72 5,72,72⟩,
 ⟨221,.int .u64,1,8⟩,
 ⟨226,.arr 64 189,64,256⟩,
 ⟨228,.func,1,8⟩,
 ⟨229,.func,1,8⟩,
 ⟨234,.func,1,8⟩,
 ⟨236,.st [],0,0⟩,
 ⟨237,.st [],0,0⟩,
 ⟨239,.st [(237,0),(189,0)],1,4⟩,
 ⟨241,.st [(21,0),(189,1)],2,8⟩,
 ⟨243,.st [(236,0),(241,0)],2,8⟩,
 ⟨245,.st [(236,0),(239,0),(243,1)],3,12⟩,
 ⟨247,.st [(245,0),(29,3)],35,44⟩,
 ⟨249,.st [(247,0),(140,35),(206,99),(206,100)],101,128⟩,
 ⟨253,.func,1,8⟩]
def PCuts:List (FuncId×Nat×List Nat):=[(33,5,[1,3,4]),(13,3,[1,2,3,4]),(92,3,[1,3,13]),(51,3,[0,3,4]),(51,4,[0,3,4]),(196,0,[0,1]),(196,1,[0,1]),(175,2,[0,2,25]),(175,14,[0,9,10,11,12,13,14,15,16,140,141]),(175,23,[0,210,211]),(175,11,[0,2,25]),(139,3,[0,1]),(140,9,[0,2,3,4,5,6,22]),(140,15,[2,3,4,45]),(19,6,[1,3,4,38,39,40]),(19,12,[1,3,87,88,89]),(19,18,[1,3,9,114,115,116]),(19,10,[1,3,4,38,39,40]),(19,9,[1,3,6,38,39,40]),(19,22,[1,3,9,114,115,116]),(19,21,[1,3,11,114,115,116]),(19,2,[1,3]),(19,15,[1,3,87,88,89]),(100,2,[0,1,7,8]),(137,8,[5,6,22,23,24]),(57,3,[1,5,15,16,17]),(129,9,[0,5,6,29,30,31]),(187,2,[0,1,9,10,11]),(167,4,[0,9,10]),(168,5,[3,4,6,7]),(168,11,[4]),(169,8,[0,2,4]),(169,3,[0,2,4]),(169,9,[2,4,8]),(192,4,[4,5]),(172,4,[0,6,7,15,16,17]),(94,2,[1,4,6,7]),(94,4,[1,4,6]),(94,5,[4,6,8]),(94,3,[4,7]),(94,6,[4,8]),(109,3,[0,3,4]),(86,4,[0,1,5]),(149,4,[0,3]),(149,8,[3,4,5]),(151,3,[1,2,4,5,6]),(151,7,[2,4,5,7]),(151,14,[2,4,5,10,11]),(151,22,[2,4,10,16]),(108,4,[2,3,4,5]),(108,9,[2,4,6,7]),(87,4,[0,5]),(41,4,[1,3]),(65,5,[0,1,5,6]),(180,3,[0,3,4]),(63,3,[1,2,5,6]),(125,2,[0,3]),(125,5,[0,3,4]),(177,6,[0,4,6,7,8]),(144,3,[0,3,4]),(105,3,[0,1,2,7,8]),(105,4,[0,1,2,7,8]),(134,2,[0,1,7,8]),(97,11,[0,5,6,8,9,39,40,41]),(97,16,[0,5,6,8,9,39,40,41]),(56,6,[0,5,6,7,11,12]),(56,10,[0,5,6,7,12,13,14,35,36,37]),(56,22,[6,7]),(56,15,[0,5,6,7,12,13,14,35,36,37]),(141,3,[0,1,2,8,9,10]),(103,2,[0,3,4,6]),(62,9,[0,5,6,7,12,13,14,15,16]),(62,19,[6,7,13,14]),(62,15,[6,7,12,13,14,15]),(62,11,[0,5,6,7,12,13,14,15,16]),(62,17,[6,7,13,14,15]),(62,12,[0,5,6,7,12,13,14,15,16,17]),(62,18,[6,7,13,14,15]),(62,13,[0,5,6,7,12,13,14,15,16,17,18]),(66,2,[1,2,5]),(25,4,[0,1,5]),(26,4,[2,3,5]),(20,17,[1,3]),(20,12,[1,3,4]),(20,16,[1,3]),(20,13,[1,3,8]),(20,8,[1,3]),(38,3,[1,10,11,12]),(117,3,[0,1,2,8,9,10]),(122,8,[0,3]),(85,5,[0,3,6,7]),(40,8,[0,3,5]),(40,10,[0,3,7]),(40,9,[0,3,7]),(40,11,[]),(14,13,[4,6,7]),(16,4,[2,3,5]),(16,9,[2,3,6]),(16,14,[2,3,7]),(6,10,[3,7,12,18,19]),(6,9,[3,7,12,18]),(157,2,[1,2,7,8]),(111,5,[0,1,4,5]),(111,7,[1,4,7]),(29,6,[0,2,5,7,8,9,10,12,25,26]),(29,9,[0,2,5,7,8,9,10,12,25,26]),(112,1,[0,5,6,7]),(71,2,[0,3]),(114,6,[0,1,4,5,7]),(114,12,[1,4,5,8,9,10]),(30,11,[2,3,8,11,12,14,15]),(30,12,[2,3,8,11,12,14,15]),(32,4,[0,1,5])]
def PProcs:List FuncId:=[38,39,40,54,57,60,69,83,84,85,100,101,102,112,123,128,129,130,134,135,138,139,140,156,157,158,168,173,175,182,183,185,188,191,196,197]
def PLoops:List (FuncId×Nat×List Nat):=[(154,5,[6]),(29,14,[7,8,9,10,14])]
def PEqb:(c:Nat)->List (PU c)->List (PU c)->Bool
 | 3,x,y=>eqLI x y
 | 4,x,y=>eqLB x y
 | 5,x,y=>eqLI x y
 | 9,x,y=>eqLS x y
 | 21,x,y=>eqLI x y
 | 27,x,y=>eqLI x y
 | 34,x,y=>eqLI x y
 | 41,x,y=>eqLI x y
 | 189,x,y=>eqLI x y
 | 201,x,y=>eqLI x y
 | 221,x,y=>eqLI x y
 | _,_,_=>false
def PToB:(c:Nat)->List (PU c)->Option ByteArray
 | 5,x=>some (bytesOf x)
 | _,_=>.none
def POfB:(c:Nat)->ByteArray->Option (List (PU c))
 | 5,x=>some (bytesTo x)
 | _,_=>.none
def PGlob:Nat->A PU
 | 0=>.rp false 226 [G_r02_key] 0 []
 | 1=>.rp false 226 [G_sha_keys] 0 []
 | _=>.none
def PKn:Kn PU:={ kp:=206,ks:=249,c:=140,mz:=.agg [.gh 0,.arr 5 32 []],dc:=5,dn:=32,dg:=fun g x=>.arr 5 32 (digT g x) }
noncomputable def PE:Env PU where
 P:=Go.Proofs.Tryz.prog
 kn:=PKn
 tys:=PTys
 enc:=PEnc
 dec:=PDec
 dflt:=PDfl
 eqb:=PEqb
 ofBytes:=POfB
 toBytes:=PToB
 cuts:=PCuts
 procs:=PProcs
 loops:=PLoops
 eqs:=[29,31,43,45,47,68]
 glob:=PGlob
 lends:=[139]
 reads:=[60]
theorem PEncOk(c:Nat)(x:PU c):closed (PEnc c x)=true/\size PE.sz (PEnc c x)=PE.sz c:=by
 unfold PEnc
 split
 all_goals try exact⟨rfl,rfl⟩
 ·rename_i h1 h3 h4 h5 h9 h21 h22 h23 h24 h26 h27 h29 h31 h34 h38 h40 h41 h43 h45 h47 h55 h57 h65 h68 h80 h83 h97 h100 h110 h111 h130 h137 h140 h145 h156 h161 h169 h178 h181 h186 h189 h190 h196 h198 h199 h201 h206 h208 h213 h215 h216 h219 h220 h221 h226 h228 h229 h234 h236 h237 h239 h241 h243 h245 h247 h249 h253
  refine⟨rfl,?_⟩
  show 0=_
  unfold Env.sz
  have hn:rowOf c PE.tys=.none:=by
   refine rowOf_none ?_
   intro r hr
   simp only[PE,PTys,List.mem_cons,List.not_mem_nil,or_false] at hr
   rcases hr with rfl|rfl|rfl|rfl|rfl|rfl|rfl|rfl|rfl|rfl|rfl|rfl|rfl|rfl|rfl|rfl|rfl|rfl|rfl|rfl|rfl|rfl|rfl|rfl|rfl|rfl|rfl|rfl|rfl|rfl|rfl|rfl|rfl|rfl|rfl|rfl|rfl|rfl|rfl|rfl|rfl|rfl|rfl|rfl|rfl|rfl|rfl|rfl|rfl|rfl|rfl|rfl|rfl|rfl|rfl|rfl|rfl|rfl|rfl|rfl|rfl|rfl|rfl|rfl|rfl|rfl|rfl<;>intro e<;>subst e
   ·exact h1 _ rfl HEq.rfl
   ·exact h3 _ rfl HEq.rfl
   ·exact h4 _ rfl HEq.rfl
   ·exact h5 _ rfl HEq.rfl
   ·exact h9 _ rfl HEq.rfl
   ·exact h21 _ rfl HEq.rfl
   ·exact h22 _ rfl HEq.rfl
   ·exact h23 _ rfl HEq.rfl
   ·exact h24 _ rfl HEq.rfl
   ·exact h26 _ rfl HEq.rfl
   ·exact h27 _ rfl HEq.rfl
   ·exact h29 _ rfl HEq.rfl
   ·exact h31 _ rfl HEq.rfl
   ·exact h34 _ rfl HEq.rfl
   ·exact h38 _ rfl HEq.rfl
   ·exact h40 _ rfl HEq.rfl
   ·exact h41 _ rfl HEq.rfl
   ·exact h43 _ rfl HEq.rfl
   ·exact h45 _ rfl HEq.rfl
   ·exact h47 _ rfl HEq.rfl
   ·exact h55 _ rfl HEq.rfl
   ·exact h57 _ rfl HEq.rfl
   ·exact h65 _ rfl HEq.rfl
   ·exact h68 _ rfl HEq.rfl
   ·exact h80 _ rfl HEq.rfl
   ·exact h83 _ rfl HEq.rfl
   ·exact h97 _ rfl HEq.rfl
   ·exact h100 _ rfl HEq.rfl
   ·exact h110 _ rfl HEq.rfl
   ·exact h111 _ rfl HEq.rfl
   ·exact h130 _ rfl HEq.rfl
   ·exact h137 _ rfl HEq.rfl
   ·exact h140 _ rfl HEq.rfl
   ·exact h145 _ rfl HEq.rfl
   ·exact h156 _ rfl HEq.rfl
   ·exact h161 _ rfl HEq.rfl
   ·exact h169 _ rfl HEq.rfl
   ·exact h178 _ rfl HEq.rfl
   ·exact h181 _ rfl HEq.rfl
   ·exact h186 _ rfl HEq.rfl
   ·exact h189 _ rfl HEq.rfl
   ·exact h190 _ rfl HEq.rfl
   ·exact h196 _ rfl HEq.rfl
   ·exact h198 _ rfl HEq.rfl
   ·exact h199 _ rfl HEq.rfl
   ·exact h201 _ rfl HEq.rfl
   ·exact h206 _ rfl HEq.rfl
   ·exact h208 _ rfl HEq.rfl
   ·exact h213 _ rfl HEq.rfl
   ·exact h215 _ rfl HEq.rfl
   ·exact h216 _ rfl HEq.rfl
   ·exact h219 _ rfl HEq.rfl
   ·exact h220 _ rfl HEq.rfl
   ·exact h221 _ rfl HEq.rfl
   ·exact h226 _ rfl HEq.rfl
   ·exact h228 _ rfl HEq.rfl
   ·exact h229 _ rfl HEq.rfl
   ·exact h234 _ rfl HEq.rfl
   ·exact h236 _ rfl HEq.rfl
   ·exact h237 _ rfl HEq.rfl
   ·exact h239 _ rfl HEq.rfl
   ·exact h241 _ rfl HEq.rfl
   ·exact h243 _ rfl HEq.rfl
   ·exact h245 _ rfl HEq.rfl
   ·exact h247 _ rfl HEq.rfl
   ·exact h249 _ rfl HEq.rfl
   ·exact h253 _ rfl HEq.rfl
  rw[hn]
theorem PDecOk(c:Nat)(a:A PU)(x:PU c)(h:PDec c a=some x):PEnc c x=a:=by
 unfold PDec at h
 split at h
 ·exact dec_ok (enc:=PEnc 1) (by kernel_rfl) h
 ·exact dec_ok (enc:=PEnc 3) (by kernel_rfl) h
 ·exact dec_ok (enc:=PEnc 4) (by kernel_rfl) h
 ·exact dec_ok (enc:=PEnc 5) (by kernel_rfl) h
 ·exact dec_ok (enc:=PEnc 9) (by kernel_rfl) h
 ·exact dec_ok (enc:=PEnc 21) (by kernel_rfl) h
 ·exact dec_ok (enc:=PEnc 22) (by kernel_rfl) h
 ·exact dec_ok (enc:=PEnc 23) (by kernel_rfl) h
 ·exact dec_ok (enc:=PEnc 24) (by kernel_rfl) h
 ·exact dec_ok (enc:=PEnc 26) (by kernel_rfl) h
 ·exact dec_ok (enc:=PEnc 27) (by kernel_rfl) h
 ·exact dec_ok (enc:=PEnc 29) (by kernel_rfl) h
 ·exact dec_ok (enc:=PEnc 31) (by kernel_rfl) h
 ·exact dec_ok (enc:=PEnc 34) (by kernel_rfl) h
 ·exact dec_ok (enc:=PEnc 38) (by kernel_rfl) h
 ·exact dec_ok (enc:=PEnc 40) (by kernel_rfl) h
 ·exact dec_ok (enc:=PEnc 41) (by kernel_rfl) h
 ·exact dec_ok (enc:=PEnc 43) (by kernel_rfl) h
 ·exact dec_ok (enc:=PEnc 45) (by kernel_rfl) h
 ·exact dec_ok (enc:=PEnc 47) (by kernel_rfl) h
 ·exact dec_ok (enc:=PEnc 55) (by kernel_rfl) h
 ·exact dec_ok (enc:=PEnc 57) (by kernel_rfl) h
 ·exact dec_ok (enc:=PEnc 65) (by kernel_rfl) h
 ·exact dec_ok (enc:=PEnc 68) (by kernel_rfl) h
 ·exact dec_ok (enc:=PEnc 80) (by kernel_rfl) h
 ·exact dec_ok (enc:=PEnc 83) (by kernel_rfl) h
 ·exact dec_ok (enc:=PEnc 97) (by kernel_rfl) h
 ·exact dec_ok (enc:=PEnc 100) (by kernel_rfl) h
 ·exact dec_ok (enc:=PEnc 110) (by kernel_rfl) h
 ·exact dec_ok (enc:=PEnc 111) (by kernel_rfl) h
 ·exact dec_ok (enc:=PEnc 130) (by kernel_rfl) h
 ·exact dec_ok (enc:=PEnc 137) (by kernel_rfl) h
 ·exact dec_ok (enc:=PEnc 140) (by kernel_rfl) h
 ·exact dec_ok (enc:=PEnc 145) (by kernel_rfl) h
 ·exact dec_ok (enc:=PEnc 156) (by kernel_rfl) h
 ·exact dec_ok (enc:=PEnc 161) (by kernel_rfl) h
 ·exact dec_ok (enc:=PEnc 169) (by kernel_rfl) h
 ·exact dec_ok (enc:=PEnc 178) (by kernel_rfl) h
 ·exact dec_ok (enc:=PEnc 181) (by kernel_rfl) h
 ·exact dec_ok (enc:=PEnc 186) (by kernel_rfl) h
 ·exact dec_ok (enc:=PEnc 189) (by kernel_rfl) h
 ·exact dec_ok (enc:=PEnc 190) (by kernel_rfl) h
 ·exact dec_ok (enc:=PEnc 196) (by kernel_rfl) h
 ·exact dec_ok (enc:=PEnc 198) (by kernel_rfl) h
 ·exact dec_ok (enc:=PEnc 199) (by kernel_rfl) h
 ·exact dec_ok (enc:=PEnc 201) (by kernel_rfl) h
 ·exact dec_ok (enc:=PEnc 206) (by kernel_rfl) h
 ·exact dec_ok (enc:=PEnc 208) (by kernel_rfl) h
 ·exact dec_ok (enc:=PEnc 213) (by kernel_rfl) h
 ·exact dec_ok (enc:=PEnc 215) (by kernel_rfl) h
 ·exact dec_ok (enc:=PEnc 216) (by kernel_rfl) h
 ·exact dec_ok (enc:=PEnc 219) (by kernel_rfl) h
 ·exact dec_ok (enc:=PEnc 220) (by kernel_rfl) h
 ·exact dec_ok (enc:=PEnc 221) (by kernel_rfl) h
 ·exact dec_ok (enc:=PEnc 226) (by kernel_rfl) h
 ·exact dec_ok (enc:=PEnc 228) (by kernel_rfl) h
 ·exact dec_ok (enc:=PEnc 229) (by kernel_rfl) h
 ·exact dec_ok (enc:=PEnc 234) (by kernel_rfl) h
 ·exact dec_ok (enc:=PEnc 236) (by kernel_rfl) h
 ·exact dec_ok (enc:=PEnc 237) (by kernel_rfl) h
 ·exact dec_ok (enc:=PEnc 239) (by kernel_rfl) h
 ·exact dec_ok (enc:=PEnc 241) (by kernel_rfl) h
 ·exact dec_ok (enc:=PEnc 243) (by kernel_rfl) h
 ·exact dec_ok (enc:=PEnc 245) (by kernel_rfl) h
 ·exact dec_ok (enc:=PEnc 247) (by kernel_rfl) h
 ·exact dec_ok (enc:=PEnc 249) (by kernel_rfl) h
 ·exact dec_ok (enc:=PEnc 253) (by kernel_rfl) h
 ·cases h
theorem PPlain:∀ r∈PE.tys,plainTy r.ty=true->PlainOk PE r.t:=
 List.forall_mem_cons.2 ⟨(fun h=>nomatch h),
 List.forall_mem_cons.2 ⟨(fun _=>⟨fun l m=>eqLI_iff l m,fun x y=>⟨decI x y,rfl,decI_iff x y⟩⟩),
 List.forall_mem_cons.2 ⟨(fun _=>⟨fun l m=>eqLB_iff l m,fun x y=>⟨decB x y,rfl,decB_iff x y⟩⟩),
 List.forall_mem_cons.2 ⟨(fun _=>⟨fun l m=>eqLI_iff l m,fun x y=>⟨decI x y,rfl,decI_iff x y⟩⟩),
 List.forall_mem_cons.2 ⟨(fun _=>⟨fun l m=>eqLS_iff l m,fun x y=>⟨seq x y,rfl,seq_iff⟩⟩),
 List.forall_mem_cons.2 ⟨(fun _=>⟨fun l m=>eqLI_iff l m,fun x y=>⟨decI x y,rfl,decI_iff x y⟩⟩),
 List.forall_mem_cons.2 ⟨(fun h=>nomatch h),
 List.forall_mem_cons.2 ⟨(fun h=>nomatch h),
 List.forall_mem_cons.2 ⟨(fun h=>nomatch h),
 List.forall_mem_cons.2 ⟨(fun h=>nomatch h),
 List.forall_mem_cons.2 ⟨(fun _=>⟨fun l m=>eqLI_iff l m,fun x y=>⟨decI x y,rfl,decI_iff x y⟩⟩),
 List.forall_mem_cons.2 ⟨(fun h=>nomatch h),
 List.forall_mem_cons.2 ⟨(fun h=>nomatch h),
 List.forall_mem_cons.2 ⟨(fun _=>⟨fun l m=>eqLI_iff l m,fun x y=>⟨decI x y,rfl,decI_iff x y⟩⟩),
 List.forall_mem_cons.2 ⟨(fun h=>nomatch h),
 List.forall_mem_cons.2 ⟨(fun h=>nomatch h),
 List.forall_mem_cons.2 ⟨(fun _=>⟨fun l m=>eqLI_iff l m,fun x y=>⟨decI x y,rfl,decI_iff x y⟩⟩),
 List.forall_mem_cons.2 ⟨(fun h=>nomatch h),
 List.forall_mem_cons.2 ⟨(fun h=>nomatch h),
 List.forall_mem_cons.2 ⟨(fun h=>nomatch h),
 List.forall_mem_cons.2 ⟨(fun h=>nomatch h),
 List.forall_mem_cons.2 ⟨(fun h=>nomatch h),
 List.forall_mem_cons.2 ⟨(fun h=>nomatch h),
 List.forall_mem_cons.2 ⟨(fun h=>nomatch h),
 List.forall_mem_cons.2 ⟨(fun h=>nomatch h),
 List.forall_mem_cons.2 ⟨(fun h=>nomatch h),
 List.forall_mem_cons.2 ⟨(fun h=>nomatch h),
 List.forall_mem_cons.2 ⟨(fun h=>nomatch h),
 List.forall_mem_cons.2 ⟨(fun h=>nomatch h),
 List.forall_mem_cons.2 ⟨(fun h=>nomatch h),
 List.forall_mem_cons.2 ⟨(fun h=>nomatch h),
 List.forall_mem_cons.2 ⟨(fun h=>nomatch h),
 List.forall_mem_cons.2 ⟨(fun h=>nomatch h),
 List.forall_mem_cons.2 ⟨(fun h=>nomatch h),
 List.forall_mem_cons.2 ⟨(fun h=>nomatch h),
 List.forall_mem_cons.2 ⟨(fun h=>nomatch h),
 List.forall_mem_cons.2 ⟨(fun h=>nomatch h),
 List.forall_mem_cons.2 ⟨(fun h=>nomatch h),
 List.forall_mem_cons.2 ⟨(fun h=>nomatch h),
 List.forall_mem_cons.2 ⟨(fun h=>nomatch h),
 List.forall_mem_cons.2 ⟨(fun _=>⟨fun l m=>eqLI_iff l m,fun x y=>⟨decI x y,rfl,decI_iff x y⟩⟩),
 List.forall_mem_cons.2 ⟨(fun h=>nomatch h),
 List.forall_mem_cons.2 ⟨(fun h=>nomatch h),
 List.forall_mem_cons.2 ⟨(fun h=>nomatch h),
 List.forall_mem_cons.2 ⟨(fun h=>nomatch h),
 List.forall_mem_cons.2 ⟨(fun _=>⟨fun l m=>eqLI_iff l m,fun x y=>⟨decI x y,rfl,decI_iff x y⟩⟩),
 List.forall_mem_cons.2 ⟨(fun h=>nomatch h),
 List.forall_mem_cons.2 ⟨(fun h=>nomatch h),
 List.forall_mem_cons.2 ⟨(fun h=>nomatch h),
 List.forall_mem_cons.2 ⟨(fun h=>nomatch h),
 List.forall_mem_cons.2 ⟨(fun h=>nomatch h),
 List.forall_mem_cons.2 ⟨(fun h=>nomatch h),
 List.forall_mem_cons.2 ⟨(fun h=>nomatch h),
 List.forall_mem_cons.2 ⟨(fun _=>⟨fun l m=>eqLI_iff l m,fun x y=>⟨decI x y,rfl,decI_iff x y⟩⟩),
 List.forall_mem_cons.2 ⟨(fun h=>nomatch h),
 List.forall_mem_cons.2 ⟨(fun h=>nomatch h),
 List.forall_mem_cons.2 ⟨(fun h=>nomatch h),
 List.forall_mem_cons.2 ⟨(fun h=>nomatch h),
 List.forall_mem_cons.2 ⟨(fun h=>nomatch h),
 List.forall_mem_cons.2 ⟨(fun h=>nomatch h),
 List.forall_mem_cons.2 ⟨(fun h=>nomatch h),
 List.forall_mem_cons.2 ⟨(fun h=>nomatch h),
 List.forall_mem_cons.2 ⟨(fun h=>nomatch h),
 List.forall_mem_cons.2 ⟨(fun h=>nomatch h),
 List.forall_mem_cons.2 ⟨(fun h=>nomatch h),
 List.forall_mem_cons.2 ⟨(fun h=>nomatch h),
 List.forall_mem_cons.2 ⟨(fun h=>nomatch h),
 (fun _ h=>nomatch h)⟩⟩⟩⟩⟩⟩⟩⟩⟩⟩⟩⟩⟩⟩⟩⟩⟩⟩⟩⟩⟩⟩⟩⟩⟩⟩⟩⟩⟩⟩⟩⟩⟩⟩⟩⟩⟩⟩⟩⟩⟩⟩⟩⟩⟩⟩⟩⟩⟩⟩⟩⟩⟩⟩⟩⟩⟩⟩⟩⟩⟩⟩⟩⟩⟩⟩⟩
theorem PToBOk(c:Nat)(l:List (PU c))(t:ByteArray)(h:PToB c l=some t):PE.ty c=.int .u8/\∃ ns:List Int,l.map (PE.enc c)=ns.map (.int .u8)/\t=bytesOf ns:=by
 unfold PToB at h
 split at h
 ·rename_i x;cases h;exact⟨rfl,x,List.map_congr_left fun _ _=>rfl,rfl⟩
 ·cases h
theorem POfBOk(c:Nat)(t:ByteArray)(l:List (PU c))(h:POfB c t=some l):PE.ty c=.int .u8/\l.map (PE.enc c)=(bytesTo t).map (.int .u8):=by
 unfold POfB at h
 split at h
 ·cases h;exact⟨rfl,List.map_congr_left fun _ _=>rfl⟩
 ·cases h
theorem PGlobOk(g:Nat):loan (PGlob g)=false/\noTupG (PGlob g)=true:=by
 unfold PGlob
 split<;>exact⟨rfl,rfl⟩
theorem PEok:EnvOk2 PE:=envOk_of PE ⟨fun c x=>(PEncOk c x).1,fun c x=>(PEncOk c x).2,PDecOk,fun _ _=>rfl⟩ (by kernel_rfl) (by kernel_rfl) ⟨PGlobOk,eqA_of PPlain,by kernel_rfl,PToBOk,POfBOk⟩
end Go.V
