import Derived.Test.YtgeonfbhejigjaaGreatDoorVJ09
set_option linter.unusedVariables false
namespace Go.V
open Go
structure S_api_Version where
 f0:Int
 f1:Int
 f2:ByteArray
structure S_api_User where
 f0:ByteArray
 f1:(List S_api_Version)
structure S_api_Head where
 f0:Int
 f1:(List Int)
 f2:(List Int)
structure S_api_Session where
 f0:Int
 f1:Int
 f2:Int
 f3:Int
structure S_api_Signed where
 f0:S_api_Head
 f1:(List Int)
structure S_api_Leaf where
 f0:(List Int)
 f1:(List Int)
structure S_api_Directory where
 f0:Int
 f1:(List S_api_User)
 f2:(List S_api_Head)
 f3:(List S_api_Session)
structure S_api_Command where
 f0:Int
 f1:Int
 f2:Int
 f3:ByteArray
 f4:ByteArray
 f5:Int
 f6:(List Int)
structure S_api_Proof where
 f0:(List (List Int))
 f1:Bool
 f2:(List Int)
 f3:(List Int)
structure S_directory_work where
 f0:S_api_Directory
structure S_api_Claim where
 f0:Bool
 f1:(List Int)
structure S_smt_Tree where
 f0:Int
 f1:Int
 f2:Unit
structure S_version_laid where
 f0:(List Int)
structure S_sha_Hash where
 f0:(List Int)
 f1:(List Int)
 f2:Int
structure S_sync_noCopy where
structure S_sync_atomic_Bool where
 f0:S_sync_noCopy
 f1:Int
structure S_internal_sync_Mutex where
 f0:Int
 f1:Int
structure S_sync_Mutex where
 f0:S_sync_noCopy
 f1:S_internal_sync_Mutex
structure S_sync_Once where
 f0:S_sync_noCopy
 f1:S_sync_atomic_Bool
 f2:S_sync_Mutex
structure S_smt_made where
 f0:S_sync_Once
 f1:(List Int)
structure S_smt_knot where
 f0:S_smt_made
 f1:S_api_Leaf
 f2:Unit
 f3:Unit
def cmpL:List Int->List Int->Int
 | [],[]=>0
 | [],_::_ => -1
 | _::_,[]=>1
 | x::a,y::b=>if x<y then -1 else if y<x then 1 else cmpL a b
def SortedL(l:List S_api_Leaf):Prop:=l.Pairwise fun a b=>¬cmpL b.f0 a.f0<0
def digT(w:Int):KT S_api_Leaf->List Int
 | .nil=>shortL w.toNat [2]
 | .node _ v l r=>bif l.isNil&&r.isNil then shortL w.toNat (0::(v.f0++v.f1)) else shortL w.toNat (1::(digT w l++digT w r))
def allG(w:Int):KT S_api_Leaf->Prop
 | .nil=>True
 | .node g v l r=>g=w/\((Dig v.f0/\Dig v.f1)/\(allG w l/\allG w r))
def htT:KT S_api_Leaf->Nat
 | .nil=>0
 | .node _ _ l r=>1+max (htT l) (htT r)
def digBound(x:KT S_api_Leaf):Nat:=7000+10*htT x
def G_sha_keys:(List Int):=[1116352408,1899447441,3049323471,3921009573,961987163,1508970993,2453635748,2870763221,3624381080,310598401,607225278,1426881987,1925078388,2162078206,2614888103,3248222580,3835390401,4022224774,264347078,604807628,770255983,1249150122,1555081692,1996064986,2554220882,2821834349,2952996808,3210313671,3336571891,3584528711,113926993,338241895,666307205,773529912,1294757372,1396182291,1695183700,1986661051,2177026350,2456956037,2730485921,2820302411,3259730800,3345764771,3516065817,3600352804,4094571909,275423344,430227734,506948616,659060556,883997877,958139571,1322822218,1537002063,1747873779,1955562222,2024104815,2227730452,2361852424,2428436474,2756734187,3204031479,3329325298]
def G_r02_key:(List Int):=[1116352408,1899447441,3049323471,3921009573,961987163,1508970993,2453635748,2870763221,3624381080,310598401,607225278,1426881987,1925078388,2162078206,2614888103,3248222580,3835390401,4022224774,264347078,604807628,770255983,1249150122,1555081692,1996064986,2554220882,2821834349,2952996808,3210313671,3336571891,3584528711,113926993,338241895,666307205,773529912,1294757372,1396182291,1695183700,1986661051,2177026350,2456956037,2730485921,2820302411,3259730800,3345764771,3516065817,3600352804,4094571909,275423344,430227734,506948616,659060556,883997877,958139571,1322822218,1537002063,1747873779,1955562222,2024104815,2227730452,2361852424,2428436474,2756734187,3204031479,3329325298]
def str0:ByteArray:=⟨#[]⟩
def str1:ByteArray:=⟨#[111,118,101,114]⟩
def str2:ByteArray:=⟨#[97]⟩
def str3:ByteArray:=⟨#[107]⟩
def str4:ByteArray:=⟨#[98]⟩
def str5:ByteArray:=⟨#[108]⟩
def C_r08_BigDirectory_5:Nat->Int->Int->Int->(List S_api_User)->(List S_api_Head)->(List S_api_Session)->(Bool->Prop)->Prop
 | 0,_,_,_,_,_,_,_=>False
 | k+1,r5,r6,r7,r8,r9,r10,K0=>(cond (decide (r6<(r8.length:Int))) (cond (decide (r5<=(5000:Int))) ((0<=r6/\r6<(r8.length:Int))/\(Hold (C_r08_BigDirectory_5 k (IntKind.i64.wrap (r5+(minI ((List.length (r8.getD r6.toNat ⟨.empty,[]⟩).f1:Nat):Int) 5001))) (IntKind.i64.wrap (r6+(1:Int))) r7 r8 r9 r10 K0))) (K0 (decide (5000<r5)))) (K0 (decide (5000<r5))))
def F_r08_BigDirectory(k:Nat)(r1:Int)(r2:(List S_api_User))(r3:(List S_api_Head))(r4:(List S_api_Session))(K0:Bool->Prop):Prop:=match k with
 | 0=>False
 | k+1=>(cond (decide (5000<(r2.length:Int))) (K0 true) (cond (decide (5000<(r3.length:Int))) (K0 true) (cond (decide (5000<(r4.length:Int))) (K0 true) (Hold (C_r08_BigDirectory_5 k 0 0 r1 r2 r3 r4 K0)))))
def F_l10_large(k:Nat)(r1:Int)(r2:(List S_api_User))(r3:(List S_api_Head))(r4:(List S_api_Session))(r5:Int)(r6:Int)(r7:Int)(r8:ByteArray)(r9:ByteArray)(r10:Int)(r11:(List Int))(K0:Bool->Prop):Prop:=match k with
 | 0=>False
 | k+1=>(Hold (F_r08_BigDirectory k r1 r2 r3 r4 (fun r12=>(cond r12 (K0 true) (cond (decide (65536<(ByteArray.size r8:Int))) (K0 true) (K0 (decide (65536<(ByteArray.size r9:Int)))))))))
def C_r08_OwnDirectory_3:Nat->Int->Int->(List S_api_User)->(List S_api_Head)->(List S_api_Session)->Int->Int->(List S_api_User)->(List S_api_Head)->(List S_api_Session)->(List S_api_User)->(List S_api_Head)->(List S_api_Session)->(Int->(List S_api_User)->(List S_api_Head)->(List S_api_Session)->Prop)->Prop
 | 0,_,_,_,_,_,_,_,_,_,_,_,_,_,_=>False
 | k+1,r5,r6,r7,r8,r9,r10,r11,r12,r13,r14,r15,r16,r17,K0=>(cond (decide (r5<(r7.length:Int))) ((0<=r5/\r5<(r7.length:Int))/\(room (List.length (r7.getD r5.toNat ⟨.empty,[]⟩).f1) 32)/\(0<=r5/\r5<(r7.length:Int))/\(room (r15.length+List.length [(S_api_User.mk (r7.getD r5.toNat ⟨.empty,[]⟩).f0 (r7.getD r5.toNat ⟨.empty,[]⟩).f1)]) 40)/\(Hold (C_r08_OwnDirectory_3 k (IntKind.i64.wrap (r5+(1:Int))) r6 r7 r8 r9 r10 r11 r12 r13 r14 (r15++[(S_api_User.mk (r7.getD r5.toNat ⟨.empty,[]⟩).f0 (r7.getD r5.toNat ⟨.empty,[]⟩).f1)]) r16 r17 K0))) ((room (r16.length+r8.length) 72)/\(room (r17.length+r9.length) 32)/\K0 r11 r15 (r16++r8) (r17++r9)))
def F_r08_OwnDirectory(k:Nat)(r1:Int)(r2:(List S_api_User))(r3:(List S_api_Head))(r4:(List S_api_Session))(K0:Int->(List S_api_User)->(List S_api_Head)->(List S_api_Session)->Prop):Prop:=match k with
 | 0=>False
 | k+1=>(Hold (C_r08_OwnDirectory_3 k 0 r1 r2 r3 r4 0 r1 [] [] [] [] [] [] K0))
def F_directory_within(k:Nat)(r1:Int)(r2:Int)(r3:Int)(K0:Bool->Prop):Prop:=match k with
 | 0=>False
 | k+1=>(cond (decide (r2<=r1)) (K0 (decide (r1<=r3))) (K0 false))
def F_directory_name(k:Nat)(r1:ByteArray)(K0:Bool->Prop):Prop:=match k with
 | 0=>False
 | k+1=>(Hold (F_directory_within k (ByteArray.size r1:Int) 1 32 (fun r2=>K0 r2)))
def F_version_last(k:Nat)(r1:(List S_api_Version))(K0:Int->Int->ByteArray->Prop):Prop:=match k with
 | 0=>False
 | k+1=>(cond (decide ((r1.length:Int)=0)) (K0 0 0 ByteArray.empty) ((0<=(IntKind.i64.wrap ((r1.length:Int)-1))/\(IntKind.i64.wrap ((r1.length:Int)-1))<(r1.length:Int))/\K0 (r1.getD (Int.toNat (IntKind.i64.wrap ((r1.length:Int)-1))) (S_api_Version.mk 0 0 ByteArray.empty)).f0 (r1.getD (Int.toNat (IntKind.i64.wrap ((r1.length:Int)-1))) (S_api_Version.mk 0 0 ByteArray.empty)).f1 (r1.getD (Int.toNat (IntKind.i64.wrap ((r1.length:Int)-1))) (S_api_Version.mk 0 0 ByteArray.empty)).f2))
def C_version_may_3:Nat->Bool->Int->Int->Int->ByteArray->(Bool->Prop)->Prop
 | 0,_,_,_,_,_,_=>False
 | k+1,r4,r5,r6,r7,r8,K0=>(cond (decide (r5=(1:Int))) (cond r4 (cond (!seq r8 str0) (K0 (decide ((ByteArray.size r8:Int)<=64))) (K0 false)) (K0 false)) (cond (decide (r5=(2:Int))) (cond r4 (cond (!seq r8 str0) (K0 (decide ((ByteArray.size r8:Int)<=64))) (K0 false)) (K0 false)) (cond (decide (r5=(3:Int))) (cond r4 (K0 (seq r8 str0)) (K0 false)) (K0 false))))
def F_version_may(k:Nat)(r1:Int)(r2:Int)(r3:ByteArray)(K0:Bool->Prop):Prop:=match k with
 | 0=>False
 | k+1=>(cond (decide (1<=r1)) (Hold (C_version_may_3 k (decide (r1<=(200:Int))) r2 r1 r2 r3 K0)) (Hold (C_version_may_3 k false r2 r1 r2 r3 K0)))
def F_version_open(k:Nat)(r1:Int)(r2:Int)(r3:ByteArray)(K0:Bool->Prop):Prop:=match k with
 | 0=>False
 | k+1=>(cond (decide (r2=(0:Int))) (K0 true) (K0 (decide (r2=(3:Int)))))
mutual
def C_version_Check_4:Nat->(List S_api_Version)->Bool->Int->(Int->Prop)->Prop
 | 0,_,_,_,_=>False
 | k+1,r10,r11,r12,K0=>(Hold (C_version_Check_3 k r10 r11 (IntKind.i64.wrap (r12+(1:Int))) K0))
def C_version_Check_3:Nat->(List S_api_Version)->Bool->Int->(Int->Prop)->Prop
 | 0,_,_,_,_=>False
 | k+1,r2,r3,r4,K0=>(cond r3 (cond (decide (r4<(r2.length:Int))) ((0<=r4/\r4<=(r2.length:Int))/\(Hold (F_version_last k (List.take r4.toNat r2) (fun r5 r6 r7=>(0<=r4/\r4<(r2.length:Int))/\(Hold (F_version_may k (r2.getD r4.toNat ⟨0,0,.empty⟩).f0 (r2.getD r4.toNat ⟨0,0,.empty⟩).f1 (r2.getD r4.toNat ⟨0,0,.empty⟩).f2 (fun r8=>(cond r8 ((0<=r4/\r4<(r2.length:Int))/\(cond (decide (r5<=(r2.getD r4.toNat ⟨0,0,.empty⟩).f0)) ((0<=r4/\r4<(r2.length:Int))/\(Hold (F_version_open k r5 r6 r7 (fun r9=>(Hold (C_version_Check_4 k r2 (r9==(decide ((r2.getD r4.toNat ⟨0,0,.empty⟩).f1=(1:Int)))) r4 K0)))))) (Hold (C_version_Check_4 k r2 false r4 K0)))) (Hold (C_version_Check_4 k r2 false r4 K0)))))))))) (cond (!r3) (K0 50) (K0 0))) (cond (!r3) (K0 50) (K0 0)))
end
def F_version_Check(k:Nat)(r1:(List S_api_Version))(K0:Int->Prop):Prop:=match k with
 | 0=>False
 | k+1=>(Hold (C_version_Check_3 k r1 (decide ((r1.length:Int)<=16)) 0 K0))
def F_octet_groups(k:Nat)(r1:Int)(K0:Int->Prop):Prop:=match k with
 | 0=>False
 | k+1=>K0 r1
def F_octet_PutCount_y5(k:Nat)(r1:Int)(r2:(List Int))(K1:(List Int)->Prop):Prop:=match k with
 | 0=>False
 | k+1=>(room (r2.length+List.length [r1]) 1/\(r2=[]\/[r1]≠[]))/\K1 (r2++[r1])
def F_octet_PutCount_y5_s1(k:Nat)(r1:Int)(r2:(List Int))(K2:(List Int)->Prop):Prop:=match k with
 | 0=>False
 | k+1=>(room (r2.length+List.length [r1]) 1)/\K2 (r2++[r1])
mutual
def C_octet_groups_1_1_1:Nat->Int->(List Int)->(Int->(List Int)->Prop)->Prop
 | 0,_,_,_=>False
 | k+1,r10,r11,K0=>((128:Int)≠0)/\(Hold (F_octet_PutCount_y5_s1 k (IntKind.u8.wrap (IntKind.i64.wrap ((Int.tmod r10 128)+128))) r11 (fun r12=>((128:Int)≠0)/\(Hold (C_octet_groups_1_0_1 k (IntKind.i64.wrap (Int.tdiv r10 128)) r12 K0)))))
def C_octet_groups_1_0_1:Nat->Int->(List Int)->(Int->(List Int)->Prop)->Prop
 | 0,_,_,_=>False
 | k+1,r8,r9,K0=>(cond (decide (128<=r8)) (Hold (C_octet_groups_1_1_1 k r8 r9 K0)) (Hold (F_octet_PutCount_y5_s1 k (IntKind.u8.wrap r8) r9 (fun r13=>K0 r8 r13))))
end
def C_octet_groups_1_1:Nat->Int->(List Int)->(Int->(List Int)->Prop)->Prop
 | 0,_,_,_=>False
 | k+1,r5,r6,K0=>((128:Int)≠0)/\(Hold (F_octet_PutCount_y5 k (IntKind.u8.wrap (IntKind.i64.wrap ((Int.tmod r5 128)+128))) r6 (fun r7=>((128:Int)≠0)/\(Hold (C_octet_groups_1_0_1 k (IntKind.i64.wrap (Int.tdiv r5 128)) r7 K0)))))
def C_octet_groups_1_0:Nat->Int->(List Int)->(Int->(List Int)->Prop)->Prop
 | 0,_,_,_=>False
 | k+1,r3,r4,K0=>(cond (decide (128<=r3)) (Hold (C_octet_groups_1_1 k r3 r4 K0)) (Hold (F_octet_PutCount_y5 k (IntKind.u8.wrap r3) r4 (fun r14=>K0 r3 r14))))
def F_octet_groups_1(k:Nat)(r1:Int)(r2:(List Int))(K0:Int->(List Int)->Prop):Prop:=match k with
 | 0=>False
 | k+1=>(Hold (C_octet_groups_1_0 k r1 r2 K0))
def F_octet_PutCount(k:Nat)(r1:(List Int))(r2:Int)(K0:(List Int)->Int->Prop):Prop:=match k with
 | 0=>False
 | k+1=>(cond (decide (r2<(0:Int))) (K0 [] 1) (cond (decide (2147483647<r2)) (K0 [] 1) ((0<=(0:Int)/\0<=(r1.length:Int)/\(r1.length:Int)=(r1.length:Int)/\(r1.length:Int)<=(r1.length:Int))/\(Hold (F_octet_groups k r2 (fun r3=>(Hold (F_octet_groups_1 k r3 (cut r1 (Int.toNat 0) (Int.toNat ((r1.length:Int)-0))) (fun r4 r5=>K0 r5 0)))))))))
def F_octet_PutDigest(k:Nat)(r1:(List Int))(r2:(List Int))(K0:(List Int)->Prop):Prop:=match k with
 | 0=>False
 | k+1=>(0<=(0:Int)/\0<=(r1.length:Int)/\(r1.length:Int)=(r1.length:Int)/\(r1.length:Int)<=(r1.length:Int))/\(0<=(0:Int)/\(0:Int)<=32/\(32:Int)<=32)/\(room (List.length (cut r1 (Int.toNat 0) (Int.toNat ((r1.length:Int)-0)))+List.length (cut r2 (Int.toNat 0) (Int.toNat ((32:Int)-0)))) 1/\((cut r1 (Int.toNat 0) (Int.toNat ((r1.length:Int)-0)))=[]\/(cut r2 (Int.toNat 0) (Int.toNat ((32:Int)-0)))≠[]))/\K0 ((cut r1 (Int.toNat 0) (Int.toNat ((r1.length:Int)-0)))++(cut r2 (Int.toNat 0) (Int.toNat ((32:Int)-0))))
def F_head_Bytes(k:Nat)(r1:Int)(r2:(List Int))(r3:(List Int))(K0:(List Int)->Int->Prop):Prop:=match k with
 | 0=>False
 | k+1=>(cond (decide (r1<(1:Int))) (K0 [] 80) (cond (decide (200<r1)) (K0 [] 80) (Hold (F_octet_PutCount k [] r1 (fun r4 r5=>(Hold (F_octet_PutDigest k r4 r2 (fun r6=>(Hold (F_octet_PutDigest k r6 r3 (fun r7=>K0 r7 0)))))))))))
def F_sha_New(k:Nat)  (K0:(List Int)->(List Int)->Int->Prop):Prop:=match k with
 | 0=>False
 | k+1=>K0 [1779033703,3144134277,1013904242,2773480762,1359893119,2600822924,528734635,1541459225] (List.replicate 64 0) 0
def F_math_bits_RotateLeft32(k:Nat)(r1:Int)(r2:Int)(K0:Int->Prop):Prop:=match k with
 | 0=>False
 | k+1=>(0<=(iand .u64 (IntKind.u64.wrap r2) 31))/\(0<=(IntKind.u64.wrap (32-(iand .u64 (IntKind.u64.wrap r2) 31))))/\K0 (ior .u32 (ishl .u32 r1 (iand .u64 (IntKind.u64.wrap r2) 31)) (ishr .u32 r1 (IntKind.u64.wrap (32-(iand .u64 (IntKind.u64.wrap r2) 31)))))
def C_sha_Hash_mix_23:Nat->(List Int)->Int->(List Int)->(List Int)->Int->((List Int)->(List Int)->Int->Prop)->Prop
 | 0,_,_,_,_,_,_=>False
 | k+1,r37,r38,r39,r40,r41,K0=>(cond (decide (r38<(8:Int))) ((0<=r38/\r38<(8:Int))/\(0<=r38/\r38<(8:Int))/\(0<=r38/\r38<(8:Int))/\(Hold (C_sha_Hash_mix_23 k r37 (IntKind.i64.wrap (r38+(1:Int))) (r39.set r38.toNat (IntKind.u32.wrap ((r39.getD r38.toNat 0)+(r37.getD r38.toNat 0)))) r40 r41 K0))) (K0 r39 r40 r41))
def C_sha_Hash_mix_14:Nat->Int->Int->Int->Int->Int->Int->Int->Int->(List Int)->Int->(List Int)->(List Int)->Int->((List Int)->(List Int)->Int->Prop)->Prop
 | 0,_,_,_,_,_,_,_,_,_,_,_,_,_,_=>False
 | k+1,r18,r19,r20,r21,r22,r23,r24,r25,r26,r27,r28,r29,r30,K0=>(cond (decide (r27<(64:Int))) ((0<=r27/\r27<(64:Int))/\(Hold (F_math_bits_RotateLeft32 k r22 (-6:Int) (fun r31=>(Hold (F_math_bits_RotateLeft32 k r22 (-11:Int) (fun r32=>(Hold (F_math_bits_RotateLeft32 k r22 (-25:Int) (fun r33=>(0<=r27/\r27<(64:Int))/\(Hold (F_math_bits_RotateLeft32 k r18 (-2:Int) (fun r34=>(Hold (F_math_bits_RotateLeft32 k r18 (-13:Int) (fun r35=>(Hold (F_math_bits_RotateLeft32 k r18 (-22:Int) (fun r36=>(Hold (C_sha_Hash_mix_14 k (IntKind.u32.wrap ((IntKind.u32.wrap ((IntKind.u32.wrap ((IntKind.u32.wrap ((IntKind.u32.wrap (r25+(ixor .u32 (ixor .u32 r31 r32) r33)))+(ixor .u32 (iand .u32 r22 (ixor .u32 r23 r24)) r24)))+(List.getD (List.getD [G_sha_keys] 0 (List.replicate 64 0)) r27.toNat 0)))+(r26.getD r27.toNat 0)))+(IntKind.u32.wrap ((ixor .u32 (ixor .u32 r34 r35) r36)+(ior .u32 (iand .u32 r18 r19) (iand .u32 r20 (ior .u32 r18 r19))))))) r18 r19 r20 (IntKind.u32.wrap (r21+(IntKind.u32.wrap ((IntKind.u32.wrap ((IntKind.u32.wrap ((IntKind.u32.wrap (r25+(ixor .u32 (ixor .u32 r31 r32) r33)))+(ixor .u32 (iand .u32 r22 (ixor .u32 r23 r24)) r24)))+(List.getD (List.getD [G_sha_keys] 0 (List.replicate 64 0)) r27.toNat 0)))+(r26.getD r27.toNat 0))))) r22 r23 r24 r26 (IntKind.i64.wrap (r27+(1:Int))) r28 r29 r30 K0))))))))))))))))))))) (Hold (C_sha_Hash_mix_23 k [r18,r19,r20,r21,r22,r23,r24,r25] 0 r28 r29 r30 K0)))
mutual
def C_sha_Hash_mix_11:Nat->Int->(List Int)->(List Int)->Int->(List Int)->((List Int)->(List Int)->Int->Prop)->Prop
 | 0,_,_,_,_,_,_=>False
 | k+1,r9,r10,r11,r12,r13,K0=>(Hold (C_sha_Hash_mix_2 k (IntKind.i64.wrap (r9+(1:Int))) r10 r11 r12 r13 K0))
def C_sha_Hash_mix_2:Nat->Int->(List Int)->(List Int)->Int->(List Int)->((List Int)->(List Int)->Int->Prop)->Prop
 | 0,_,_,_,_,_,_=>False
 | k+1,r4,r5,r6,r7,r8,K0=>(cond (decide (r4<(64:Int))) (cond (decide (r4<(16:Int))) ((0<=(IntKind.i64.wrap (4*r4))/\(IntKind.i64.wrap (4*r4))<=64/\(64:Int)<=64)/\(0<=(0:Int)/\0<(((Int.toNat (64-(IntKind.i64.wrap (4*r4)))):Nat):Int))/\(0<=(24:Int))/\(0<=(1:Int)/\1<(((Int.toNat (64-(IntKind.i64.wrap (4*r4)))):Nat):Int))/\(0<=(16:Int))/\(0<=(2:Int)/\2<(((Int.toNat (64-(IntKind.i64.wrap (4*r4)))):Nat):Int))/\(0<=(8:Int))/\(0<=(3:Int)/\3<(((Int.toNat (64-(IntKind.i64.wrap (4*r4)))):Nat):Int))/\(0<=r4/\r4<(64:Int))/\(Hold (C_sha_Hash_mix_11 k r4 r5 r6 r7 (r8.set r4.toNat (ior .u32 (ior .u32 (ior .u32 (ishl .u32 (IntKind.u32.wrap (r6.getD ((Int.toNat (IntKind.i64.wrap (4*r4)))+(Int.toNat 0)) 0)) 24) (ishl .u32 (IntKind.u32.wrap (r6.getD ((Int.toNat (IntKind.i64.wrap (4*r4)))+(Int.toNat 1)) 0)) 16)) (ishl .u32 (IntKind.u32.wrap (r6.getD ((Int.toNat (IntKind.i64.wrap (4*r4)))+(Int.toNat 2)) 0)) 8)) (IntKind.u32.wrap (r6.getD ((Int.toNat (IntKind.i64.wrap (4*r4)))+(Int.toNat 3)) 0)))) K0))) ((0<=(IntKind.i64.wrap (r4-(15:Int)))/\(IntKind.i64.wrap (r4-(15:Int)))<64)/\(0<=(IntKind.i64.wrap (r4-(2:Int)))/\(IntKind.i64.wrap (r4-(2:Int)))<64)/\(Hold (F_math_bits_RotateLeft32 k (r8.getD (Int.toNat (IntKind.i64.wrap (r4-(15:Int)))) 0) (-7:Int) (fun r14=>(Hold (F_math_bits_RotateLeft32 k (r8.getD (Int.toNat (IntKind.i64.wrap (r4-(15:Int)))) 0) (-18:Int) (fun r15=>(0<=(3:Int))/\(Hold (F_math_bits_RotateLeft32 k (r8.getD (Int.toNat (IntKind.i64.wrap (r4-(2:Int)))) 0) (-17:Int) (fun r16=>(Hold (F_math_bits_RotateLeft32 k (r8.getD (Int.toNat (IntKind.i64.wrap (r4-(2:Int)))) 0) (-19:Int) (fun r17=>(0<=(10:Int))/\(0<=(IntKind.i64.wrap (r4-(16:Int)))/\(IntKind.i64.wrap (r4-(16:Int)))<64)/\(0<=(IntKind.i64.wrap (r4-(7:Int)))/\(IntKind.i64.wrap (r4-(7:Int)))<64)/\(0<=r4/\r4<(64:Int))/\(Hold (C_sha_Hash_mix_11 k r4 r5 r6 r7 (r8.set r4.toNat (IntKind.u32.wrap ((IntKind.u32.wrap ((IntKind.u32.wrap ((r8.getD (Int.toNat (IntKind.i64.wrap (r4-(16:Int)))) 0)+(ixor .u32 (ixor .u32 r14 r15) (ishr .u32 (r8.getD (Int.toNat (IntKind.i64.wrap (r4-(15:Int)))) 0) 3))))+(r8.getD (Int.toNat (IntKind.i64.wrap (r4-(7:Int)))) 0)))+(ixor .u32 (ixor .u32 r16 r17) (ishr .u32 (r8.getD (Int.toNat (IntKind.i64.wrap (r4-(2:Int)))) 0) 10))))) K0)))))))))))))))) ((0<=(0:Int)/\(0:Int)<8)/\(0<=(1:Int)/\(1:Int)<8)/\(0<=(2:Int)/\(2:Int)<8)/\(0<=(3:Int)/\(3:Int)<8)/\(0<=(4:Int)/\(4:Int)<8)/\(0<=(5:Int)/\(5:Int)<8)/\(0<=(6:Int)/\(6:Int)<8)/\(0<=(7:Int)/\(7:Int)<8)/\(Hold (C_sha_Hash_mix_14 k (r5.getD (Int.toNat 0) 0) (r5.getD (Int.toNat 1) 0) (r5.getD (Int.toNat 2) 0) (r5.getD (Int.toNat 3) 0) (r5.getD (Int.toNat 4) 0) (r5.getD (Int.toNat 5) 0) (r5.getD (Int.toNat 6) 0) (r5.getD (Int.toNat 7) 0) r8 0 r5 r6 r7 K0))))
end
def F_sha_Hash_mix(k:Nat)(r1:(List Int))(r2:(List Int))(r3:Int)(K0:(List Int)->(List Int)->Int->Prop):Prop:=match k with
 | 0=>False
 | k+1=>(Hold (C_sha_Hash_mix_2 k 0 r1 r2 r3 (List.replicate 64 0) K0))
def C_sha_Hash_Write_3:Nat->(List Int)->(List Int)->(List Int)->Int->(Int->(List Int)->(List Int)->Int->Prop)->Prop
 | 0,_,_,_,_,_=>False
 | k+1,r5,r6,r7,r8,K0=>(cond (decide (0<(r5.length:Int))) (((64:Int)≠0)/\(0<=(Int.tmod r8 64)/\(Int.tmod r8 64)<=64/\(64:Int)<=64)/\(0<=(((Nat.min (r5.length) (Int.toNat (64-(Int.tmod r8 64)))):Nat):Int)/\(((Nat.min (r5.length) (Int.toNat (64-(Int.tmod r8 64)))):Nat):Int)<=(r5.length:Int))/\((64:Int)≠0)/\(cond (decide ((Int.tmod (IntKind.i64.wrap (r8+(((Nat.min (r5.length) (Int.toNat (64-(Int.tmod r8 64)))):Nat):Int))) 64)=0)) (Hold (F_sha_Hash_mix k r6 (splice r7 (Int.toNat (Int.tmod r8 64)) r5 (Nat.min (r5.length) (Int.toNat (64-(Int.tmod r8 64))))) (IntKind.i64.wrap (r8+(((Nat.min (r5.length) (Int.toNat (64-(Int.tmod r8 64)))):Nat):Int))) (fun r9 r10 r11=>(Hold (C_sha_Hash_Write_3 k (List.drop (Int.toNat (((Nat.min (r5.length) (Int.toNat (64-(Int.tmod r8 64)))):Nat):Int)) r5) r9 r10 r11 K0))))) (Hold (C_sha_Hash_Write_3 k (List.drop (Int.toNat (((Nat.min (r5.length) (Int.toNat (64-(Int.tmod r8 64)))):Nat):Int)) r5) r6 (splice r7 (Int.toNat (Int.tmod r8 64)) r5 (Nat.min (r5.length) (Int.toNat (64-(Int.tmod r8 64))))) (IntKind.i64.wrap (r8+(((Nat.min (r5.length) (Int.toNat (64-(Int.tmod r8 64)))):Nat):Int))) K0)))) (K0 0 r6 r7 r8))
def F_sha_Hash_Write(k:Nat)(r1:(List Int))(r2:(List Int))(r3:(List Int))(r4:Int)(K0:Int->(List Int)->(List Int)->Int->Prop):Prop:=match k with
 | 0=>False
 | k+1=>(Hold (C_sha_Hash_Write_3 k r1 r2 r3 r4 K0))
def C_sha_Hash_Sum_15:Nat->Int->(List Int)->(List Int)->Int->(List Int)->(List Int)->(List Int)->(List Int)->Int->((List Int)->(List Int)->(List Int)->Int->Prop)->Prop
 | 0,_,_,_,_,_,_,_,_,_,_=>False
 | k+1,r23,r24,r25,r26,r27,r28,r29,r30,r31,K0=>(cond (decide (r23<(32:Int))) (((4:Int)≠0)/\(0<=(IntKind.i64.wrap (Int.tdiv r23 4))/\(IntKind.i64.wrap (Int.tdiv r23 4))<8)/\((4:Int)≠0)/\(0<=(IntKind.i64.wrap (24-(IntKind.i64.wrap (8*(Int.tmod r23 4))))))/\(0<=r23/\r23<(32:Int))/\(Hold (C_sha_Hash_Sum_15 k (IntKind.i64.wrap (r23+(1:Int))) r24 r25 r26 r27 (r28.set r23.toNat (IntKind.u8.wrap (ishr .u32 (r29.getD (Int.toNat (IntKind.i64.wrap (Int.tdiv r23 4))) 0) (IntKind.i64.wrap (24-(IntKind.i64.wrap (8*(Int.tmod r23 4)))))))) r29 r30 r31 K0))) (K0 r28 r24 r25 r26))
def C_sha_Hash_Sum_9:Nat->Int->Int->(List Int)->(List Int)->Int->(List Int)->(List Int)->(List Int)->(List Int)->Int->(List Int)->((List Int)->(List Int)->(List Int)->Int->Prop)->Prop
 | 0,_,_,_,_,_,_,_,_,_,_,_,_=>False
 | k+1,r8,r9,r10,r11,r12,r13,r14,r15,r16,r17,r18,K0=>(cond (decide (r9<(8:Int))) ((0<=(IntKind.i64.wrap (56-(IntKind.i64.wrap (8*r9)))))/\(0<=(IntKind.i64.wrap (r8+r9))/\(IntKind.i64.wrap (r8+r9))<72)/\(Hold (C_sha_Hash_Sum_9 k r8 (IntKind.i64.wrap (r9+(1:Int))) r10 r11 r12 r13 r14 r15 r16 r17 (r18.set (Int.toNat (IntKind.i64.wrap (r8+r9))) (IntKind.u8.wrap (ishr .u64 (IntKind.u64.wrap ((IntKind.u64.wrap r12)*8)) (IntKind.i64.wrap (56-(IntKind.i64.wrap (8*r9))))))) K0))) ((0<=(0:Int)/\0<=(IntKind.i64.wrap (r8+(8:Int)))/\(IntKind.i64.wrap (r8+(8:Int)))<=72)/\(Hold (F_sha_Hash_Write k (cut r18 (Int.toNat 0) (Int.toNat ((IntKind.i64.wrap (r8+(8:Int)))-0))) r15 r16 r17 (fun r19 r20 r21 r22=>(Hold (C_sha_Hash_Sum_15 k 0 r10 r11 r12 r13 r14 r20 r21 r22 K0)))))))
def F_sha_Hash_Sum(k:Nat)(r1:(List Int))(r2:(List Int))(r3:Int)(K0:(List Int)->(List Int)->(List Int)->Int->Prop):Prop:=match k with
 | 0=>False
 | k+1=>(Hold (F_sha_Hash_Write k [128] r1 r2 r3 (fun r4 r5 r6 r7=>((64:Int)≠0)/\((64:Int)≠0)/\(Hold (C_sha_Hash_Sum_9 k (Int.tmod (IntKind.i64.wrap (120-(Int.tmod r7 64))) 64) 0 r1 r2 r3 (List.replicate 32 0) (List.replicate 32 0) r5 r6 r7 (List.replicate 72 0) K0)))))
def F_sha_Sum(k:Nat)(r1:(List Int))(K0:(List Int)->Prop):Prop:=match k with
 | 0=>False
 | k+1=>(Hold (F_sha_New k (fun r2 r3 r4=>(Hold (F_sha_Hash_Write k r1 r2 r3 r4 (fun r5 r6 r7 r8=>(Hold (F_sha_Hash_Sum k r6 r7 r8 (fun r9 r10 r11 r12=>K0 r9)))))))))
def F_head_Digest(k:Nat)(r1:Int)(r2:(List Int))(r3:(List Int))(K0:(List Int)->Int->Prop):Prop:=match k with
 | 0=>False
 | k+1=>(Hold (F_head_Bytes k r1 r2 r3 (fun r4 r5=>(cond (!decide (r5=(0:Int))) (K0 [0,0,0,0,0,0,0,0,0,0,0,0,0,0,0,0,0,0,0,0,0,0,0,0,0,0,0,0,0,0,0,0] r5) (Hold (F_sha_Sum k r4 (fun r6=>K0 r6 0)))))))
def F_directory_prev(k:Nat)(r1:(List S_api_Head))(K0:(List Int)->Prop):Prop:=match k with
 | 0=>False
 | k+1=>(cond (decide ((r1.length:Int)=0)) (K0 [0,0,0,0,0,0,0,0,0,0,0,0,0,0,0,0,0,0,0,0,0,0,0,0,0,0,0,0,0,0,0,0]) ((0<=(IntKind.i64.wrap ((r1.length:Int)-1))/\(IntKind.i64.wrap ((r1.length:Int)-1))<(r1.length:Int))/\(Hold (F_head_Digest k (r1.getD (Int.toNat (IntKind.i64.wrap ((r1.length:Int)-1))) (S_api_Head.mk 0 (List.replicate 32 0) (List.replicate 32 0))).f0 (r1.getD (Int.toNat (IntKind.i64.wrap ((r1.length:Int)-1))) (S_api_Head.mk 0 (List.replicate 32 0) (List.replicate 32 0))).f1 (r1.getD (Int.toNat (IntKind.i64.wrap ((r1.length:Int)-1))) (S_api_Head.mk 0 (List.replicate 32 0) (List.replicate 32 0))).f2 (fun r2 r3=>K0 r2)))))
mutual
def C_directory_Check_22:Nat->Bool->Int->(List S_api_Session)->Int->Int->Int->(List S_api_User)->(List S_api_Head)->(List S_api_Session)->(Int->Prop)->Prop
 | 0,_,_,_,_,_,_,_,_,_,_=>False
 | k+1,r82,r83,r84,r85,r86,r87,r88,r89,r90,K0=>(Hold (C_directory_Check_18 k r82 r83 r84 r85 (IntKind.i64.wrap (r86+(1:Int))) r87 r88 r89 r90 K0))
def C_directory_Check_21:Nat->Bool->(List S_api_Session)->Int->Int->Int->(List S_api_User)->(List S_api_Head)->(List S_api_Session)->Int->Int->Int->Int->(Int->Prop)->Prop
 | 0,_,_,_,_,_,_,_,_,_,_,_,_,_=>False
 | k+1,r70,r71,r72,r73,r74,r75,r76,r77,r78,r79,r80,r81,K0=>(Hold (C_directory_Check_22 k r70 r78 r71 r72 r73 r74 r75 r76 r77 K0))
def C_directory_Check_18:Nat->Bool->Int->(List S_api_Session)->Int->Int->Int->(List S_api_User)->(List S_api_Head)->(List S_api_Session)->(Int->Prop)->Prop
 | 0,_,_,_,_,_,_,_,_,_,_=>False
 | k+1,r58,r59,r60,r61,r62,r63,r64,r65,r66,K0=>(cond (decide (r62<r61)) ((0<=r62/\r62<(r60.length:Int))/\(cond r58 (cond (decide (r59<(r60.getD r62.toNat ⟨0,0,0,0⟩).f0)) (cond (decide ((r60.getD r62.toNat ⟨0,0,0,0⟩).f0<=(4:Int))) (Hold (F_directory_within k (r60.getD r62.toNat ⟨0,0,0,0⟩).f1 1 1000000 (fun r67=>(cond r67 (Hold (F_directory_within k (r60.getD r62.toNat ⟨0,0,0,0⟩).f2 0 65535 (fun r68=>(cond r68 (Hold (F_directory_within k (r60.getD r62.toNat ⟨0,0,0,0⟩).f3 0 r63 (fun r69=>(Hold (C_directory_Check_21 k r69 r60 r61 r62 r63 r64 r65 r66 (r60.getD r62.toNat ⟨0,0,0,0⟩).f0 (r60.getD r62.toNat ⟨0,0,0,0⟩).f1 (r60.getD r62.toNat ⟨0,0,0,0⟩).f2 (r60.getD r62.toNat ⟨0,0,0,0⟩).f3 K0))))) (Hold (C_directory_Check_21 k false r60 r61 r62 r63 r64 r65 r66 (r60.getD r62.toNat ⟨0,0,0,0⟩).f0 (r60.getD r62.toNat ⟨0,0,0,0⟩).f1 (r60.getD r62.toNat ⟨0,0,0,0⟩).f2 (r60.getD r62.toNat ⟨0,0,0,0⟩).f3 K0)))))) (Hold (C_directory_Check_21 k false r60 r61 r62 r63 r64 r65 r66 (r60.getD r62.toNat ⟨0,0,0,0⟩).f0 (r60.getD r62.toNat ⟨0,0,0,0⟩).f1 (r60.getD r62.toNat ⟨0,0,0,0⟩).f2 (r60.getD r62.toNat ⟨0,0,0,0⟩).f3 K0)))))) (Hold (C_directory_Check_21 k false r60 r61 r62 r63 r64 r65 r66 (r60.getD r62.toNat ⟨0,0,0,0⟩).f0 (r60.getD r62.toNat ⟨0,0,0,0⟩).f1 (r60.getD r62.toNat ⟨0,0,0,0⟩).f2 (r60.getD r62.toNat ⟨0,0,0,0⟩).f3 K0))) (Hold (C_directory_Check_21 k false r60 r61 r62 r63 r64 r65 r66 (r60.getD r62.toNat ⟨0,0,0,0⟩).f0 (r60.getD r62.toNat ⟨0,0,0,0⟩).f1 (r60.getD r62.toNat ⟨0,0,0,0⟩).f2 (r60.getD r62.toNat ⟨0,0,0,0⟩).f3 K0))) (Hold (C_directory_Check_21 k false r60 r61 r62 r63 r64 r65 r66 (r60.getD r62.toNat ⟨0,0,0,0⟩).f0 (r60.getD r62.toNat ⟨0,0,0,0⟩).f1 (r60.getD r62.toNat ⟨0,0,0,0⟩).f2 (r60.getD r62.toNat ⟨0,0,0,0⟩).f3 K0)))) (cond (!r58) (K0 70) (K0 0)))
end
mutual
def C_directory_Check_15:Nat->Bool->(List S_api_Head)->Int->Int->Int->(List S_api_User)->(List S_api_Head)->(List S_api_Session)->(Int->Prop)->Prop
 | 0,_,_,_,_,_,_,_,_,_=>False
 | k+1,r50,r51,r52,r53,r54,r55,r56,r57,K0=>(Hold (C_directory_Check_12 k r50 r51 r52 (IntKind.i64.wrap (r53+(1:Int))) r54 r55 r56 r57 K0))
def C_directory_Check_12:Nat->Bool->(List S_api_Head)->Int->Int->Int->(List S_api_User)->(List S_api_Head)->(List S_api_Session)->(Int->Prop)->Prop
 | 0,_,_,_,_,_,_,_,_,_=>False
 | k+1,r41,r42,r43,r44,r45,r46,r47,r48,K0=>(cond (decide (r44<r43)) ((0<=r44/\r44<(r42.length:Int))/\(cond r41 (cond (decide ((r42.getD r44.toNat ⟨0,(List.replicate 32 0),(List.replicate 32 0)⟩).f0=(IntKind.i64.wrap (r44+(1:Int))))) ((0<=r44/\r44<=(r47.length:Int))/\(Hold (F_directory_prev k (List.take r44.toNat r47) (fun r49=>(Hold (C_directory_Check_15 k (decide ((r42.getD r44.toNat ⟨0,(List.replicate 32 0),(List.replicate 32 0)⟩).f2=r49)) r42 r43 r44 r45 r46 r47 r48 K0)))))) (Hold (C_directory_Check_15 k false r42 r43 r44 r45 r46 r47 r48 K0))) (Hold (C_directory_Check_15 k false r42 r43 r44 r45 r46 r47 r48 K0)))) (Hold (C_directory_Check_18 k r41 0 r48 (r48.length:Int) 0 r45 r46 r47 r48 K0)))
end
mutual
def C_directory_Check_10:Nat->Bool->ByteArray->(List S_api_User)->Int->Int->Int->(List S_api_User)->(List S_api_Head)->(List S_api_Session)->(Int->Prop)->Prop
 | 0,_,_,_,_,_,_,_,_,_,_=>False
 | k+1,r32,r33,r34,r35,r36,r37,r38,r39,r40,K0=>(Hold (C_directory_Check_6 k r32 r33 r34 r35 (IntKind.i64.wrap (r36+(1:Int))) r37 r38 r39 r40 K0))
def C_directory_Check_9:Nat->Bool->(List S_api_User)->Int->Int->Int->(List S_api_User)->(List S_api_Head)->(List S_api_Session)->ByteArray->(List S_api_Version)->(Int->Prop)->Prop
 | 0,_,_,_,_,_,_,_,_,_,_,_=>False
 | k+1,r22,r23,r24,r25,r26,r27,r28,r29,r30,r31,K0=>(Hold (C_directory_Check_10 k r22 r30 r23 r24 r25 r26 r27 r28 r29 K0))
def C_directory_Check_6:Nat->Bool->ByteArray->(List S_api_User)->Int->Int->Int->(List S_api_User)->(List S_api_Head)->(List S_api_Session)->(Int->Prop)->Prop
 | 0,_,_,_,_,_,_,_,_,_,_=>False
 | k+1,r11,r12,r13,r14,r15,r16,r17,r18,r19,K0=>(cond (decide (r15<r14)) ((0<=r15/\r15<(r13.length:Int))/\(cond r11 (cond (!(slt (r13.getD r15.toNat ⟨.empty,[]⟩).f0 r12||seq (r13.getD r15.toNat ⟨.empty,[]⟩).f0 r12)) (Hold (F_directory_name k (r13.getD r15.toNat ⟨.empty,[]⟩).f0 (fun r20=>(cond r20 (cond (decide (0<((List.length (r13.getD r15.toNat ⟨.empty,[]⟩).f1:Nat):Int))) (Hold (F_version_Check k (r13.getD r15.toNat ⟨.empty,[]⟩).f1 (fun r21=>(cond (decide (r21=(0:Int))) ((0<=(IntKind.i64.wrap (((List.length (r13.getD r15.toNat ⟨.empty,[]⟩).f1:Nat):Int)-1))/\(IntKind.i64.wrap (((List.length (r13.getD r15.toNat ⟨.empty,[]⟩).f1:Nat):Int)-1))<((List.length (r13.getD r15.toNat ⟨.empty,[]⟩).f1:Nat):Int))/\(Hold (C_directory_Check_9 k (decide ((List.getD (r13.getD r15.toNat ⟨.empty,[]⟩).f1 (Int.toNat (IntKind.i64.wrap (((List.length (r13.getD r15.toNat ⟨.empty,[]⟩).f1:Nat):Int)-1))) (S_api_Version.mk 0 0 ByteArray.empty)).f0<=(IntKind.i64.wrap (r16+(1:Int))))) r13 r14 r15 r16 r17 r18 r19 (r13.getD r15.toNat ⟨.empty,[]⟩).f0 (r13.getD r15.toNat ⟨.empty,[]⟩).f1 K0))) (Hold (C_directory_Check_9 k false r13 r14 r15 r16 r17 r18 r19 (r13.getD r15.toNat ⟨.empty,[]⟩).f0 (r13.getD r15.toNat ⟨.empty,[]⟩).f1 K0)))))) (Hold (C_directory_Check_9 k false r13 r14 r15 r16 r17 r18 r19 (r13.getD r15.toNat ⟨.empty,[]⟩).f0 (r13.getD r15.toNat ⟨.empty,[]⟩).f1 K0))) (Hold (C_directory_Check_9 k false r13 r14 r15 r16 r17 r18 r19 (r13.getD r15.toNat ⟨.empty,[]⟩).f0 (r13.getD r15.toNat ⟨.empty,[]⟩).f1 K0)))))) (Hold (C_directory_Check_9 k false r13 r14 r15 r16 r17 r18 r19 (r13.getD r15.toNat ⟨.empty,[]⟩).f0 (r13.getD r15.toNat ⟨.empty,[]⟩).f1 K0))) (Hold (C_directory_Check_9 k false r13 r14 r15 r16 r17 r18 r19 (r13.getD r15.toNat ⟨.empty,[]⟩).f0 (r13.getD r15.toNat ⟨.empty,[]⟩).f1 K0)))) (Hold (C_directory_Check_12 k r11 r18 (r18.length:Int) 0 r16 r17 r18 r19 K0)))
end
def C_directory_Check_2:Nat->Bool->Int->(List S_api_User)->(List S_api_Head)->(List S_api_Session)->(Int->Prop)->Prop
 | 0,_,_,_,_,_,_=>False
 | k+1,r6,r7,r8,r9,r10,K0=>(cond (!r6) (K0 70) (Hold (C_directory_Check_6 k r6 str0 r8 (r8.length:Int) 0 r7 r8 r9 r10 K0)))
def F_directory_Check(k:Nat)(r1:Int)(r2:(List S_api_User))(r3:(List S_api_Head))(r4:(List S_api_Session))(K0:Int->Prop):Prop:=match k with
 | 0=>False
 | k+1=>(Hold (F_directory_within k r1 0 200 (fun r5=>(cond r5 (cond (decide ((r2.length:Int)<=64)) (cond (decide ((r3.length:Int)<=r1)) (Hold (C_directory_Check_2 k (decide ((r4.length:Int)<=4)) r1 r2 r3 r4 K0)) (Hold (C_directory_Check_2 k false r1 r2 r3 r4 K0))) (Hold (C_directory_Check_2 k false r1 r2 r3 r4 K0))) (Hold (C_directory_Check_2 k false r1 r2 r3 r4 K0))))))
def F_directory_sealed(k:Nat)(r1:Int)(r2:(List S_api_User))(r3:(List S_api_Head))(r4:(List S_api_Session))(r5:Bool)(r6:Int)(K0:Int->Prop):Prop:=match k with
 | 0=>False
 | k+1=>(Hold (F_directory_Check k r1 r2 r3 r4 (fun r7=>(cond (!decide (r7=(0:Int))) (K0 70) (cond (!r5) (K0 70) (Hold (F_directory_within k r6 1 r1 (fun r8=>(cond (!r8) (K0 72) (K0 0))))))))))
def F_version_At_1(k:Nat)(r1:Int)(r2:Int)(r3:ByteArray)(r4:Int)(K0:Bool->Int->Prop):Prop:=match k with
 | 0=>False
 | k+1=>K0 (decide (r4<r1)) r4
def C_slices_IndexFunc_api_Version_api_Version_2:Nat->(List S_api_Version)->Int->Int->Int->(Int->Int->Prop)->Prop
 | 0,_,_,_,_,_=>False
 | k+1,r3,r4,r5,r6,K0=>(cond (decide (r5<r4)) ((0<=r5/\r5<(r3.length:Int))/\(Hold (F_version_At_1 k (r3.getD r5.toNat ⟨0,0,.empty⟩).f0 (r3.getD r5.toNat ⟨0,0,.empty⟩).f1 (r3.getD r5.toNat ⟨0,0,.empty⟩).f2 r6 (fun r7 r8=>(cond r7 (K0 r5 r8) (Hold (C_slices_IndexFunc_api_Version_api_Version_2 k r3 r4 (IntKind.i64.wrap (r5+(1:Int))) r8 K0))))))) (K0 (-1:Int) r6))
def F_slices_IndexFunc_api_Version_api_Version(k:Nat)(r1:(List S_api_Version))(r2:Int)(K0:Int->Int->Prop):Prop:=match k with
 | 0=>False
 | k+1=>(Hold (C_slices_IndexFunc_api_Version_api_Version_2 k r1 (r1.length:Int) 0 r2 K0))
def F_slices_Clone_api_Version_api_Version(k:Nat)(r1:(List S_api_Version))(K0:(List S_api_Version)->Prop):Prop:=match k with
 | 0=>False
 | k+1=>(∀ r2:Bool,(r2=true->r1=([]:List S_api_Version))->(cond r2 (K0 []) ((room (List.length ([]:List S_api_Version)+r1.length) 32)/\K0 (([]:List S_api_Version)++r1))))
def F_version_At(k:Nat)(r1:(List S_api_Version))(r2:Int)(K0:(List S_api_Version)->Prop):Prop:=match k with
 | 0=>False
 | k+1=>(Hold (F_version_Check k r1 (fun r3=>(cond (!decide (r3=(0:Int))) (K0 []) (Hold (F_slices_IndexFunc_api_Version_api_Version k r1 r2 (fun r4 r5=>(cond (decide (r4<(0:Int))) ((0<=(r1.length:Int)/\(r1.length:Int)<=(r1.length:Int))/\(Hold (F_slices_Clone_api_Version_api_Version k (List.take (Int.toNat (r1.length:Int)) r1) (fun r6=>K0 r6)))) ((0<=r4/\r4<=(r1.length:Int))/\(Hold (F_slices_Clone_api_Version_api_Version k (List.take r4.toNat r1) (fun r7=>K0 r7))))))))))))
def F_version_laid_count(k:Nat)(r1:Int)(r2:(List Int))(K0:(List Int)->(List Int)->Prop):Prop:=match k with
 | 0=>False
 | k+1=>(Hold (F_octet_PutCount k r2 r1 (fun r3 r4=>K0 r2 r3)))
def F_octet_PutBytes(k:Nat)(r1:(List Int))(r2:ByteArray)(K0:(List Int)->Int->Prop):Prop:=match k with
 | 0=>False
 | k+1=>(cond (decide (65536<(ByteArray.size r2:Int))) (K0 [] 2) (Hold (F_octet_PutCount k r1 (ByteArray.size r2:Int) (fun r3 r4=>(room (r3.length+List.length (bytesTo r2)) 1)/\K0 (r3++(bytesTo r2)) r4))))
def C_version_Put_8:Nat->(List S_api_Version)->Int->Int->(List Int)->((List Int)->Int->Prop)->Prop
 | 0,_,_,_,_,_=>False
 | k+1,r5,r6,r7,r8,K0=>(cond (decide (r7<r6)) ((0<=r7/\r7<(r5.length:Int))/\(Hold (F_version_laid_count k (r5.getD r7.toNat ⟨0,0,.empty⟩).f0 r8 (fun r9 r10=>(Hold (F_version_laid_count k (r5.getD r7.toNat ⟨0,0,.empty⟩).f1 r10 (fun r11 r12=>(Hold (F_octet_PutBytes k r12 (r5.getD r7.toNat ⟨0,0,.empty⟩).f2 (fun r13 r14=>(Hold (C_version_Put_8 k r5 r6 (IntKind.i64.wrap (r7+(1:Int))) r13 K0)))))))))))) (K0 r8 0))
def F_version_Put(k:Nat)(r1:(List S_api_Version))(K0:(List Int)->Int->Prop):Prop:=match k with
 | 0=>False
 | k+1=>(Hold (F_version_Check k r1 (fun r2=>(cond (!decide (r2=(0:Int))) (K0 [] r2) (Hold (F_version_laid_count k (r1.length:Int) [] (fun r3 r4=>(Hold (C_version_Put_8 k r1 (r1.length:Int) 0 r4 K0)))))))))
def F_version_Digest(k:Nat)(r1:(List S_api_Version))(K0:(List Int)->Int->Prop):Prop:=match k with
 | 0=>False
 | k+1=>(Hold (F_version_Put k r1 (fun r2 r3=>(cond (!decide (r3=(0:Int))) (K0 [0,0,0,0,0,0,0,0,0,0,0,0,0,0,0,0,0,0,0,0,0,0,0,0,0,0,0,0,0,0,0,0] r3) (Hold (F_sha_Sum k r2 (fun r4=>K0 r4 0)))))))
def F_path_Of(k:Nat)(r1:ByteArray)(K0:(List Int)->Prop):Prop:=match k with
 | 0=>False
 | k+1=>(ByteArray.size r1<=maxStr)/\(Hold (F_sha_Sum k (bytesTo r1) (fun r2=>K0 r2)))
def C_directory_work_leaves_3:Nat->Int->(List S_api_User)->Int->Int->Int->(List S_api_User)->(List S_api_Head)->(List S_api_Session)->(List S_api_Leaf)->(Int->(List S_api_User)->(List S_api_Head)->(List S_api_Session)->(List S_api_Leaf)->Prop)->Prop
 | 0,_,_,_,_,_,_,_,_,_,_=>False
 | k+1,r6,r7,r8,r9,r10,r11,r12,r13,r14,K0=>(cond (decide (r9<r8)) ((0<=r9/\r9<(r7.length:Int))/\(Hold (F_version_At k (r7.getD r9.toNat ⟨.empty,[]⟩).f1 r6 (fun r15=>(cond (decide (0<(r15.length:Int))) (Hold (F_version_Digest k r15 (fun r16 r17=>(Hold (F_path_Of k (r7.getD r9.toNat ⟨.empty,[]⟩).f0 (fun r18=>(room (r14.length+List.length [(S_api_Leaf.mk r18 r16)]) 64)/\(Hold (C_directory_work_leaves_3 k r6 r7 r8 (IntKind.i64.wrap (r9+(1:Int))) r10 r11 r12 r13 (r14++[(S_api_Leaf.mk r18 r16)]) K0)))))))) (Hold (C_directory_work_leaves_3 k r6 r7 r8 (IntKind.i64.wrap (r9+(1:Int))) r10 r11 r12 r13 r14 K0))))))) (K0 r10 r11 r12 r13 r14))
def F_directory_work_leaves(k:Nat)(r1:Int)(r2:Int)(r3:(List S_api_User))(r4:(List S_api_Head))(r5:(List S_api_Session))(K0:Int->(List S_api_User)->(List S_api_Head)->(List S_api_Session)->(List S_api_Leaf)->Prop):Prop:=match k with
 | 0=>False
 | k+1=>(Hold (C_directory_work_leaves_3 k r1 r3 (r3.length:Int) 0 r2 r3 r4 r5 [] K0))
def F_smt_width(k:Nat)(r1:Int)(K0:Bool->Prop):Prop:=match k with
 | 0=>False
 | k+1=>(cond (decide (0<=r1)) (K0 (decide (r1<=(32:Int)))) (K0 false))
def F_smt_New(k:Nat)(r1:Int)(K0:Int->Prop)(K1:Int->Int->Int->(KT S_api_Leaf)->Prop):Prop:=match k with
 | 0=>False
 | k+1=>(Hold (F_smt_width k r1 (fun r2=>(cond (!r2) (K0 1) (K1 0 r1 0 (KT.nil:KT S_api_Leaf))))))
def F_smt_Tree_Set(k:Nat)(r1:(List S_api_Leaf))(K0:Int->Prop):Prop:=match k with
 | 0=>False
 | k+1=>K0 3
def F_smt_Tree_Root(k:Nat)  (K0:(List Int)->Prop):Prop:=match k with
 | 0=>False
 | k+1=>K0 [0,0,0,0,0,0,0,0,0,0,0,0,0,0,0,0,0,0,0,0,0,0,0,0,0,0,0,0,0,0,0,0]
def F_slices_Clone_api_Leaf_api_Leaf(k:Nat)(r1:(List S_api_Leaf))(K0:(List S_api_Leaf)->Prop):Prop:=match k with
 | 0=>False
 | k+1=>(∀ r2:Bool,(r2=true->r1=([]:List S_api_Leaf))->(cond r2 (K0 []) ((room (List.length ([]:List S_api_Leaf)+r1.length) 64)/\K0 (([]:List S_api_Leaf)++r1))))
def F_cmp_isNaN_byte(k:Nat)(r1:Int)(K0:Bool->Prop):Prop:=match k with
 | 0=>False
 | k+1=>K0 (!decide (r1=r1))
def F_cmp_Compare_byte(k:Nat)(r1:Int)(r2:Int)(K0:Int->Prop):Prop:=match k with
 | 0=>False
 | k+1=>(Hold (F_cmp_isNaN_byte k r1 (fun r3=>(Hold (F_cmp_isNaN_byte k r2 (fun r4=>(cond r3 (cond r4 (K0 0) (K0 (-1:Int))) (cond r4 (K0 1) (cond (decide (r1<r2)) (K0 (-1:Int)) (cond (decide (r2<r1)) (K0 1) (K0 0)))))))))))
def C_slices_Compare_byte_byte_2:Nat->(List Int)->(List Int)->(List Int)->Int->Int->(Int->Prop)->Prop
 | 0,_,_,_,_,_,_=>False
 | k+1,r3,r4,r5,r6,r7,K0=>(cond (decide (r7<r6)) ((0<=r7/\r7<(r5.length:Int))/\(cond (decide ((r4.length:Int)<=r7)) (K0 1) ((0<=r7/\r7<(r4.length:Int))/\(Hold (F_cmp_Compare_byte k (r5.getD r7.toNat 0) (r4.getD r7.toNat 0) (fun r8=>(cond (!decide (r8=(0:Int))) (K0 r8) (Hold (C_slices_Compare_byte_byte_2 k r3 r4 r5 r6 (IntKind.i64.wrap (r7+(1:Int))) K0))))))))) (cond (decide ((r3.length:Int)<(r4.length:Int))) (K0 (-1:Int)) (K0 0)))
def F_slices_Compare_byte_byte(k:Nat)(r1:(List Int))(r2:(List Int))(K0:Int->Prop):Prop:=match k with
 | 0=>False
 | k+1=>(Hold (C_slices_Compare_byte_byte_2 k r1 r2 r1 (r1.length:Int) 0 K0))
def F_smt_twice_1(k:Nat)(r1:(List Int))(r2:(List Int))(r3:(List Int))(r4:(List Int))(K0:Int->Prop):Prop:=match k with
 | 0=>False
 | k+1=>(0<=(0:Int)/\(0:Int)<=32/\(32:Int)<=32)/\(0<=(0:Int)/\(0:Int)<=32/\(32:Int)<=32)/\(Hold (F_slices_Compare_byte_byte k (cut r1 (Int.toNat 0) (Int.toNat ((32:Int)-0))) (cut r3 (Int.toNat 0) (Int.toNat ((32:Int)-0))) (fun r5=>K0 r5)))
def F_slices_SortFunc_api_Leaf_api_Leaf(k:Nat)(r1:(List S_api_Leaf))(K0:(List S_api_Leaf)->Prop):Prop:=match k with
 | 0=>False
 | k+1=>(100<=k/\r1.length<4611686018427387904)/\∀ l9:(List S_api_Leaf),List.Perm l9 r1/\SortedL l9->K0 l9
def C_smt_twice_4:Nat->Int->Int->(List S_api_Leaf)->(Bool->Prop)->Prop
 | 0,_,_,_,_=>False
 | k+1,r4,r5,r6,K0=>(cond (decide (r5<r4)) (cond (decide (0<r5)) ((0<=r5/\r5<(r6.length:Int))/\(0<=(IntKind.i64.wrap (r5-(1:Int)))/\(IntKind.i64.wrap (r5-(1:Int)))<(r6.length:Int))/\(cond (decide ((r6.getD r5.toNat ⟨(List.replicate 32 0),(List.replicate 32 0)⟩).f0=(r6.getD (Int.toNat (IntKind.i64.wrap (r5-(1:Int)))) (S_api_Leaf.mk (List.replicate 32 0) (List.replicate 32 0))).f0)) (K0 true) (Hold (C_smt_twice_4 k r4 (IntKind.i64.wrap (r5+(1:Int))) r6 K0)))) (Hold (C_smt_twice_4 k r4 (IntKind.i64.wrap (r5+(1:Int))) r6 K0))) (K0 false))
def F_smt_twice(k:Nat)(r1:(List S_api_Leaf))(K0:Bool->Prop):Prop:=match k with
 | 0=>False
 | k+1=>(Hold (F_slices_Clone_api_Leaf_api_Leaf k r1 (fun r2=>(Hold (F_slices_SortFunc_api_Leaf_api_Leaf k r2 (fun r3=>(Hold (C_smt_twice_4 k (r3.length:Int) 0 r3 K0))))))))
def F_smt_knot_inner(k:Nat)(r1:(KT S_api_Leaf))(K0:Bool->Prop):Prop:=match k with
 | 0=>False
 | k+1=>(cond (!(KT.isNil r1)) ((KT.isNil r1=false)/\(KT.isNil r1=false)/\(cond (!(KT.isNil (KT.lt r1))) (K0 true) ((KT.isNil r1=false)/\(KT.isNil r1=false)/\K0 (!(KT.isNil (KT.rt r1)))))) (K0 false))
def F_path_mask(k:Nat)(r1:Int)(K0:Int->Prop):Prop:=match k with
 | 0=>False
 | k+1=>((8:Int)≠0)/\(0<=(IntKind.i64.wrap (7-(Int.tmod r1 8))))/\K0 (ishl .u8 1 (IntKind.i64.wrap (7-(Int.tmod r1 8))))
def F_path_Bit(k:Nat)(r1:(List Int))(r2:Int)(K0:Int->Int->Prop):Prop:=match k with
 | 0=>False
 | k+1=>(cond (decide (r2<(0:Int))) (K0 0 20) (cond (decide (256<=r2)) (K0 0 20) (((8:Int)≠0)/\(0<=(IntKind.i64.wrap (Int.tdiv r2 8))/\(IntKind.i64.wrap (Int.tdiv r2 8))<32)/\(Hold (F_path_mask k r2 (fun r3=>(cond (!decide ((iand .u8 (r1.getD (Int.toNat (IntKind.i64.wrap (Int.tdiv r2 8))) 0) r3)=0)) (K0 1 0) (K0 0 0))))))))
def F_smt_right(k:Nat)(r1:(List Int))(r2:Int)(K0:Bool->Prop):Prop:=match k with
 | 0=>False
 | k+1=>(Hold (F_path_Bit k r1 r2 (fun r3 r4=>K0 (decide (r3=(1:Int))))))
def C_smt_Tree_Get_11:Nat->Int->Int->(KT S_api_Leaf)->(List Int)->((List Int)->Bool->Int->Int->(KT S_api_Leaf)->Prop)->Prop
 | 0,_,_,_,_,_=>False
 | k+1,r14,r15,r16,r17,K0=>K0 [0,0,0,0,0,0,0,0,0,0,0,0,0,0,0,0,0,0,0,0,0,0,0,0,0,0,0,0,0,0,0,0] false r14 r15 r16
def C_smt_Tree_Get_5:Nat->(KT S_api_Leaf)->Int->Int->Int->(KT S_api_Leaf)->(List Int)->(List Int)->((List Int)->Bool->Int->Int->(KT S_api_Leaf)->Prop)->Prop
 | 0,_,_,_,_,_,_,_,_=>False
 | k+1,r5,r6,r7,r8,r9,r10,r11,K0=>(Hold (F_smt_knot_inner k r5 (fun r12=>(cond r12 (Hold (F_smt_right k r10 r6 (fun r13=>(cond r13 ((KT.isNil r5=false)/\(KT.isNil r5=false)/\(Hold (C_smt_Tree_Get_5 k (KT.rt r5) (IntKind.i64.wrap (r6+(1:Int))) r7 r8 r9 r10 r11 K0))) ((KT.isNil r5=false)/\(KT.isNil r5=false)/\(Hold (C_smt_Tree_Get_5 k (KT.lt r5) (IntKind.i64.wrap (r6+(1:Int))) r7 r8 r9 r10 r11 K0))))))) (cond (KT.isNil r5) (Hold (C_smt_Tree_Get_11 k r7 r8 r9 r11 K0)) ((KT.isNil r5=false)/\(KT.isNil r5=false)/\(KT.isNil r5=false)/\(cond (!(decide ((KT.lf (S_api_Leaf.mk (List.replicate 32 0) (List.replicate 32 0)) r5).f0=r10))) (Hold (C_smt_Tree_Get_11 k r7 r8 r9 r11 K0)) ((KT.isNil r5=false)/\(KT.isNil r5=false)/\(KT.isNil r5=false)/\K0 (KT.lf (S_api_Leaf.mk (List.replicate 32 0) (List.replicate 32 0)) r5).f1 true r7 r8 r9))))))))
def F_smt_Tree_Get(k:Nat)(r1:(List Int))(r2:Int)(r3:Int)(r4:(KT S_api_Leaf))(K0:(List Int)->Bool->Int->Int->(KT S_api_Leaf)->Prop):Prop:=match k with
 | 0=>False
 | k+1=>(Hold (C_smt_Tree_Get_5 k r4 0 r2 r3 r4 r1 (List.replicate 32 0) K0))
mutual
def C_smt_knot_with_8_1:Nat->(KT S_api_Leaf)->Int->(List Int)->(List Int)->((KT S_api_Leaf)->Prop)->Prop
 | 0,_,_,_,_,_=>False
 | k+1,r38,r39,r40,r41,K0=>(KT.isNil r38=false)/\(KT.isNil r38=false)/\(KT.isNil r38=false)/\(KT.isNil r38=false)/\(∃ r42:Int,(Hold (C_smt_knot_with_9 k r39 r40 r41 r42 (List.replicate 32 0) (List.replicate 32 0) (List.replicate 32 0) (KT.lt r38) (KT.rt r38) K0)))
def F_smt_knot_with:Nat->(KT S_api_Leaf)->(List Int)->(List Int)->Int->((KT S_api_Leaf)->Prop)->Prop
 | 0,_,_,_,_,_=>False
 | k+1,r1,r2,r3,r4,K0=>(cond (KT.isNil r1) (∃ r5:Int,K0 (KT.node r5 (S_api_Leaf.mk r2 r3) (KT.nil:KT S_api_Leaf) (KT.nil:KT S_api_Leaf))) (Hold (F_smt_knot_inner k r1 (fun r6=>(cond (!r6) ((KT.isNil r1=false)/\(KT.isNil r1=false)/\(KT.isNil r1=false)/\(cond (decide ((KT.lf (S_api_Leaf.mk (List.replicate 32 0) (List.replicate 32 0)) r1).f0=r2)) (∃ r7:Int,K0 (KT.node r7 (S_api_Leaf.mk r2 r3) (KT.nil:KT S_api_Leaf) (KT.nil:KT S_api_Leaf))) (Hold (C_smt_knot_with_3 k r1 r4 r2 r3 K0)))) (Hold (C_smt_knot_with_3 k r1 r4 r2 r3 K0)))))))
def C_smt_knot_with_9:Nat->Int->(List Int)->(List Int)->Int->(List Int)->(List Int)->(List Int)->(KT S_api_Leaf)->(KT S_api_Leaf)->((KT S_api_Leaf)->Prop)->Prop
 | 0,_,_,_,_,_,_,_,_,_,_=>False
 | k+1,r26,r27,r28,r29,r30,r31,r32,r33,r34,K0=>(Hold (F_smt_right k r27 r26 (fun r35=>(cond r35 (Hold (F_smt_knot_with k r34 r27 r28 (IntKind.i64.wrap (r26+(1:Int))) (fun r36=>K0 (KT.node r29 (S_api_Leaf.mk r31 r32) r33 r36)))) (Hold (F_smt_knot_with k r33 r27 r28 (IntKind.i64.wrap (r26+(1:Int))) (fun r37=>K0 (KT.node r29 (S_api_Leaf.mk r31 r32) r37 r34))))))))
def C_smt_knot_with_8:Nat->Int->Int->(List Int)->(List Int)->(List Int)->(KT S_api_Leaf)->(KT S_api_Leaf)->(List Int)->(List Int)->((KT S_api_Leaf)->Prop)->Prop
 | 0,_,_,_,_,_,_,_,_,_,_=>False
 | k+1,r16,r17,r18,r19,r20,r21,r22,r23,r24,K0=>(∃ r25:Int,(Hold (C_smt_knot_with_9 k r16 r23 r24 r25 (List.replicate 32 0) (List.replicate 32 0) (List.replicate 32 0) r21 r22 K0)))
def C_smt_knot_with_3:Nat->(KT S_api_Leaf)->Int->(List Int)->(List Int)->((KT S_api_Leaf)->Prop)->Prop
 | 0,_,_,_,_,_=>False
 | k+1,r8,r9,r10,r11,K0=>(Hold (F_smt_knot_inner k r8 (fun r12=>(cond (!r12) ((KT.isNil r8=false)/\(KT.isNil r8=false)/\(∃ r13:Int,(∃ r14:Int,(Hold (F_smt_right k (KT.lf (S_api_Leaf.mk (List.replicate 32 0) (List.replicate 32 0)) r8).f0 r9 (fun r15=>(cond r15 (Hold (C_smt_knot_with_8 k r9 r14 (List.replicate 32 0) (List.replicate 32 0) (List.replicate 32 0) (KT.nil:KT S_api_Leaf) (KT.node r13 (S_api_Leaf.mk (KT.lf (S_api_Leaf.mk (List.replicate 32 0) (List.replicate 32 0)) r8).f0 (KT.lf (S_api_Leaf.mk (List.replicate 32 0) (List.replicate 32 0)) r8).f1) (KT.nil:KT S_api_Leaf) (KT.nil:KT S_api_Leaf)) r10 r11 K0)) (Hold (C_smt_knot_with_8 k r9 r14 (List.replicate 32 0) (List.replicate 32 0) (List.replicate 32 0) (KT.node r13 (S_api_Leaf.mk (KT.lf (S_api_Leaf.mk (List.replicate 32 0) (List.replicate 32 0)) r8).f0 (KT.lf (S_api_Leaf.mk (List.replicate 32 0) (List.replicate 32 0)) r8).f1) (KT.nil:KT S_api_Leaf) (KT.nil:KT S_api_Leaf)) (KT.nil:KT S_api_Leaf) r10 r11 K0))))))))) (Hold (C_smt_knot_with_8_1 k r8 r9 r10 r11 K0))))))
end
def C_smt_Tree_Set_9:Nat->(KT S_api_Leaf)->Int->(List S_api_Leaf)->Int->Int->Int->Int->(KT S_api_Leaf)->(Int->Int->Int->(KT S_api_Leaf)->Prop)->Prop
 | 0,_,_,_,_,_,_,_,_,_=>False
 | k+1,r6,r7,r8,r9,r10,r11,r12,r13,K1=>(cond (decide (r10<r9)) ((0<=r10/\r10<(r8.length:Int))/\(Hold (F_smt_Tree_Get k (r8.getD r10.toNat ⟨(List.replicate 32 0),(List.replicate 32 0)⟩).f0 r11 r12 r13 (fun r14 r15 r16 r17 r18=>(cond (!r15) (Hold (F_smt_knot_with k r6 (r8.getD r10.toNat ⟨(List.replicate 32 0),(List.replicate 32 0)⟩).f0 (r8.getD r10.toNat ⟨(List.replicate 32 0),(List.replicate 32 0)⟩).f1 0 (fun r19=>(Hold (C_smt_Tree_Set_9 k r19 (IntKind.i64.wrap (r7+(1:Int))) r8 r9 (IntKind.i64.wrap (r10+(1:Int))) r16 r17 r18 K1))))) (Hold (F_smt_knot_with k r6 (r8.getD r10.toNat ⟨(List.replicate 32 0),(List.replicate 32 0)⟩).f0 (r8.getD r10.toNat ⟨(List.replicate 32 0),(List.replicate 32 0)⟩).f1 0 (fun r20=>(Hold (C_smt_Tree_Set_9 k r20 r7 r8 r9 (IntKind.i64.wrap (r10+(1:Int))) r16 r17 r18 K1)))))))))) (cond (decide (4096<r7)) (K1 2 r11 r12 r13) (K1 0 r11 r7 r6)))
def F_smt_Tree_Set_s1(k:Nat)(r1:(List S_api_Leaf))(r2:Int)(r3:Int)(r4:(KT S_api_Leaf))(K1:Int->Int->Int->(KT S_api_Leaf)->Prop):Prop:=match k with
 | 0=>False
 | k+1=>(cond (decide (4096<(r1.length:Int))) (K1 2 r2 r3 r4) (Hold (F_smt_twice k r1 (fun r5=>(cond r5 (K1 30 r2 r3 r4) (Hold (C_smt_Tree_Set_9 k r4 r3 r1 (r1.length:Int) 0 r2 r3 r4 K1)))))))
def F_smt_knot_inner_s1(k:Nat)(r1:Int)(r2:Int)(r3:Int)(r4:(List Int))(r5:(List Int))(r6:(List Int))(r7:(KT S_api_Leaf))(r8:(KT S_api_Leaf))(K1:Bool->Int->Int->Int->(List Int)->(List Int)->(List Int)->(KT S_api_Leaf)->(KT S_api_Leaf)->Prop):Prop:=match k with
 | 0=>False
 | k+1=>(cond (!(KT.isNil r7)) (K1 true r1 r2 r3 r4 r5 r6 r7 r8) (K1 (!(KT.isNil r8)) r1 r2 r3 r4 r5 r6 r7 r8))
def C_smt_short_4:Nat->(List Int)->(List Int)->((List Int)->Prop)->Prop
 | 0,_,_,_=>False
 | k+1,r4,r5,K0=>K0 r5
def F_smt_short(k:Nat)(r1:Int)(r2:(List Int))(K0:(List Int)->Prop):Prop:=match k with
 | 0=>False
 | k+1=>(Hold (F_smt_width k r1 (fun r3=>(cond r3 ((0<=(0:Int)/\0<=r1/\r1<=(32:Int))/\(0<=(0:Int)/\(0:Int)<=32/\(32:Int)<=32)/\(Hold (C_smt_short_4 k (List.replicate 32 0) (splice (List.replicate 32 0) (Int.toNat 0) (cut r2 (Int.toNat 0) (Int.toNat ((32:Int)-0))) (Nat.min (List.length (cut r2 (Int.toNat 0) (Int.toNat ((32:Int)-0)))) (Int.toNat (r1-(0:Int))))) K0))) (Hold (C_smt_short_4 k (List.replicate 32 0) (List.replicate 32 0) K0))))))
def C_smt_summed_4:Nat->Int->(List (List Int))->Int->Int->(List Int)->(List Int)->(List Int)->Int->((List Int)->Prop)->Prop
 | 0,_,_,_,_,_,_,_,_,_=>False
 | k+1,r11,r12,r13,r14,r15,r16,r17,r18,K0=>(cond (decide (r14<r13)) ((0<=r14/\r14<(r12.length:Int))/\(0<=(0:Int)/\(0:Int)<=32/\(32:Int)<=32)/\(Hold (F_sha_Hash_Write k (cut (r12.getD r14.toNat (List.replicate 32 0)) (Int.toNat 0) (Int.toNat ((32:Int)-0))) r16 r17 r18 (fun r19 r20 r21 r22=>(Hold (C_smt_summed_4 k r11 r12 r13 (IntKind.i64.wrap (r14+(1:Int))) r15 r20 r21 r22 K0)))))) (Hold (F_sha_Hash_Sum k r16 r17 r18 (fun r23 r24 r25 r26=>(Hold (F_smt_short k r11 r23 (fun r27=>K0 r27)))))))
def F_smt_summed(k:Nat)(r1:Int)(r2:Int)(r3:(List (List Int)))(K0:(List Int)->Prop):Prop:=match k with
 | 0=>False
 | k+1=>(Hold (F_sha_New k (fun r4 r5 r6=>(Hold (F_sha_Hash_Write k [r2] r4 r5 r6 (fun r7 r8 r9 r10=>(Hold (C_smt_summed_4 k r1 r3 (r3.length:Int) 0 (List.replicate 32 0) r8 r9 r10 K0))))))))
def F_smt_Node(k:Nat)(r1:Int)(r2:(List Int))(r3:(List Int))(K0:(List Int)->Prop):Prop:=match k with
 | 0=>False
 | k+1=>(Hold (F_smt_summed k r1 1 [r2,r3] (fun r4=>K0 r4)))
def F_smt_Leaf(k:Nat)(r1:Int)(r2:(List Int))(r3:(List Int))(K0:(List Int)->Prop):Prop:=match k with
 | 0=>False
 | k+1=>(Hold (F_smt_summed k r1 0 [r2,r3] (fun r4=>K0 r4)))
def F_smt_knot_digest(k:Nat)(r1:(KT S_api_Leaf))(r2:Int)(K0:(List Int)->Prop):Prop:=match k with
 | 0=>False
 | k+1=>(digBound r1<=k/\(0<=r2/\r2<=32)/\allG r2 r1)/\K0 (digT r2 r1)
def F_smt_knot_digest_1(k:Nat)(r1:Int)(r2:Int)(r3:Int)(r4:Int)(r5:(List Int))(r6:(List Int))(r7:(List Int))(r8:(KT S_api_Leaf))(r9:(KT S_api_Leaf))(K0:Int->Int->Int->Int->(List Int)->(List Int)->(List Int)->(KT S_api_Leaf)->(KT S_api_Leaf)->Prop):Prop:=match k with
 | 0=>False
 | k+1=>(Hold (F_smt_knot_inner_s1 k r2 r3 r4 r5 r6 r7 r8 r9 (fun r10 r11 r12 r13 r14 r15 r16 r17 r18=>(cond r10 (Hold (F_smt_knot_digest k r17 r1 (fun r19=>(Hold (F_smt_knot_digest k r18 r1 (fun r20=>(Hold (F_smt_Node k r1 r19 r20 (fun r21=>K0 r1 r11 r12 r13 r21 r15 r16 r17 r18))))))))) (Hold (F_smt_Leaf k r1 r15 r16 (fun r22=>K0 r1 r11 r12 r13 r22 r15 r16 r17 r18)))))))
def F_smt_Empty(k:Nat)(r1:Int)(K0:(List Int)->Prop):Prop:=match k with
 | 0=>False
 | k+1=>(Hold (F_smt_summed k r1 2 [] (fun r2=>K0 r2)))
def F_smt_Tree_Root_s1(k:Nat)(r1:Int)(r2:Int)(r3:(KT S_api_Leaf))(K1:(List Int)->Int->Int->(KT S_api_Leaf)->Prop):Prop:=match k with
 | 0=>False
 | k+1=>(Hold (F_smt_knot_digest k r3 r1 (fun r4=>K1 r4 r1 r2 r3)))
def C_smt_Root_3:Nat->Int->(List Int)->((List Int)->Int->Prop)->Prop
 | 0,_,_,_=>False
 | k+1,r7,r8,K0=>K0 [0,0,0,0,0,0,0,0,0,0,0,0,0,0,0,0,0,0,0,0,0,0,0,0,0,0,0,0,0,0,0,0] r7
def C_smt_Root_6:Nat->Int->(List Int)->((List Int)->Int->Prop)->Prop
 | 0,_,_,_=>False
 | k+1,r14,r15,K0=>K0 [0,0,0,0,0,0,0,0,0,0,0,0,0,0,0,0,0,0,0,0,0,0,0,0,0,0,0,0,0,0,0,0] r14
def C_smt_Root_5:Nat->Int->(List Int)->((List Int)->Int->Prop)->Prop
 | 0,_,_,_=>False
 | k+1,r12,r13,K0=>(cond (!decide (r12=(0:Int))) (Hold (C_smt_Root_6 k r12 r13 K0)) (Hold (F_smt_Tree_Root k (fun r16=>K0 r16 0))))
def C_smt_Root_4:Nat->(List S_api_Leaf)->(List Int)->((List Int)->Int->Prop)->Prop
 | 0,_,_,_=>False
 | k+1,r9,r10,K0=>(Hold (F_smt_Tree_Set k r9 (fun r11=>(Hold (C_smt_Root_5 k r11 r10 K0)))))
def C_smt_Root_2:Nat->(List S_api_Leaf)->Int->(List Int)->((List Int)->Int->Prop)->Prop
 | 0,_,_,_,_=>False
 | k+1,r4,r5,r6,K0=>(cond (!decide (r5=(0:Int))) (Hold (C_smt_Root_3 k r5 r6 K0)) (Hold (C_smt_Root_4 k r4 r6 K0)))
def C_smt_Root_5_1:Nat->Int->(List Int)->Int->Int->(KT S_api_Leaf)->((List Int)->Int->Prop)->Prop
 | 0,_,_,_,_,_,_=>False
 | k+1,r36,r37,r38,r39,r40,K0=>(cond (!decide (r36=(0:Int))) (Hold (C_smt_Root_6 k r36 r37 K0)) (Hold (F_smt_Tree_Root_s1 k r38 r39 r40 (fun r41 r42 r43 r44=>K0 r41 0))))
def C_smt_Root_4_1:Nat->(List S_api_Leaf)->(List Int)->Int->Int->(KT S_api_Leaf)->((List Int)->Int->Prop)->Prop
 | 0,_,_,_,_,_,_=>False
 | k+1,r27,r28,r29,r30,r31,K0=>(Hold (F_smt_Tree_Set_s1 k r27 r29 r30 r31 (fun r32 r33 r34 r35=>(Hold (C_smt_Root_5_1 k r32 r28 r33 r34 r35 K0)))))
def C_smt_Root_2_1:Nat->(List S_api_Leaf)->Int->(List Int)->Int->Int->(KT S_api_Leaf)->((List Int)->Int->Prop)->Prop
 | 0,_,_,_,_,_,_,_=>False
 | k+1,r21,r22,r23,r24,r25,r26,K0=>(cond (!decide (r22=(0:Int))) (Hold (C_smt_Root_3 k r22 r23 K0)) (Hold (C_smt_Root_4_1 k r21 r23 r24 r25 r26 K0)))
def F_smt_Root(k:Nat)(r1:Int)(r2:(List S_api_Leaf))(K0:(List Int)->Int->Prop):Prop:=match k with
 | 0=>False
 | k+1=>(Hold (F_smt_New k r1 (fun r3=>(Hold (C_smt_Root_2 k r2 r3 (List.replicate 32 0) K0))) (fun r17 r18 r19 r20=>(Hold (C_smt_Root_2_1 k r2 r17 (List.replicate 32 0) r18 r19 r20 K0)))))
def F_directory_work_root(k:Nat)(r1:Int)(r2:Int)(r3:(List S_api_User))(r4:(List S_api_Head))(r5:(List S_api_Session))(K0:(List Int)->Int->(List S_api_User)->(List S_api_Head)->(List S_api_Session)->Prop):Prop:=match k with
 | 0=>False
 | k+1=>(Hold (F_directory_work_leaves k r1 r2 r3 r4 r5 (fun r6 r7 r8 r9 r10=>(Hold (F_smt_Root k 32 r10 (fun r11 r12=>K0 r11 r6 r7 r8 r9))))))
def F_directory_Root(k:Nat)(r1:Int)(r2:(List S_api_User))(r3:(List S_api_Head))(r4:(List S_api_Session))(r5:Int)(K0:(List Int)->Int->Prop):Prop:=match k with
 | 0=>False
 | k+1=>(Hold (F_directory_sealed k r1 r2 r3 r4 true r5 (fun r6=>(cond (!decide (r6=(0:Int))) (K0 [0,0,0,0,0,0,0,0,0,0,0,0,0,0,0,0,0,0,0,0,0,0,0,0,0,0,0,0,0,0,0,0] r6) (Hold (F_directory_work_root k r5 r1 r2 r3 r4 (fun r7 r8 r9 r10 r11=>K0 r7 0)))))))
def F_r10_within(k:Nat)(r1:Int)(r2:Int)(r3:Int)(K0:Bool->Prop):Prop:=match k with
 | 0=>False
 | k+1=>(cond (decide (r2<=r1)) (K0 (decide (r1<=r3))) (K0 false))
def F_r10_Name(k:Nat)(r1:ByteArray)(K0:Bool->Prop):Prop:=match k with
 | 0=>False
 | k+1=>(cond (decide (1<=(ByteArray.size r1:Int))) (K0 (decide ((ByteArray.size r1:Int)<=32))) (K0 false))
def F_r07_May(k:Nat)(r1:Int)(r2:Int)(r3:ByteArray)(K0:Bool->Prop):Prop:=match k with
 | 0=>False
 | k+1=>(cond (decide (r1<(1:Int))) (K0 false) (cond (decide (200<r1)) (K0 false) (cond (decide (r2=(1:Int))) (cond (decide (r2=(1:Int))) (cond (decide (1<=(ByteArray.size r3:Int))) (K0 (decide ((ByteArray.size r3:Int)<=64))) (K0 false)) (cond (decide (r2=(3:Int))) (K0 (seq r3 str0)) (K0 false))) (cond (decide (r2=(2:Int))) (cond (decide (1<=(ByteArray.size r3:Int))) (K0 (decide ((ByteArray.size r3:Int)<=64))) (K0 false)) (cond (decide (r2=(3:Int))) (K0 (seq r3 str0)) (K0 false))))))
def F_r07_follows(k:Nat)(r1:Int)(r2:Int)(K0:Bool->Prop):Prop:=match k with
 | 0=>False
 | k+1=>(cond (decide (r1=(0:Int))) (K0 (decide (r2=(1:Int)))) (cond (decide (r1=(3:Int))) (K0 (decide (r2=(1:Int)))) (cond (decide (r2=(2:Int))) (K0 true) (K0 (decide (r2=(3:Int)))))))
def C_r07_Is_3:Nat->(List S_api_Version)->Int->Int->Int->ByteArray->(Bool->Prop)->Prop
 | 0,_,_,_,_,_,_=>False
 | k+1,r2,r3,r4,r5,r6,K0=>(cond (decide (r3<(r2.length:Int))) ((0<=r3/\r3<(r2.length:Int))/\(Hold (F_r07_May k (r2.getD r3.toNat ⟨0,0,.empty⟩).f0 (r2.getD r3.toNat ⟨0,0,.empty⟩).f1 (r2.getD r3.toNat ⟨0,0,.empty⟩).f2 (fun r7=>(cond (!r7) (K0 false) ((0<=r3/\r3<(r2.length:Int))/\(cond (decide ((r2.getD r3.toNat ⟨0,0,.empty⟩).f0<r4)) (K0 false) ((0<=r3/\r3<(r2.length:Int))/\(Hold (F_r07_follows k r5 (r2.getD r3.toNat ⟨0,0,.empty⟩).f1 (fun r8=>(cond (!r8) (K0 false) ((0<=r3/\r3<(r2.length:Int))/\(Hold (C_r07_Is_3 k r2 (IntKind.i64.wrap (r3+(1:Int))) (r2.getD r3.toNat ⟨0,0,.empty⟩).f0 (r2.getD r3.toNat ⟨0,0,.empty⟩).f1 (r2.getD r3.toNat ⟨0,0,.empty⟩).f2 K0))))))))))))))) (K0 (decide ((r2.length:Int)<=16))))
def F_r07_Is(k:Nat)(r1:(List S_api_Version))(K0:Bool->Prop):Prop:=match k with
 | 0=>False
 | k+1=>(Hold (C_r07_Is_3 k r1 0 0 0 ByteArray.empty K0))
def C_r10_users_4:Nat->(List S_api_User)->Int->Int->(Bool->Prop)->Prop
 | 0,_,_,_,_=>False
 | k+1,r3,r4,r5,K0=>(cond (decide (r5<(r3.length:Int))) ((0<=r5/\r5<(r3.length:Int))/\(cond (decide (0<r5)) ((0<=(IntKind.i64.wrap (r5-(1:Int)))/\(IntKind.i64.wrap (r5-(1:Int)))<(r3.length:Int))/\(0<=r5/\r5<(r3.length:Int))/\(cond (!slt (r3.getD (Int.toNat (IntKind.i64.wrap (r5-(1:Int)))) (S_api_User.mk ByteArray.empty ([]:List S_api_Version))).f0 (r3.getD r5.toNat ⟨.empty,[]⟩).f0) (K0 false) ((0<=r5/\r5<(r3.length:Int))/\(Hold (F_r10_Name k (r3.getD r5.toNat ⟨.empty,[]⟩).f0 (fun r6=>(cond (!r6) (K0 false) (cond (decide (((List.length (r3.getD r5.toNat ⟨.empty,[]⟩).f1:Nat):Int)=0)) (K0 false) (Hold (F_r07_Is k (r3.getD r5.toNat ⟨.empty,[]⟩).f1 (fun r7=>(cond (!r7) (K0 false) ((0<=(IntKind.i64.wrap (((List.length (r3.getD r5.toNat ⟨.empty,[]⟩).f1:Nat):Int)-1))/\(IntKind.i64.wrap (((List.length (r3.getD r5.toNat ⟨.empty,[]⟩).f1:Nat):Int)-1))<((List.length (r3.getD r5.toNat ⟨.empty,[]⟩).f1:Nat):Int))/\(cond (decide (r4<(IntKind.i64.wrap ((List.getD (r3.getD r5.toNat ⟨.empty,[]⟩).f1 (Int.toNat (IntKind.i64.wrap (((List.length (r3.getD r5.toNat ⟨.empty,[]⟩).f1:Nat):Int)-1))) (S_api_Version.mk 0 0 ByteArray.empty)).f0-(1:Int))))) (K0 false) (Hold (C_r10_users_4 k r3 r4 (IntKind.i64.wrap (r5+(1:Int))) K0)))))))))))))))) ((0<=r5/\r5<(r3.length:Int))/\(Hold (F_r10_Name k (r3.getD r5.toNat ⟨.empty,[]⟩).f0 (fun r8=>(cond (!r8) (K0 false) (cond (decide (((List.length (r3.getD r5.toNat ⟨.empty,[]⟩).f1:Nat):Int)=0)) (K0 false) (Hold (F_r07_Is k (r3.getD r5.toNat ⟨.empty,[]⟩).f1 (fun r9=>(cond (!r9) (K0 false) ((0<=(IntKind.i64.wrap (((List.length (r3.getD r5.toNat ⟨.empty,[]⟩).f1:Nat):Int)-1))/\(IntKind.i64.wrap (((List.length (r3.getD r5.toNat ⟨.empty,[]⟩).f1:Nat):Int)-1))<((List.length (r3.getD r5.toNat ⟨.empty,[]⟩).f1:Nat):Int))/\(cond (decide (r4<(IntKind.i64.wrap ((List.getD (r3.getD r5.toNat ⟨.empty,[]⟩).f1 (Int.toNat (IntKind.i64.wrap (((List.length (r3.getD r5.toNat ⟨.empty,[]⟩).f1:Nat):Int)-1))) (S_api_Version.mk 0 0 ByteArray.empty)).f0-(1:Int))))) (K0 false) (Hold (C_r10_users_4 k r3 r4 (IntKind.i64.wrap (r5+(1:Int))) K0)))))))))))))))) (K0 true))
def F_r10_users(k:Nat)(r1:(List S_api_User))(r2:Int)(K0:Bool->Prop):Prop:=match k with
 | 0=>False
 | k+1=>(cond (decide (64<(r1.length:Int))) (K0 false) (Hold (C_r10_users_4 k r1 r2 0 K0)))
def F_r09_May(k:Nat)(r1:Int)(r2:(List Int))(r3:(List Int))(K0:Bool->Prop):Prop:=match k with
 | 0=>False
 | k+1=>(cond (decide (1<=r1)) (K0 (decide (r1<=(200:Int)))) (K0 false))
def F_r01_Groups:Nat->Int->((List Int)->Prop)->Prop
 | 0,_,_=>False
 | k+1,r1,K0=>(cond (decide (r1<(128:Int))) (K0 [(IntKind.u8.wrap r1)]) (((128:Int)≠0)/\((128:Int)≠0)/\(Hold (F_r01_Groups k (IntKind.i64.wrap (Int.tdiv r1 128)) (fun r2=>(room (List.length [(IntKind.u8.wrap (IntKind.i64.wrap ((128:Int)+(Int.tmod r1 (128:Int)))))]+r2.length) 1)/\K0 ([(IntKind.u8.wrap (IntKind.i64.wrap (128+(Int.tmod r1 128))))]++r2))))))
def F_r09_Bytes(k:Nat)(r1:Int)(r2:(List Int))(r3:(List Int))(K0:(List Int)->Int->Prop):Prop:=match k with
 | 0=>False
 | k+1=>(Hold (F_r09_May k r1 r2 r3 (fun r4=>(cond (!r4) (K0 [] 80) (Hold (F_r01_Groups k r1 (fun r5=>(0<=(0:Int)/\(0:Int)<=32/\(32:Int)<=32)/\(room (r5.length+List.length (cut r2 (Int.toNat 0) (Int.toNat ((32:Int)-0)))) 1)/\(0<=(0:Int)/\(0:Int)<=32/\(32:Int)<=32)/\(room (List.length (r5++(cut r2 (Int.toNat 0) (Int.toNat ((32:Int)-0))))+List.length (cut r3 (Int.toNat 0) (Int.toNat ((32:Int)-0)))) 1)/\K0 ((r5++(cut r2 (Int.toNat 0) (Int.toNat ((32:Int)-0))))++(cut r3 (Int.toNat 0) (Int.toNat ((32:Int)-0)))) 0)))))))
def C_r02_Padded_8:Nat->Int->Int->(List Int)->((List Int)->Prop)->Prop
 | 0,_,_,_,_=>False
 | k+1,r4,r5,r6,K0=>(cond (decide (0<=r5)) ((0<=(IntKind.i64.wrap (8*r5)))/\(room (r6.length+List.length [(IntKind.u8.wrap (ishr .u64 r4 (IntKind.i64.wrap ((8:Int)*r5))))]) 1)/\(Hold (C_r02_Padded_8 k r4 (IntKind.i64.wrap (r5-(1:Int))) (r6++[(IntKind.u8.wrap (ishr .u64 r4 (IntKind.i64.wrap ((8:Int)*r5))))]) K0))) (K0 r6))
def C_r02_Padded_4:Nat->(List Int)->(List Int)->((List Int)->Prop)->Prop
 | 0,_,_,_=>False
 | k+1,r2,r3,K0=>((64:Int)≠0)/\(cond (!decide ((Int.tmod (r3.length:Int) 64)=56)) ((room (r3.length+List.length [(0:Int)]) 1)/\(Hold (C_r02_Padded_4 k r2 (r3++[(0:Int)]) K0))) (Hold (C_r02_Padded_8 k (IntKind.u64.wrap ((IntKind.u64.wrap (r2.length:Int))*8)) 7 r3 K0)))
def F_r02_Padded(k:Nat)(r1:(List Int))(K0:(List Int)->Prop):Prop:=match k with
 | 0=>False
 | k+1=>(room (r1.length) 1)/\(room (r1.length+List.length [(128:Int)]) 1)/\(Hold (C_r02_Padded_4 k r1 (r1++[(128:Int)]) K0))
def F_r02_begin(k:Nat)  (K0:(List Int)->Prop):Prop:=match k with
 | 0=>False
 | k+1=>K0 [1779033703,3144134277,1013904242,2773480762,1359893119,2600822924,528734635,1541459225]
def F_r02_turned(k:Nat)(r1:Int)(r2:Int)(K0:Int->Prop):Prop:=match k with
 | 0=>False
 | k+1=>(0<=r2)/\(0<=(IntKind.i64.wrap (32-r2)))/\K0 (ior .u32 (ishr .u32 r1 r2) (ishl .u32 r1 (IntKind.i64.wrap (32-r2))))
def C_r02_block_22:Nat->Int->(List Int)->(List Int)->(List Int)->((List Int)->Prop)->Prop
 | 0,_,_,_,_,_=>False
 | k+1,r27,r28,r29,r30,K0=>(cond (decide (r27<(8:Int))) ((0<=r27/\r27<(8:Int))/\(0<=r27/\r27<(8:Int))/\(0<=r27/\r27<(8:Int))/\(Hold (C_r02_block_22 k (IntKind.i64.wrap (r27+(1:Int))) (r28.set r27.toNat (IntKind.u32.wrap ((r28.getD r27.toNat 0)+(r30.getD r27.toNat 0)))) r29 r30 K0))) (K0 r28))
def C_r02_block_14:Nat->Int->(List Int)->(List Int)->(List Int)->(List Int)->((List Int)->Prop)->Prop
 | 0,_,_,_,_,_,_=>False
 | k+1,r16,r17,r18,r19,r20,K0=>(cond (decide (r16<(64:Int))) ((0<=(4:Int)/\(4:Int)<8)/\(0<=(4:Int)/\(4:Int)<8)/\(0<=(4:Int)/\(4:Int)<8)/\(Hold (F_r02_turned k (r20.getD (Int.toNat 4) 0) 6 (fun r21=>(Hold (F_r02_turned k (r20.getD (Int.toNat 4) 0) 11 (fun r22=>(Hold (F_r02_turned k (r20.getD (Int.toNat 4) 0) 25 (fun r23=>(0<=(0:Int)/\(0:Int)<8)/\(0<=(0:Int)/\(0:Int)<8)/\(0<=(0:Int)/\(0:Int)<8)/\(Hold (F_r02_turned k (r20.getD (Int.toNat 0) 0) 2 (fun r24=>(Hold (F_r02_turned k (r20.getD (Int.toNat 0) 0) 13 (fun r25=>(Hold (F_r02_turned k (r20.getD (Int.toNat 0) 0) 22 (fun r26=>(0<=(7:Int)/\(7:Int)<8)/\(0<=(4:Int)/\(4:Int)<8)/\(0<=(5:Int)/\(5:Int)<8)/\(0<=(4:Int)/\(4:Int)<8)/\(0<=(6:Int)/\(6:Int)<8)/\(0<=r16/\r16<(64:Int))/\(0<=r16/\r16<(64:Int))/\(0<=(0:Int)/\(0:Int)<8)/\(0<=(1:Int)/\(1:Int)<8)/\(0<=(0:Int)/\(0:Int)<8)/\(0<=(2:Int)/\(2:Int)<8)/\(0<=(1:Int)/\(1:Int)<8)/\(0<=(2:Int)/\(2:Int)<8)/\(0<=(0:Int)/\(0:Int)<8)/\(0<=(1:Int)/\(1:Int)<8)/\(0<=(2:Int)/\(2:Int)<8)/\(0<=(3:Int)/\(3:Int)<8)/\(0<=(4:Int)/\(4:Int)<8)/\(0<=(5:Int)/\(5:Int)<8)/\(0<=(6:Int)/\(6:Int)<8)/\(Hold (C_r02_block_14 k (IntKind.i64.wrap (r16+(1:Int))) r17 r18 r19 [(IntKind.u32.wrap ((IntKind.u32.wrap ((IntKind.u32.wrap ((IntKind.u32.wrap ((IntKind.u32.wrap ((r20.getD (Int.toNat 7) 0)+(ixor .u32 (ixor .u32 r21 r22) r23)))+(ixor .u32 (iand .u32 (r20.getD (Int.toNat 4) 0) (r20.getD (Int.toNat 5) 0)) (iand .u32 (ixor .u32 4294967295 (r20.getD (Int.toNat 4) 0)) (r20.getD (Int.toNat 6) 0)))))+(List.getD (List.getD [G_r02_key] 0 (List.replicate 64 0)) r16.toNat 0)))+(r19.getD r16.toNat 0)))+(IntKind.u32.wrap ((ixor .u32 (ixor .u32 r24 r25) r26)+(ixor .u32 (ixor .u32 (iand .u32 (r20.getD (Int.toNat 0) 0) (r20.getD (Int.toNat 1) 0)) (iand .u32 (r20.getD (Int.toNat 0) 0) (r20.getD (Int.toNat 2) 0))) (iand .u32 (r20.getD (Int.toNat 1) 0) (r20.getD (Int.toNat 2) 0))))))),(r20.getD (Int.toNat 0) 0),(r20.getD (Int.toNat 1) 0),(r20.getD (Int.toNat 2) 0),(IntKind.u32.wrap ((r20.getD (Int.toNat 3) 0)+(IntKind.u32.wrap ((IntKind.u32.wrap ((IntKind.u32.wrap ((IntKind.u32.wrap ((r20.getD (Int.toNat 7) 0)+(ixor .u32 (ixor .u32 r21 r22) r23)))+(ixor .u32 (iand .u32 (r20.getD (Int.toNat 4) 0) (r20.getD (Int.toNat 5) 0)) (iand .u32 (ixor .u32 4294967295 (r20.getD (Int.toNat 4) 0)) (r20.getD (Int.toNat 6) 0)))))+(List.getD (List.getD [G_r02_key] 0 (List.replicate 64 0)) r16.toNat 0)))+(r19.getD r16.toNat 0))))),(r20.getD (Int.toNat 4) 0),(r20.getD (Int.toNat 5) 0),(r20.getD (Int.toNat 6) 0)] K0))))))))))))))))))))) (Hold (C_r02_block_22 k 0 r17 r18 r20 K0)))
def C_r02_block_7:Nat->Int->(List Int)->(List Int)->(List Int)->((List Int)->Prop)->Prop
 | 0,_,_,_,_,_=>False
 | k+1,r8,r9,r10,r11,K0=>(cond (decide (r8<(64:Int))) ((0<=(IntKind.i64.wrap (r8-(15:Int)))/\(IntKind.i64.wrap (r8-(15:Int)))<64)/\(0<=(IntKind.i64.wrap (r8-(15:Int)))/\(IntKind.i64.wrap (r8-(15:Int)))<64)/\(0<=(IntKind.i64.wrap (r8-(15:Int)))/\(IntKind.i64.wrap (r8-(15:Int)))<64)/\(0<=(3:Int))/\(Hold (F_r02_turned k (r11.getD (Int.toNat (IntKind.i64.wrap (r8-(15:Int)))) 0) 7 (fun r12=>(Hold (F_r02_turned k (r11.getD (Int.toNat (IntKind.i64.wrap (r8-(15:Int)))) 0) 18 (fun r13=>(0<=(IntKind.i64.wrap (r8-(2:Int)))/\(IntKind.i64.wrap (r8-(2:Int)))<64)/\(0<=(IntKind.i64.wrap (r8-(2:Int)))/\(IntKind.i64.wrap (r8-(2:Int)))<64)/\(0<=(IntKind.i64.wrap (r8-(2:Int)))/\(IntKind.i64.wrap (r8-(2:Int)))<64)/\(0<=(10:Int))/\(Hold (F_r02_turned k (r11.getD (Int.toNat (IntKind.i64.wrap (r8-(2:Int)))) 0) 17 (fun r14=>(Hold (F_r02_turned k (r11.getD (Int.toNat (IntKind.i64.wrap (r8-(2:Int)))) 0) 19 (fun r15=>(0<=(IntKind.i64.wrap (r8-(7:Int)))/\(IntKind.i64.wrap (r8-(7:Int)))<64)/\(0<=(IntKind.i64.wrap (r8-(16:Int)))/\(IntKind.i64.wrap (r8-(16:Int)))<64)/\(0<=r8/\r8<(64:Int))/\(Hold (C_r02_block_7 k (IntKind.i64.wrap (r8+(1:Int))) r9 r10 (r11.set r8.toNat (IntKind.u32.wrap ((IntKind.u32.wrap ((IntKind.u32.wrap ((ixor .u32 (ixor .u32 r14 r15) (ishr .u32 (r11.getD (Int.toNat (IntKind.i64.wrap (r8-(2:Int)))) 0) 10))+(r11.getD (Int.toNat (IntKind.i64.wrap (r8-(7:Int)))) 0)))+(ixor .u32 (ixor .u32 r12 r13) (ishr .u32 (r11.getD (Int.toNat (IntKind.i64.wrap (r8-(15:Int)))) 0) 3))))+(r11.getD (Int.toNat (IntKind.i64.wrap (r8-(16:Int)))) 0)))) K0))))))))))))))) (Hold (C_r02_block_14 k 0 r9 r10 r11 r9 K0)))
def C_r02_block_3:Nat->(List Int)->Int->(List Int)->(List Int)->(List Int)->((List Int)->Prop)->Prop
 | 0,_,_,_,_,_,_=>False
 | k+1,r3,r4,r5,r6,r7,K0=>(cond (decide (r4<(16:Int))) ((0<=(IntKind.i64.wrap (4*r4))/\(IntKind.i64.wrap (4*r4))<(r3.length:Int))/\(0<=(24:Int))/\(0<=(IntKind.i64.wrap ((IntKind.i64.wrap (4*r4))+1))/\(IntKind.i64.wrap ((IntKind.i64.wrap (4*r4))+1))<(r3.length:Int))/\(0<=(16:Int))/\(0<=(IntKind.i64.wrap ((IntKind.i64.wrap (4*r4))+2))/\(IntKind.i64.wrap ((IntKind.i64.wrap (4*r4))+2))<(r3.length:Int))/\(0<=(8:Int))/\(0<=(IntKind.i64.wrap ((IntKind.i64.wrap (4*r4))+3))/\(IntKind.i64.wrap ((IntKind.i64.wrap (4*r4))+3))<(r3.length:Int))/\(0<=r4/\r4<(64:Int))/\(Hold (C_r02_block_3 k r3 (IntKind.i64.wrap (r4+(1:Int))) r5 r6 (r7.set r4.toNat (IntKind.u32.wrap ((IntKind.u32.wrap ((IntKind.u32.wrap ((ishl .u32 (IntKind.u32.wrap (r3.getD (Int.toNat (IntKind.i64.wrap (4*r4))) 0)) 24)+(ishl .u32 (IntKind.u32.wrap (r3.getD (Int.toNat (IntKind.i64.wrap ((IntKind.i64.wrap (4*r4))+1))) 0)) 16)))+(ishl .u32 (IntKind.u32.wrap (r3.getD (Int.toNat (IntKind.i64.wrap ((IntKind.i64.wrap (4*r4))+2))) 0)) 8)))+(IntKind.u32.wrap (r3.getD (Int.toNat (IntKind.i64.wrap ((IntKind.i64.wrap (4*r4))+3))) 0))))) K0))) (Hold (C_r02_block_7 k 16 r5 r6 r7 K0)))
def F_r02_block(k:Nat)(r1:(List Int))(r2:(List Int))(K0:(List Int)->Prop):Prop:=match k with
 | 0=>False
 | k+1=>(Hold (C_r02_block_3 k r2 0 r1 (List.replicate 8 0) (List.replicate 64 0) K0))
def C_r02_Sum_9:Nat->Int->(List Int)->(List Int)->(List Int)->((List Int)->Prop)->Prop
 | 0,_,_,_,_,_=>False
 | k+1,r9,r10,r11,r12,K0=>(cond (decide (r9<(32:Int))) (((4:Int)≠0)/\(0<=(IntKind.i64.wrap (Int.tdiv r9 4))/\(IntKind.i64.wrap (Int.tdiv r9 4))<8)/\((4:Int)≠0)/\(0<=(IntKind.i64.wrap (24-(IntKind.i64.wrap (8*(Int.tmod r9 4))))))/\(0<=r9/\r9<(32:Int))/\(Hold (C_r02_Sum_9 k (IntKind.i64.wrap (r9+(1:Int))) r10 r11 (r12.set r9.toNat (IntKind.u8.wrap (ishr .u32 (r11.getD (Int.toNat (IntKind.i64.wrap (Int.tdiv r9 4))) 0) (IntKind.i64.wrap (24-(IntKind.i64.wrap (8*(Int.tmod r9 4)))))))) K0))) (K0 r12))
def C_r02_Sum_4:Nat->Int->(List Int)->(List Int)->(List Int)->((List Int)->Prop)->Prop
 | 0,_,_,_,_,_=>False
 | k+1,r4,r5,r6,r7,K0=>(cond (decide (r4<(r6.length:Int))) ((0<=r4/\r4<=(IntKind.i64.wrap (r4+(64:Int)))/\(IntKind.i64.wrap (r4+(64:Int)))<=(r6.length:Int))/\(Hold (F_r02_block k r7 (cut r6 r4.toNat (Int.toNat ((IntKind.i64.wrap (r4+(64:Int)))-r4))) (fun r8=>(Hold (C_r02_Sum_4 k (IntKind.i64.wrap (r4+(64:Int))) r5 r6 r8 K0)))))) (Hold (C_r02_Sum_9 k 0 r5 r7 (List.replicate 32 0) K0)))
def F_r02_Sum(k:Nat)(r1:(List Int))(K0:(List Int)->Prop):Prop:=match k with
 | 0=>False
 | k+1=>(Hold (F_r02_Padded k r1 (fun r2=>(Hold (F_r02_begin k (fun r3=>(Hold (C_r02_Sum_4 k 0 (List.replicate 32 0) r2 r3 K0))))))))
def F_r09_Digest(k:Nat)(r1:Int)(r2:(List Int))(r3:(List Int))(K0:(List Int)->Int->Prop):Prop:=match k with
 | 0=>False
 | k+1=>(Hold (F_r09_Bytes k r1 r2 r3 (fun r4 r5=>(cond (!decide (r5=(0:Int))) (K0 [0,0,0,0,0,0,0,0,0,0,0,0,0,0,0,0,0,0,0,0,0,0,0,0,0,0,0,0,0,0,0,0] r5) (Hold (F_r02_Sum k r4 (fun r6=>K0 r6 0)))))))
def F_r10_Prev(k:Nat)(r1:(List S_api_Head))(K0:(List Int)->Prop):Prop:=match k with
 | 0=>False
 | k+1=>(cond (decide ((r1.length:Int)=0)) (K0 [0,0,0,0,0,0,0,0,0,0,0,0,0,0,0,0,0,0,0,0,0,0,0,0,0,0,0,0,0,0,0,0]) ((0<=(IntKind.i64.wrap ((r1.length:Int)-1))/\(IntKind.i64.wrap ((r1.length:Int)-1))<(r1.length:Int))/\(Hold (F_r09_Digest k (r1.getD (Int.toNat (IntKind.i64.wrap ((r1.length:Int)-1))) (S_api_Head.mk 0 (List.replicate 32 0) (List.replicate 32 0))).f0 (r1.getD (Int.toNat (IntKind.i64.wrap ((r1.length:Int)-1))) (S_api_Head.mk 0 (List.replicate 32 0) (List.replicate 32 0))).f1 (r1.getD (Int.toNat (IntKind.i64.wrap ((r1.length:Int)-1))) (S_api_Head.mk 0 (List.replicate 32 0) (List.replicate 32 0))).f2 (fun r2 r3=>K0 r2)))))
def C_r10_heads_4:Nat->(List S_api_Head)->Int->(Bool->Prop)->Prop
 | 0,_,_,_=>False
 | k+1,r3,r4,K0=>(cond (decide (r4<(r3.length:Int))) ((0<=r4/\r4<(r3.length:Int))/\(cond (!decide ((r3.getD r4.toNat ⟨0,(List.replicate 32 0),(List.replicate 32 0)⟩).f0=(IntKind.i64.wrap (r4+(1:Int))))) (K0 false) ((0<=r4/\r4<(r3.length:Int))/\(0<=r4/\r4<=(r3.length:Int))/\(Hold (F_r10_Prev k (List.take r4.toNat r3) (fun r5=>(cond (!(decide ((r3.getD r4.toNat ⟨0,(List.replicate 32 0),(List.replicate 32 0)⟩).f2=r5))) (K0 false) (Hold (C_r10_heads_4 k r3 (IntKind.i64.wrap (r4+(1:Int))) K0))))))))) (K0 true))
def F_r10_heads(k:Nat)(r1:(List S_api_Head))(r2:Int)(K0:Bool->Prop):Prop:=match k with
 | 0=>False
 | k+1=>(cond (decide (r2<(r1.length:Int))) (K0 false) (Hold (C_r10_heads_4 k r1 0 K0)))
def C_r10_Right_4:Nat->Int->Int->(List S_api_User)->(List S_api_Head)->(List S_api_Session)->(Bool->Prop)->Prop
 | 0,_,_,_,_,_,_=>False
 | k+1,r8,r9,r10,r11,r12,K0=>(cond (decide (r8<(r12.length:Int))) ((0<=r8/\r8<(r12.length:Int))/\(cond (decide (0<r8)) ((0<=(IntKind.i64.wrap (r8-(1:Int)))/\(IntKind.i64.wrap (r8-(1:Int)))<(r12.length:Int))/\(cond (decide ((r12.getD r8.toNat ⟨0,0,0,0⟩).f0<=(r12.getD (Int.toNat (IntKind.i64.wrap (r8-(1:Int)))) (S_api_Session.mk 0 0 0 0)).f0)) (K0 false) (Hold (F_r10_within k (r12.getD r8.toNat ⟨0,0,0,0⟩).f0 1 4 (fun r13=>(cond (!r13) (K0 false) (Hold (F_r10_within k (r12.getD r8.toNat ⟨0,0,0,0⟩).f1 1 1000000 (fun r14=>(cond (!r14) (K0 false) (Hold (F_r10_within k (r12.getD r8.toNat ⟨0,0,0,0⟩).f2 0 65535 (fun r15=>(cond (!r15) (K0 false) (Hold (F_r10_within k (r12.getD r8.toNat ⟨0,0,0,0⟩).f3 0 r9 (fun r16=>(cond (!r16) (K0 false) (Hold (C_r10_Right_4 k (IntKind.i64.wrap (r8+(1:Int))) r9 r10 r11 r12 K0)))))))))))))))))))) (Hold (F_r10_within k (r12.getD r8.toNat ⟨0,0,0,0⟩).f0 1 4 (fun r17=>(cond (!r17) (K0 false) (Hold (F_r10_within k (r12.getD r8.toNat ⟨0,0,0,0⟩).f1 1 1000000 (fun r18=>(cond (!r18) (K0 false) (Hold (F_r10_within k (r12.getD r8.toNat ⟨0,0,0,0⟩).f2 0 65535 (fun r19=>(cond (!r19) (K0 false) (Hold (F_r10_within k (r12.getD r8.toNat ⟨0,0,0,0⟩).f3 0 r9 (fun r20=>(cond (!r20) (K0 false) (Hold (C_r10_Right_4 k (IntKind.i64.wrap (r8+(1:Int))) r9 r10 r11 r12 K0)))))))))))))))))))) (K0 true))
def F_r10_Right(k:Nat)(r1:Int)(r2:(List S_api_User))(r3:(List S_api_Head))(r4:(List S_api_Session))(K0:Bool->Prop):Prop:=match k with
 | 0=>False
 | k+1=>(Hold (F_r10_within k r1 0 200 (fun r5=>(cond (!r5) (K0 false) (cond (decide (4<(r4.length:Int))) (K0 false) (Hold (F_r10_users k r2 r1 (fun r6=>(cond (!r6) (K0 false) (Hold (F_r10_heads k r3 r1 (fun r7=>(cond (!r7) (K0 false) (Hold (C_r10_Right_4 k 0 r1 r2 r3 r4 K0)))))))))))))))
def C_r07_At_5:Nat->(List S_api_Version)->Int->Int->(List S_api_Version)->((List S_api_Version)->Prop)->Prop
 | 0,_,_,_,_,_=>False
 | k+1,r4,r5,r6,r7,K0=>(cond (decide (r6<(r4.length:Int))) ((0<=r6/\r6<(r4.length:Int))/\(cond (decide ((r4.getD r6.toNat ⟨0,0,.empty⟩).f0<=r5)) ((0<=r6/\r6<(r4.length:Int))/\(room (r7.length+List.length [(S_api_Version.mk (r4.getD r6.toNat ⟨(0:Int),(0:Int),.empty⟩).f0 (r4.getD r6.toNat ⟨(0:Int),(0:Int),.empty⟩).f1 (r4.getD r6.toNat ⟨(0:Int),(0:Int),.empty⟩).f2)]) 32)/\(Hold (C_r07_At_5 k r4 r5 (IntKind.i64.wrap (r6+(1:Int))) (r7++[(S_api_Version.mk (r4.getD r6.toNat ⟨(0:Int),(0:Int),.empty⟩).f0 (r4.getD r6.toNat ⟨(0:Int),(0:Int),.empty⟩).f1 (r4.getD r6.toNat ⟨(0:Int),(0:Int),.empty⟩).f2)]) K0))) (K0 r7))) (K0 r7))
def F_r07_At(k:Nat)(r1:(List S_api_Version))(r2:Int)(K0:(List S_api_Version)->Prop):Prop:=match k with
 | 0=>False
 | k+1=>(Hold (F_r07_Is k r1 (fun r3=>(cond (!r3) (K0 []) (Hold (C_r07_At_5 k r1 r2 0 [] K0))))))
def F_r01_Bytes(k:Nat)(r1:ByteArray)(K0:(List Int)->Int->Prop):Prop:=match k with
 | 0=>False
 | k+1=>(cond (decide (65536<(ByteArray.size r1:Int))) (K0 [] 2) (Hold (F_r01_Groups k (ByteArray.size r1:Int) (fun r2=>(room (r2.length+List.length (bytesTo r1)) 1)/\K0 (r2++(bytesTo r1)) 0))))
def C_r07_Bytes_3:Nat->(List S_api_Version)->Int->(List Int)->((List Int)->Prop)->Prop
 | 0,_,_,_,_=>False
 | k+1,r3,r4,r5,K0=>(cond (decide (r4<(r3.length:Int))) ((0<=r4/\r4<(r3.length:Int))/\(Hold (F_r01_Groups k (r3.getD r4.toNat ⟨0,0,.empty⟩).f0 (fun r6=>(room (r5.length+r6.length) 1)/\(0<=r4/\r4<(r3.length:Int))/\(Hold (F_r01_Groups k (r3.getD r4.toNat ⟨0,0,.empty⟩).f1 (fun r7=>(room (List.length (r5++r6)+r7.length) 1)/\(0<=r4/\r4<(r3.length:Int))/\(Hold (F_r01_Bytes k (r3.getD r4.toNat ⟨0,0,.empty⟩).f2 (fun r8 r9=>(room (List.length ((r5++r6)++r7)+r8.length) 1)/\(Hold (C_r07_Bytes_3 k r3 (IntKind.i64.wrap (r4+(1:Int))) (((r5++r6)++r7)++r8) K0)))))))))))) (K0 r5))
def F_r07_Bytes(k:Nat)(r1:(List S_api_Version))(K0:(List Int)->Prop):Prop:=match k with
 | 0=>False
 | k+1=>(Hold (F_r01_Groups k (r1.length:Int) (fun r2=>(Hold (C_r07_Bytes_3 k r1 0 r2 K0)))))
def F_r07_Put(k:Nat)(r1:(List S_api_Version))(K0:(List Int)->Int->Prop):Prop:=match k with
 | 0=>False
 | k+1=>(Hold (F_r07_Is k r1 (fun r2=>(cond (!r2) (K0 [] 50) (Hold (F_r07_Bytes k r1 (fun r3=>K0 r3 0)))))))
def F_r07_Digest(k:Nat)(r1:(List S_api_Version))(K0:(List Int)->Int->Prop):Prop:=match k with
 | 0=>False
 | k+1=>(Hold (F_r07_Put k r1 (fun r2 r3=>(cond (!decide (r3=(0:Int))) (K0 [0,0,0,0,0,0,0,0,0,0,0,0,0,0,0,0,0,0,0,0,0,0,0,0,0,0,0,0,0,0,0,0] r3) (Hold (F_r02_Sum k r2 (fun r4=>K0 r4 0)))))))
def F_r04_Of(k:Nat)(r1:ByteArray)(K0:(List Int)->Prop):Prop:=match k with
 | 0=>False
 | k+1=>(ByteArray.size r1<=maxStr)/\(Hold (F_r02_Sum k (bytesTo r1) (fun r2=>K0 r2)))
def C_r10_Leaves_3:Nat->Int->Int->Int->(List S_api_User)->(List S_api_Head)->(List S_api_Session)->(List S_api_Leaf)->((List S_api_Leaf)->Prop)->Prop
 | 0,_,_,_,_,_,_,_,_=>False
 | k+1,r6,r7,r8,r9,r10,r11,r12,K0=>(cond (decide (r7<(r9.length:Int))) ((0<=r7/\r7<(r9.length:Int))/\(Hold (F_r07_At k (r9.getD r7.toNat ⟨.empty,[]⟩).f1 r6 (fun r13=>(cond (decide ((r13.length:Int)=0)) (Hold (C_r10_Leaves_3 k r6 (IntKind.i64.wrap (r7+(1:Int))) r8 r9 r10 r11 r12 K0)) (Hold (F_r07_Digest k r13 (fun r14 r15=>(0<=r7/\r7<(r9.length:Int))/\(Hold (F_r04_Of k (r9.getD r7.toNat ⟨.empty,[]⟩).f0 (fun r16=>(room (r12.length+List.length [(S_api_Leaf.mk r16 r14)]) 64)/\(Hold (C_r10_Leaves_3 k r6 (IntKind.i64.wrap (r7+(1:Int))) r8 r9 r10 r11 (r12++[(S_api_Leaf.mk r16 r14)]) K0))))))))))))) (K0 r12))
def F_r10_Leaves(k:Nat)(r1:Int)(r2:(List S_api_User))(r3:(List S_api_Head))(r4:(List S_api_Session))(r5:Int)(K0:(List S_api_Leaf)->Prop):Prop:=match k with
 | 0=>False
 | k+1=>(Hold (C_r10_Leaves_3 k r5 0 r1 r2 r3 r4 [] K0))
def F_r05_Width(k:Nat)(r1:Int)(K0:Bool->Prop):Prop:=match k with
 | 0=>False
 | k+1=>(cond (decide (0<=r1)) (K0 (decide (r1<=(32:Int)))) (K0 false))
mutual
def C_r05_Twice_5:Nat->(List S_api_Leaf)->Int->Int->(Bool->Prop)->Prop
 | 0,_,_,_,_=>False
 | k+1,r4,r5,r6,K0=>(cond (decide (r6<r5)) ((0<=r5/\r5<(r4.length:Int))/\(0<=r6/\r6<(r4.length:Int))/\(cond (decide ((r4.getD r5.toNat ⟨(List.replicate 32 0),(List.replicate 32 0)⟩).f0=(r4.getD r6.toNat ⟨(List.replicate 32 0),(List.replicate 32 0)⟩).f0)) (K0 true) (Hold (C_r05_Twice_5 k r4 r5 (IntKind.i64.wrap (r6+(1:Int))) K0)))) (Hold (C_r05_Twice_2 k r4 (IntKind.i64.wrap (r5+(1:Int))) K0)))
def C_r05_Twice_2:Nat->(List S_api_Leaf)->Int->(Bool->Prop)->Prop
 | 0,_,_,_=>False
 | k+1,r2,r3,K0=>(cond (decide (r3<(r2.length:Int))) (Hold (C_r05_Twice_5 k r2 r3 0 K0)) (K0 false))
end
def F_r05_Twice(k:Nat)(r1:(List S_api_Leaf))(K0:Bool->Prop):Prop:=match k with
 | 0=>False
 | k+1=>(Hold (C_r05_Twice_2 k r1 0 K0))
def C_r05_Short_6:Nat->Int->Int->(List Int)->(List Int)->(List Int)->((List Int)->Int->Prop)->Prop
 | 0,_,_,_,_,_,_=>False
 | k+1,r5,r6,r7,r8,r9,K0=>(cond (decide (r6<r5)) ((0<=r6/\r6<(32:Int))/\(0<=r6/\r6<(32:Int))/\(Hold (C_r05_Short_6 k r5 (IntKind.i64.wrap (r6+(1:Int))) r7 (r8.set r6.toNat (r9.getD r6.toNat 0)) r9 K0))) (K0 r8 0))
def F_r05_Short(k:Nat)(r1:Int)(r2:(List Int))(K0:(List Int)->Int->Prop):Prop:=match k with
 | 0=>False
 | k+1=>(Hold (F_r05_Width k r1 (fun r3=>(cond (!r3) (K0 (List.replicate 32 0) 1) (Hold (F_r02_Sum k r2 (fun r4=>(Hold (C_r05_Short_6 k r1 0 (List.replicate 32 0) (List.replicate 32 0) r4 K0)))))))))
def F_r05_Empty(k:Nat)(r1:Int)(K0:(List Int)->Prop):Prop:=match k with
 | 0=>False
 | k+1=>(Hold (F_r05_Short k r1 [2] (fun r2 r3=>K0 r2)))
def F_r05_LeafBytes(k:Nat)(r1:(List Int))(r2:(List Int))(K0:(List Int)->Prop):Prop:=match k with
 | 0=>False
 | k+1=>(0<=(0:Int)/\(0:Int)<=32/\(32:Int)<=32)/\(room (List.length [(0:Int)]+List.length (cut r1 (Int.toNat 0) (Int.toNat ((32:Int)-0)))) 1)/\(0<=(0:Int)/\(0:Int)<=32/\(32:Int)<=32)/\(room (List.length ([0]++(cut r1 (Int.toNat 0) (Int.toNat ((32:Int)-0))))+List.length (cut r2 (Int.toNat 0) (Int.toNat ((32:Int)-0)))) 1)/\K0 (([0]++(cut r1 (Int.toNat 0) (Int.toNat ((32:Int)-0))))++(cut r2 (Int.toNat 0) (Int.toNat ((32:Int)-0))))
def F_r05_Leaf(k:Nat)(r1:Int)(r2:(List Int))(r3:(List Int))(K0:(List Int)->Prop):Prop:=match k with
 | 0=>False
 | k+1=>(Hold (F_r05_LeafBytes k r2 r3 (fun r4=>(Hold (F_r05_Short k r1 r4 (fun r5 r6=>K0 r5))))))
def C_r04_weight_3:Nat->Int->Int->Int->(Int->Prop)->Prop
 | 0,_,_,_,_=>False
 | k+1,r2,r3,r4,K0=>((8:Int)≠0)/\(cond (decide (r4<(Int.tmod r2 8))) (((2:Int)≠0)/\(Hold (C_r04_weight_3 k r2 (IntKind.i64.wrap (Int.tdiv r3 2)) (IntKind.i64.wrap (r4+(1:Int))) K0))) (K0 r3))
def F_r04_weight(k:Nat)(r1:Int)(K0:Int->Prop):Prop:=match k with
 | 0=>False
 | k+1=>(Hold (C_r04_weight_3 k r1 128 0 K0))
def F_r04_At(k:Nat)(r1:(List Int))(r2:Int)(K0:Int->Prop):Prop:=match k with
 | 0=>False
 | k+1=>((8:Int)≠0)/\(0<=(IntKind.i64.wrap (Int.tdiv r2 8))/\(IntKind.i64.wrap (Int.tdiv r2 8))<32)/\(Hold (F_r04_weight k r2 (fun r3=>(r3≠0)/\((2:Int)≠0)/\K0 (Int.tmod (IntKind.i64.wrap (Int.tdiv (IntKind.i64.wrap (r1.getD (Int.toNat (IntKind.i64.wrap (Int.tdiv r2 8))) 0)) r3)) 2))))
mutual
def C_r05_Half_4:Nat->(List S_api_Leaf)->Int->Int->Int->(List S_api_Leaf)->((List S_api_Leaf)->Prop)->Prop
 | 0,_,_,_,_,_,_=>False
 | k+1,r10,r11,r12,r13,r14,K0=>(Hold (C_r05_Half_3 k r10 r11 r12 (IntKind.i64.wrap (r13+(1:Int))) r14 K0))
def C_r05_Half_3:Nat->(List S_api_Leaf)->Int->Int->Int->(List S_api_Leaf)->((List S_api_Leaf)->Prop)->Prop
 | 0,_,_,_,_,_,_=>False
 | k+1,r4,r5,r6,r7,r8,K0=>(cond (decide (r7<(r4.length:Int))) ((0<=r7/\r7<(r4.length:Int))/\(Hold (F_r04_At k (r4.getD r7.toNat ⟨(List.replicate 32 0),(List.replicate 32 0)⟩).f0 r5 (fun r9=>(cond (decide (r9=r6)) ((0<=r7/\r7<(r4.length:Int))/\(room (r8.length+List.length [(S_api_Leaf.mk (r4.getD r7.toNat ⟨(List.replicate 32 (0:Int)),(List.replicate 32 (0:Int))⟩).f0 (r4.getD r7.toNat ⟨(List.replicate 32 (0:Int)),(List.replicate 32 (0:Int))⟩).f1)]) 64)/\(Hold (C_r05_Half_4 k r4 r5 r6 r7 (r8++[(S_api_Leaf.mk (r4.getD r7.toNat ⟨(List.replicate 32 (0:Int)),(List.replicate 32 (0:Int))⟩).f0 (r4.getD r7.toNat ⟨(List.replicate 32 (0:Int)),(List.replicate 32 (0:Int))⟩).f1)]) K0))) (Hold (C_r05_Half_4 k r4 r5 r6 r7 r8 K0))))))) (K0 r8))
end
def F_r05_Half(k:Nat)(r1:(List S_api_Leaf))(r2:Int)(r3:Int)(K0:(List S_api_Leaf)->Prop):Prop:=match k with
 | 0=>False
 | k+1=>(Hold (C_r05_Half_3 k r1 r2 r3 0 [] K0))
def F_r05_NodeBytes(k:Nat)(r1:(List Int))(r2:(List Int))(K0:(List Int)->Prop):Prop:=match k with
 | 0=>False
 | k+1=>(0<=(0:Int)/\(0:Int)<=32/\(32:Int)<=32)/\(room (List.length [(1:Int)]+List.length (cut r1 (Int.toNat 0) (Int.toNat ((32:Int)-0)))) 1)/\(0<=(0:Int)/\(0:Int)<=32/\(32:Int)<=32)/\(room (List.length ([1]++(cut r1 (Int.toNat 0) (Int.toNat ((32:Int)-0))))+List.length (cut r2 (Int.toNat 0) (Int.toNat ((32:Int)-0)))) 1)/\K0 (([1]++(cut r1 (Int.toNat 0) (Int.toNat ((32:Int)-0))))++(cut r2 (Int.toNat 0) (Int.toNat ((32:Int)-0))))
def F_r05_Node(k:Nat)(r1:Int)(r2:(List Int))(r3:(List Int))(K0:(List Int)->Prop):Prop:=match k with
 | 0=>False
 | k+1=>(Hold (F_r05_NodeBytes k r2 r3 (fun r4=>(Hold (F_r05_Short k r1 r4 (fun r5 r6=>K0 r5))))))
def F_r05_Digest:Nat->Int->(List S_api_Leaf)->Int->((List Int)->Prop)->Prop
 | 0,_,_,_,_=>False
 | k+1,r1,r2,r3,K0=>(cond (decide ((r2.length:Int)=0)) (Hold (F_r05_Empty k r1 (fun r4=>K0 r4))) (cond (decide ((r2.length:Int)=1)) ((0<=(0:Int)/\0<(r2.length:Int))/\(Hold (F_r05_Leaf k r1 (r2.getD (Int.toNat 0) ⟨(List.replicate 32 0),(List.replicate 32 0)⟩).f0 (r2.getD (Int.toNat 0) ⟨(List.replicate 32 0),(List.replicate 32 0)⟩).f1 (fun r5=>K0 r5)))) (Hold (F_r05_Half k r2 r3 0 (fun r6=>(Hold (F_r05_Digest k r1 r6 (IntKind.i64.wrap (r3+(1:Int))) (fun r7=>(Hold (F_r05_Half k r2 r3 1 (fun r8=>(Hold (F_r05_Digest k r1 r8 (IntKind.i64.wrap (r3+(1:Int))) (fun r9=>(Hold (F_r05_Node k r1 r7 r9 (fun r10=>K0 r10)))))))))))))))))
def F_r05_Root(k:Nat)(r1:Int)(r2:(List S_api_Leaf))(K0:(List Int)->Int->Prop):Prop:=match k with
 | 0=>False
 | k+1=>(Hold (F_r05_Width k r1 (fun r3=>(cond (!r3) (K0 [0,0,0,0,0,0,0,0,0,0,0,0,0,0,0,0,0,0,0,0,0,0,0,0,0,0,0,0,0,0,0,0] 1) (cond (decide (4096<(r2.length:Int))) (K0 [0,0,0,0,0,0,0,0,0,0,0,0,0,0,0,0,0,0,0,0,0,0,0,0,0,0,0,0,0,0,0,0] 2) (Hold (F_r05_Twice k r2 (fun r4=>(cond r4 (K0 [0,0,0,0,0,0,0,0,0,0,0,0,0,0,0,0,0,0,0,0,0,0,0,0,0,0,0,0,0,0,0,0] 30) (Hold (F_r05_Digest k r1 r2 0 (fun r5=>K0 r5 0))))))))))))
def F_r10_root(k:Nat)(r1:Int)(r2:(List S_api_User))(r3:(List S_api_Head))(r4:(List S_api_Session))(r5:Int)(K0:(List Int)->Prop):Prop:=match k with
 | 0=>False
 | k+1=>(Hold (F_r10_Leaves k r1 r2 r3 r4 r5 (fun r6=>(Hold (F_r05_Root k 32 r6 (fun r7 r8=>K0 r7))))))
def F_r10_Root(k:Nat)(r1:Int)(r2:(List S_api_User))(r3:(List S_api_Head))(r4:(List S_api_Session))(r5:Int)(K0:(List Int)->Int->Prop):Prop:=match k with
 | 0=>False
 | k+1=>(Hold (F_r10_Right k r1 r2 r3 r4 (fun r6=>(cond (!r6) (K0 [0,0,0,0,0,0,0,0,0,0,0,0,0,0,0,0,0,0,0,0,0,0,0,0,0,0,0,0,0,0,0,0] 70) (Hold (F_r10_within k r5 1 r1 (fun r7=>(cond (!r7) (K0 [0,0,0,0,0,0,0,0,0,0,0,0,0,0,0,0,0,0,0,0,0,0,0,0,0,0,0,0,0,0,0,0] 72) (Hold (F_r10_root k r1 r2 r3 r4 r5 (fun r8=>K0 r8 0)))))))))))
def F_proof_right(k:Nat)(r1:(List Int))(r2:Int)(K0:Bool->Prop):Prop:=match k with
 | 0=>False
 | k+1=>(Hold (F_path_Bit k r1 r2 (fun r3 r4=>K0 (decide (r3=(1:Int))))))
def F_proof_at_1(k:Nat)(r1:(List Int))(r2:(List Int))(r3:Int)(K0:Bool->Int->Prop):Prop:=match k with
 | 0=>False
 | k+1=>(Hold (F_proof_right k r1 r3 (fun r4=>K0 r4 r3)))
def C_slices_IndexFunc_api_Leaf_api_Leaf_2:Nat->(List S_api_Leaf)->Int->Int->Int->(Int->Int->Prop)->Prop
 | 0,_,_,_,_,_=>False
 | k+1,r3,r4,r5,r6,K0=>(cond (decide (r5<r4)) ((0<=r5/\r5<(r3.length:Int))/\(Hold (F_proof_at_1 k (r3.getD r5.toNat ⟨(List.replicate 32 0),(List.replicate 32 0)⟩).f0 (r3.getD r5.toNat ⟨(List.replicate 32 0),(List.replicate 32 0)⟩).f1 r6 (fun r7 r8=>(cond r7 (K0 r5 r8) (Hold (C_slices_IndexFunc_api_Leaf_api_Leaf_2 k r3 r4 (IntKind.i64.wrap (r5+(1:Int))) r8 K0))))))) (K0 (-1:Int) r6))
def F_slices_IndexFunc_api_Leaf_api_Leaf(k:Nat)(r1:(List S_api_Leaf))(r2:Int)(K0:Int->Int->Prop):Prop:=match k with
 | 0=>False
 | k+1=>(Hold (C_slices_IndexFunc_api_Leaf_api_Leaf_2 k r1 (r1.length:Int) 0 r2 K0))
mutual
def F_proof_at:Nat->Int->(List S_api_Leaf)->Int->((List Int)->Prop)->Prop
 | 0,_,_,_,_=>False
 | k+1,r1,r2,r3,K0=>(cond (decide ((r2.length:Int)=0)) (Hold (F_smt_Empty k r1 (fun r4=>K0 r4))) (cond (decide ((r2.length:Int)=1)) ((0<=(0:Int)/\0<(r2.length:Int))/\(Hold (F_smt_Leaf k r1 (r2.getD (Int.toNat 0) ⟨(List.replicate 32 0),(List.replicate 32 0)⟩).f0 (r2.getD (Int.toNat 0) ⟨(List.replicate 32 0),(List.replicate 32 0)⟩).f1 (fun r5=>K0 r5)))) (Hold (F_slices_IndexFunc_api_Leaf_api_Leaf k r2 r3 (fun r6 r7=>(cond (decide (r6<(0:Int))) (Hold (F_proof_at k r1 r2 (IntKind.i64.wrap (r7+(1:Int))) (fun r8=>(Hold (F_smt_Empty k r1 (fun r9=>(Hold (F_smt_Node k r1 r8 r9 (fun r10=>K0 r10))))))))) (Hold (C_proof_at_11 k r1 r2 (r2.length:Int) 0 r7 (List.replicate 32 0) [] [] K0))))))))
def C_proof_at_16:Nat->Int->(List S_api_Leaf)->Int->Int->Int->(List Int)->(List S_api_Leaf)->(List S_api_Leaf)->((List Int)->Prop)->Prop
 | 0,_,_,_,_,_,_,_,_,_=>False
 | k+1,r20,r21,r22,r23,r24,r25,r26,r27,K0=>(Hold (C_proof_at_11 k r20 r21 r22 (IntKind.i64.wrap (r23+(1:Int))) r24 r25 r26 r27 K0))
def C_proof_at_11:Nat->Int->(List S_api_Leaf)->Int->Int->Int->(List Int)->(List S_api_Leaf)->(List S_api_Leaf)->((List Int)->Prop)->Prop
 | 0,_,_,_,_,_,_,_,_,_=>False
 | k+1,r11,r12,r13,r14,r15,r16,r17,r18,K0=>(cond (decide (r14<r13)) ((0<=r14/\r14<(r12.length:Int))/\(Hold (F_proof_right k (r12.getD r14.toNat ⟨(List.replicate 32 0),(List.replicate 32 0)⟩).f0 r15 (fun r19=>(cond r19 ((room (r18.length+List.length [(S_api_Leaf.mk (r12.getD r14.toNat ⟨(List.replicate 32 (0:Int)),(List.replicate 32 (0:Int))⟩).f0 (r12.getD r14.toNat ⟨(List.replicate 32 (0:Int)),(List.replicate 32 (0:Int))⟩).f1)]) 64)/\(Hold (C_proof_at_16 k r11 r12 r13 r14 r15 r16 r17 (r18++[(S_api_Leaf.mk (r12.getD r14.toNat ⟨(List.replicate 32 (0:Int)),(List.replicate 32 (0:Int))⟩).f0 (r12.getD r14.toNat ⟨(List.replicate 32 (0:Int)),(List.replicate 32 (0:Int))⟩).f1)]) K0))) ((room (r17.length+List.length [(S_api_Leaf.mk (r12.getD r14.toNat ⟨(List.replicate 32 (0:Int)),(List.replicate 32 (0:Int))⟩).f0 (r12.getD r14.toNat ⟨(List.replicate 32 (0:Int)),(List.replicate 32 (0:Int))⟩).f1)]) 64)/\(Hold (C_proof_at_16 k r11 r12 r13 r14 r15 r16 (r17++[(S_api_Leaf.mk (r12.getD r14.toNat ⟨(List.replicate 32 (0:Int)),(List.replicate 32 (0:Int))⟩).f0 (r12.getD r14.toNat ⟨(List.replicate 32 (0:Int)),(List.replicate 32 (0:Int))⟩).f1)]) r18 K0)))))))) (Hold (F_proof_at k r11 r17 (IntKind.i64.wrap (r15+(1:Int))) (fun r28=>(Hold (F_proof_at k r11 r18 (IntKind.i64.wrap (r15+(1:Int))) (fun r29=>(Hold (F_smt_Node k r11 r28 r29 (fun r30=>K0 r30))))))))))
end
def C_proof_Make_22:Nat->Bool->(List Int)->Bool->(List Int)->(List Int)->(List (List Int))->(Bool->(List Int)->(List (List Int))->Bool->(List Int)->(List Int)->Int->Prop)->Prop
 | 0,_,_,_,_,_,_,_=>False
 | k+1,r48,r49,r50,r51,r52,r53,K0=>K0 r48 r49 r53 r50 r51 r52 0
mutual
def C_proof_Make_15:Nat->Int->Int->Int->Int->(List Int)->Bool->(List Int)->Bool->(List Int)->(List Int)->(List S_api_Leaf)->(List S_api_Leaf)->(List S_api_Leaf)->(List (List Int))->(Bool->(List Int)->(List (List Int))->Bool->(List Int)->(List Int)->Int->Prop)->Prop
 | 0,_,_,_,_,_,_,_,_,_,_,_,_,_,_,_=>False
 | k+1,r33,r34,r35,r36,r37,r38,r39,r40,r41,r42,r43,r44,r45,r46,K0=>(Hold (C_proof_Make_10 k r33 r34 r35 (IntKind.i64.wrap (r36+(1:Int))) r37 r38 r39 r40 r41 r42 r43 r44 r45 r46 K0))
def C_proof_Make_10:Nat->Int->Int->Int->Int->(List Int)->Bool->(List Int)->Bool->(List Int)->(List Int)->(List S_api_Leaf)->(List S_api_Leaf)->(List S_api_Leaf)->(List (List Int))->(Bool->(List Int)->(List (List Int))->Bool->(List Int)->(List Int)->Int->Prop)->Prop
 | 0,_,_,_,_,_,_,_,_,_,_,_,_,_,_,_=>False
 | k+1,r17,r18,r19,r20,r21,r22,r23,r24,r25,r26,r27,r28,r29,r30,K0=>(cond (decide (r20<r19)) ((0<=r20/\r20<(r29.length:Int))/\(Hold (F_proof_right k (r29.getD r20.toNat ⟨(List.replicate 32 0),(List.replicate 32 0)⟩).f0 r18 (fun r31=>(Hold (F_proof_right k r21 r18 (fun r32=>(cond (r31==r32) ((room (r28.length+List.length [(S_api_Leaf.mk (r29.getD r20.toNat ⟨(List.replicate 32 (0:Int)),(List.replicate 32 (0:Int))⟩).f0 (r29.getD r20.toNat ⟨(List.replicate 32 (0:Int)),(List.replicate 32 (0:Int))⟩).f1)]) 64)/\(Hold (C_proof_Make_15 k r17 r18 r19 r20 r21 r22 r23 r24 r25 r26 r27 (r28++[(S_api_Leaf.mk (r29.getD r20.toNat ⟨(List.replicate 32 (0:Int)),(List.replicate 32 (0:Int))⟩).f0 (r29.getD r20.toNat ⟨(List.replicate 32 (0:Int)),(List.replicate 32 (0:Int))⟩).f1)]) r29 r30 K0))) ((room (r27.length+List.length [(S_api_Leaf.mk (r29.getD r20.toNat ⟨(List.replicate 32 (0:Int)),(List.replicate 32 (0:Int))⟩).f0 (r29.getD r20.toNat ⟨(List.replicate 32 (0:Int)),(List.replicate 32 (0:Int))⟩).f1)]) 64)/\(Hold (C_proof_Make_15 k r17 r18 r19 r20 r21 r22 r23 r24 r25 r26 (r27++[(S_api_Leaf.mk (r29.getD r20.toNat ⟨(List.replicate 32 (0:Int)),(List.replicate 32 (0:Int))⟩).f0 (r29.getD r20.toNat ⟨(List.replicate 32 (0:Int)),(List.replicate 32 (0:Int))⟩).f1)]) r28 r29 r30 K0))))))))))) (Hold (F_proof_at k r17 r27 (IntKind.i64.wrap (r18+(1:Int))) (fun r47=>(room (r30.length+List.length [r47]) 32)/\(Hold (C_proof_Make_6 k r17 (IntKind.i64.wrap (r18+(1:Int))) r21 r22 r23 r24 r25 r26 r28 (r30++[r47]) K0))))))
def C_proof_Make_6:Nat->Int->Int->(List Int)->Bool->(List Int)->Bool->(List Int)->(List Int)->(List S_api_Leaf)->(List (List Int))->(Bool->(List Int)->(List (List Int))->Bool->(List Int)->(List Int)->Int->Prop)->Prop
 | 0,_,_,_,_,_,_,_,_,_,_,_=>False
 | k+1,r7,r8,r9,r10,r11,r12,r13,r14,r15,r16,K0=>(cond (decide (1<(r15.length:Int))) (Hold (C_proof_Make_10 k r7 r8 (r15.length:Int) 0 r9 r10 r11 r12 r13 r14 [] [] r15 r16 K0)) (cond (decide ((r15.length:Int)=0)) (Hold (C_proof_Make_22 k r10 r11 r12 r13 r14 r16 K0)) ((0<=(0:Int)/\0<(r15.length:Int))/\(cond (decide ((r15.getD (Int.toNat 0) ⟨(List.replicate 32 0),(List.replicate 32 0)⟩).f0=r9)) ((0<=(0:Int)/\0<(r15.length:Int))/\(Hold (C_proof_Make_22 k true (r15.getD (Int.toNat 0) ⟨(List.replicate 32 0),(List.replicate 32 0)⟩).f1 r12 r13 r14 r16 K0))) ((0<=(0:Int)/\0<(r15.length:Int))/\(0<=(0:Int)/\0<(r15.length:Int))/\(Hold (C_proof_Make_22 k r10 r11 true (r15.getD (Int.toNat 0) ⟨(List.replicate 32 0),(List.replicate 32 0)⟩).f0 (r15.getD (Int.toNat 0) ⟨(List.replicate 32 0),(List.replicate 32 0)⟩).f1 r16 K0)))))))
end
def F_proof_Make(k:Nat)(r1:Int)(r2:(List S_api_Leaf))(r3:(List Int))(K0:Bool->(List Int)->(List (List Int))->Bool->(List Int)->(List Int)->Int->Prop):Prop:=match k with
 | 0=>False
 | k+1=>(Hold (F_smt_Root k r1 r2 (fun r4 r5=>(cond (!decide (r5=(0:Int))) (K0 false (List.replicate 32 0) [] false (List.replicate 32 0) (List.replicate 32 0) r5) (Hold (F_slices_Clone_api_Leaf_api_Leaf k r2 (fun r6=>(Hold (C_proof_Make_6 k r1 0 r3 false (List.replicate 32 0) false (List.replicate 32 0) (List.replicate 32 0) r6 [] K0)))))))))
def F_internal_bytealg_CompareString(k:Nat)(r1:ByteArray)(r2:ByteArray)(K0:Int->Prop):Prop:=match k with
 | 0=>False
 | k+1=>K0 (cmpS r1 r2)
def F_strings_Compare(k:Nat)(r1:ByteArray)(r2:ByteArray)(K0:Int->Prop):Prop:=match k with
 | 0=>False
 | k+1=>(Hold (F_internal_bytealg_CompareString k r1 r2 (fun r3=>K0 r3)))
def F_directory_work_user_1(k:Nat)(r1:ByteArray)(r2:(List S_api_Version))(r3:ByteArray)(K0:Int->Prop):Prop:=match k with
 | 0=>False
 | k+1=>(Hold (F_strings_Compare k r1 r3 (fun r4=>K0 r4)))
def C_slices_BinarySearchFunc_api_User_api_User_string_3:Nat->(List S_api_User)->ByteArray->Int->Int->Int->(Int->Bool->Prop)->Prop
 | 0,_,_,_,_,_,_=>False
 | k+1,r3,r4,r5,r6,r7,K0=>(cond (decide (r6<r7)) ((0<=(1:Int))/\(0<=(IntKind.i64.wrap (ishr .u64 (IntKind.u64.wrap (IntKind.i64.wrap (r6+r7))) 1))/\(IntKind.i64.wrap (ishr .u64 (IntKind.u64.wrap (IntKind.i64.wrap (r6+r7))) 1))<(r3.length:Int))/\(Hold (F_directory_work_user_1 k (r3.getD (Int.toNat (IntKind.i64.wrap (ishr .u64 (IntKind.u64.wrap (IntKind.i64.wrap (r6+r7))) 1))) (S_api_User.mk ByteArray.empty ([]:List S_api_Version))).f0 (r3.getD (Int.toNat (IntKind.i64.wrap (ishr .u64 (IntKind.u64.wrap (IntKind.i64.wrap (r6+r7))) 1))) (S_api_User.mk ByteArray.empty ([]:List S_api_Version))).f1 r4 (fun r8=>(cond (decide (r8<(0:Int))) (Hold (C_slices_BinarySearchFunc_api_User_api_User_string_3 k r3 r4 r5 (IntKind.i64.wrap ((IntKind.i64.wrap (ishr .u64 (IntKind.u64.wrap (IntKind.i64.wrap (r6+r7))) 1))+1)) r7 K0)) (Hold (C_slices_BinarySearchFunc_api_User_api_User_string_3 k r3 r4 r5 r6 (IntKind.i64.wrap (ishr .u64 (IntKind.u64.wrap (IntKind.i64.wrap (r6+r7))) 1)) K0))))))) (cond (decide (r6<r5)) ((0<=r6/\r6<(r3.length:Int))/\(Hold (F_directory_work_user_1 k (r3.getD r6.toNat ⟨.empty,[]⟩).f0 (r3.getD r6.toNat ⟨.empty,[]⟩).f1 r4 (fun r9=>K0 r6 (decide (r9=(0:Int))))))) (K0 r6 false)))
def F_slices_BinarySearchFunc_api_User_api_User_string(k:Nat)(r1:(List S_api_User))(r2:ByteArray)(K0:Int->Bool->Prop):Prop:=match k with
 | 0=>False
 | k+1=>(Hold (C_slices_BinarySearchFunc_api_User_api_User_string_3 k r1 r2 (r1.length:Int) 0 (r1.length:Int) K0))
def F_directory_work_user(k:Nat)(r1:ByteArray)(r2:Int)(r3:(List S_api_User))(r4:(List S_api_Head))(r5:(List S_api_Session))(K0:Int->Bool->Int->(List S_api_User)->(List S_api_Head)->(List S_api_Session)->Prop):Prop:=match k with
 | 0=>False
 | k+1=>(Hold (F_slices_BinarySearchFunc_api_User_api_User_string k r3 r1 (fun r6 r7=>K0 r6 r7 r2 r3 r4 r5)))
def F_directory_work_history(k:Nat)(r1:ByteArray)(r2:Int)(r3:(List S_api_User))(r4:(List S_api_Head))(r5:(List S_api_Session))(K0:(List S_api_Version)->Int->(List S_api_User)->(List S_api_Head)->(List S_api_Session)->Prop)(K1:Int->(List S_api_User)->(List S_api_Head)->(List S_api_Session)->(List S_api_Version)->Prop):Prop:=match k with
 | 0=>False
 | k+1=>(Hold (F_directory_work_user k r1 r2 r3 r4 r5 (fun r6 r7 r8 r9 r10 r11=>(cond r7 ((0<=r6/\r6<(r9.length:Int))/\K0 (r9.getD r6.toNat ⟨.empty,[]⟩).f1 r8 r9 r10 r11) (K1 r8 r9 r10 r11 [])))))
def F_directory_Look(k:Nat)(r1:Int)(r2:(List S_api_User))(r3:(List S_api_Head))(r4:(List S_api_Session))(r5:ByteArray)(r6:Int)(K0:(List S_api_Version)->(List (List Int))->Bool->(List Int)->(List Int)->Int->Prop):Prop:=match k with
 | 0=>False
 | k+1=>(Hold (F_directory_name k r5 (fun r7=>(Hold (F_directory_sealed k r1 r2 r3 r4 r7 r6 (fun r8=>(cond (!decide (r8=(0:Int))) (K0 [] [] false (List.replicate 32 0) (List.replicate 32 0) r8) (Hold (F_directory_work_leaves k r6 r1 r2 r3 r4 (fun r9 r10 r11 r12 r13=>(Hold (F_path_Of k r5 (fun r14=>(Hold (F_proof_Make k 32 r13 r14 (fun r15 r16 r17 r18 r19 r20 r21=>(Hold (F_directory_work_history k r5 r9 r10 r11 r12 (fun r22 r23 r24 r25 r26=>((((r23=r9)/\((r24=r10)/\((r25=r11)/\((r26=r12)/\True))))/\True)/\True)/\(Hold (F_version_At k r22 r6 (fun r27=>K0 r27 r17 r18 r19 r20 0)))) (fun r28 r29 r30 r31 r32=>((((r28=r9)/\((r29=r10)/\((r30=r11)/\((r31=r12)/\True))))/\True)/\True)/\(Hold (F_version_At k r32 r6 (fun r33=>K0 r33 r17 r18 r19 r20 0))))))))))))))))))))))
def C_r05_Get_2:Nat->(List S_api_Leaf)->Int->(List Int)->(List Int)->((List Int)->Bool->Prop)->Prop
 | 0,_,_,_,_,_=>False
 | k+1,r3,r4,r5,r6,K0=>(cond (decide (r4<(r3.length:Int))) ((0<=r4/\r4<(r3.length:Int))/\(cond (decide ((r3.getD r4.toNat ⟨(List.replicate 32 0),(List.replicate 32 0)⟩).f0=r5)) ((0<=r4/\r4<(r3.length:Int))/\K0 (r3.getD r4.toNat ⟨(List.replicate 32 0),(List.replicate 32 0)⟩).f1 true) (Hold (C_r05_Get_2 k r3 (IntKind.i64.wrap (r4+(1:Int))) r5 r6 K0)))) (K0 [0,0,0,0,0,0,0,0,0,0,0,0,0,0,0,0,0,0,0,0,0,0,0,0,0,0,0,0,0,0,0,0] false))
def F_r05_Get(k:Nat)(r1:(List S_api_Leaf))(r2:(List Int))(K0:(List Int)->Bool->Prop):Prop:=match k with
 | 0=>False
 | k+1=>(Hold (C_r05_Get_2 k r1 0 r2 (List.replicate 32 0) K0))
def C_r06_Make_19:Nat->Bool->(List Int)->Bool->(List Int)->(List Int)->Bool->(List Int)->Bool->(List Int)->(List Int)->(List (List Int))->(List (List Int))->(Bool->(List Int)->(List (List Int))->Bool->(List Int)->(List Int)->Int->Prop)->Prop
 | 0,_,_,_,_,_,_,_,_,_,_,_,_,_=>False
 | k+1,r198,r199,r200,r201,r202,r203,r204,r205,r206,r207,r208,r209,K0=>K0 r203 r204 r209 r205 r206 r207 0
def C_r06_Make_18:Nat->Bool->(List Int)->Bool->(List Int)->(List Int)->Bool->(List Int)->Bool->(List Int)->(List Int)->(List S_api_Leaf)->(List (List Int))->(List (List Int))->(Bool->(List Int)->(List (List Int))->Bool->(List Int)->(List Int)->Int->Prop)->Prop
 | 0,_,_,_,_,_,_,_,_,_,_,_,_,_,_=>False
 | k+1,r185,r186,r187,r188,r189,r190,r191,r192,r193,r194,r195,r196,r197,K0=>(0<=(0:Int)/\0<(r195.length:Int))/\(Hold (C_r06_Make_19 k r185 r186 r187 r188 r189 r190 r191 r192 r193 (r195.getD (Int.toNat 0) ⟨(List.replicate 32 0),(List.replicate 32 0)⟩).f1 r196 r197 K0))
def C_r06_Make_17:Nat->Bool->(List Int)->Bool->(List Int)->(List Int)->Bool->(List Int)->Bool->(List Int)->(List Int)->(List S_api_Leaf)->(List (List Int))->(List (List Int))->(Bool->(List Int)->(List (List Int))->Bool->(List Int)->(List Int)->Int->Prop)->Prop
 | 0,_,_,_,_,_,_,_,_,_,_,_,_,_,_=>False
 | k+1,r172,r173,r174,r175,r176,r177,r178,r179,r180,r181,r182,r183,r184,K0=>(0<=(0:Int)/\0<(r182.length:Int))/\(Hold (C_r06_Make_18 k r172 r173 r174 r175 r176 r177 r178 r179 (r182.getD (Int.toNat 0) ⟨(List.replicate 32 0),(List.replicate 32 0)⟩).f0 r181 r182 r183 r184 K0))
def C_r06_Make_15:Nat->Bool->Bool->(List Int)->Bool->(List Int)->(List Int)->Bool->(List Int)->Bool->(List Int)->(List Int)->(List S_api_Leaf)->(List (List Int))->(List (List Int))->(Bool->(List Int)->(List (List Int))->Bool->(List Int)->(List Int)->Int->Prop)->Prop
 | 0,_,_,_,_,_,_,_,_,_,_,_,_,_,_,_=>False
 | k+1,r158,r159,r160,r161,r162,r163,r164,r165,r166,r167,r168,r169,r170,r171,K0=>(cond (!r158) (cond (decide ((r169.length:Int)=1)) (Hold (C_r06_Make_17 k r159 r160 r161 r162 r163 r164 r165 true r167 r168 r169 r170 r171 K0)) (Hold (C_r06_Make_19 k r159 r160 r161 r162 r163 r164 r165 r166 r167 r168 r170 r171 K0))) (Hold (C_r06_Make_19 k r159 r160 r161 r162 r163 r164 r165 r166 r167 r168 r170 r171 K0)))
mutual
def C_r06_Make_13_1:Nat->Int->Bool->Int->Int->(List Int)->Bool->(List Int)->Bool->(List Int)->(List Int)->Bool->(List Int)->Bool->(List Int)->(List Int)->(List S_api_Leaf)->(List S_api_Leaf)->(List (List Int))->(List (List Int))->(Bool->(List Int)->(List (List Int))->Bool->(List Int)->(List Int)->Int->Prop)->Prop
 | 0,_,_,_,_,_,_,_,_,_,_,_,_,_,_,_,_,_,_,_,_=>False
 | k+1,r137,r138,r139,r140,r141,r142,r143,r144,r145,r146,r147,r148,r149,r150,r151,r152,r153,r154,r155,K0=>(Hold (F_r05_Digest k r137 r153 (IntKind.i64.wrap (r139+(1:Int))) (fun r156=>(room (r155.length+List.length [r156]) 32)/\(Hold (F_r05_Half k r152 r139 r140 (fun r157=>(Hold (C_r06_Make_9_1 k r137 r138 (IntKind.i64.wrap (r139+(1:Int))) r141 r142 r143 r144 r145 r146 r147 r148 r149 r150 r151 r157 r154 (r155++[r156]) K0))))))))
def C_r06_Make_12_1:Nat->Int->Bool->Int->Int->(List Int)->Bool->(List Int)->Bool->(List Int)->(List Int)->Bool->(List Int)->Bool->(List Int)->(List Int)->(List S_api_Leaf)->(List (List Int))->(List (List Int))->(Bool->(List Int)->(List (List Int))->Bool->(List Int)->(List Int)->Int->Prop)->Prop
 | 0,_,_,_,_,_,_,_,_,_,_,_,_,_,_,_,_,_,_,_=>False
 | k+1,r118,r119,r120,r121,r122,r123,r124,r125,r126,r127,r128,r129,r130,r131,r132,r133,r134,r135,K0=>(Hold (F_r05_Half k r133 r120 (IntKind.i64.wrap (1-r121)) (fun r136=>(Hold (C_r06_Make_13_1 k r118 r119 r120 r121 r122 r123 r124 r125 r126 r127 r128 r129 r130 r131 r132 r133 r136 r134 r135 K0)))))
def C_r06_Make_11_1:Nat->Int->Bool->Int->(List Int)->Bool->(List Int)->Bool->(List Int)->(List Int)->Bool->(List Int)->Bool->(List Int)->(List Int)->(List S_api_Leaf)->(List (List Int))->(List (List Int))->(Bool->(List Int)->(List (List Int))->Bool->(List Int)->(List Int)->Int->Prop)->Prop
 | 0,_,_,_,_,_,_,_,_,_,_,_,_,_,_,_,_,_,_=>False
 | k+1,r100,r101,r102,r103,r104,r105,r106,r107,r108,r109,r110,r111,r112,r113,r114,r115,r116,K0=>(Hold (F_r04_At k r103 r102 (fun r117=>(Hold (C_r06_Make_12_1 k r100 r101 r102 r117 r103 r104 r105 r106 r107 r108 r109 r110 r111 r112 r113 r114 r115 r116 K0)))))
def C_r06_Make_9_1:Nat->Int->Bool->Int->(List Int)->Bool->(List Int)->Bool->(List Int)->(List Int)->Bool->(List Int)->Bool->(List Int)->(List Int)->(List S_api_Leaf)->(List (List Int))->(List (List Int))->(Bool->(List Int)->(List (List Int))->Bool->(List Int)->(List Int)->Int->Prop)->Prop
 | 0,_,_,_,_,_,_,_,_,_,_,_,_,_,_,_,_,_,_=>False
 | k+1,r83,r84,r85,r86,r87,r88,r89,r90,r91,r92,r93,r94,r95,r96,r97,r98,r99,K0=>(cond (decide (2<=(r97.length:Int))) (Hold (C_r06_Make_11_1 k r83 r84 r85 r86 r87 r88 r89 r90 r91 r92 r93 r94 r95 r96 r97 r98 r99 K0)) (Hold (C_r06_Make_15 k r84 r87 r88 r89 r90 r91 r92 r93 r94 r95 r96 r97 r98 r99 K0)))
end
def C_r06_Make_13:Nat->Int->Bool->(List S_api_Leaf)->Int->Int->(List Int)->Bool->(List Int)->Bool->(List Int)->(List Int)->Bool->(List Int)->Bool->(List Int)->(List Int)->(List S_api_Leaf)->(List (List Int))->(List (List Int))->(Bool->(List Int)->(List (List Int))->Bool->(List Int)->(List Int)->Int->Prop)->Prop
 | 0,_,_,_,_,_,_,_,_,_,_,_,_,_,_,_,_,_,_,_,_=>False
 | k+1,r62,r63,r64,r65,r66,r67,r68,r69,r70,r71,r72,r73,r74,r75,r76,r77,r78,r79,r80,K0=>(Hold (F_r05_Digest k r62 r78 (IntKind.i64.wrap (r65+(1:Int))) (fun r81=>(room (r80.length+List.length [r81]) 32)/\(Hold (F_r05_Half k r64 r65 r66 (fun r82=>(Hold (C_r06_Make_9_1 k r62 r63 (IntKind.i64.wrap (r65+(1:Int))) r67 r68 r69 r70 r71 r72 r73 r74 r75 r76 r77 r82 r79 (r80++[r81]) K0))))))))
def C_r06_Make_12:Nat->Int->Bool->(List S_api_Leaf)->Int->Int->(List Int)->Bool->(List Int)->Bool->(List Int)->(List Int)->Bool->(List Int)->Bool->(List Int)->(List Int)->(List (List Int))->(List (List Int))->(Bool->(List Int)->(List (List Int))->Bool->(List Int)->(List Int)->Int->Prop)->Prop
 | 0,_,_,_,_,_,_,_,_,_,_,_,_,_,_,_,_,_,_,_=>False
 | k+1,r43,r44,r45,r46,r47,r48,r49,r50,r51,r52,r53,r54,r55,r56,r57,r58,r59,r60,K0=>(Hold (F_r05_Half k r45 r46 (IntKind.i64.wrap (1-r47)) (fun r61=>(Hold (C_r06_Make_13 k r43 r44 r45 r46 r47 r48 r49 r50 r51 r52 r53 r54 r55 r56 r57 r58 r61 r59 r60 K0)))))
def C_r06_Make_11:Nat->Int->Bool->(List S_api_Leaf)->Int->(List Int)->Bool->(List Int)->Bool->(List Int)->(List Int)->Bool->(List Int)->Bool->(List Int)->(List Int)->(List (List Int))->(List (List Int))->(Bool->(List Int)->(List (List Int))->Bool->(List Int)->(List Int)->Int->Prop)->Prop
 | 0,_,_,_,_,_,_,_,_,_,_,_,_,_,_,_,_,_,_=>False
 | k+1,r25,r26,r27,r28,r29,r30,r31,r32,r33,r34,r35,r36,r37,r38,r39,r40,r41,K0=>(Hold (F_r04_At k r29 r28 (fun r42=>(Hold (C_r06_Make_12 k r25 r26 r27 r28 r42 r29 r30 r31 r32 r33 r34 r35 r36 r37 r38 r39 r40 r41 K0)))))
def C_r06_Make_18_1:Nat->(List S_api_Leaf)->Bool->(List Int)->Bool->(List Int)->(List Int)->Bool->(List Int)->Bool->(List Int)->(List Int)->(List (List Int))->(List (List Int))->(Bool->(List Int)->(List (List Int))->Bool->(List Int)->(List Int)->Int->Prop)->Prop
 | 0,_,_,_,_,_,_,_,_,_,_,_,_,_,_=>False
 | k+1,r237,r238,r239,r240,r241,r242,r243,r244,r245,r246,r247,r248,r249,K0=>(0<=(0:Int)/\0<(r237.length:Int))/\(Hold (C_r06_Make_19 k r238 r239 r240 r241 r242 r243 r244 r245 r246 (r237.getD (Int.toNat 0) ⟨(List.replicate 32 0),(List.replicate 32 0)⟩).f1 r248 r249 K0))
def C_r06_Make_17_1:Nat->(List S_api_Leaf)->Bool->(List Int)->Bool->(List Int)->(List Int)->Bool->(List Int)->Bool->(List Int)->(List Int)->(List (List Int))->(List (List Int))->(Bool->(List Int)->(List (List Int))->Bool->(List Int)->(List Int)->Int->Prop)->Prop
 | 0,_,_,_,_,_,_,_,_,_,_,_,_,_,_=>False
 | k+1,r224,r225,r226,r227,r228,r229,r230,r231,r232,r233,r234,r235,r236,K0=>(0<=(0:Int)/\0<(r224.length:Int))/\(Hold (C_r06_Make_18_1 k r224 r225 r226 r227 r228 r229 r230 r231 r232 (r224.getD (Int.toNat 0) ⟨(List.replicate 32 0),(List.replicate 32 0)⟩).f0 r234 r235 r236 K0))
def C_r06_Make_15_1:Nat->Bool->(List S_api_Leaf)->Bool->(List Int)->Bool->(List Int)->(List Int)->Bool->(List Int)->Bool->(List Int)->(List Int)->(List (List Int))->(List (List Int))->(Bool->(List Int)->(List (List Int))->Bool->(List Int)->(List Int)->Int->Prop)->Prop
 | 0,_,_,_,_,_,_,_,_,_,_,_,_,_,_,_=>False
 | k+1,r210,r211,r212,r213,r214,r215,r216,r217,r218,r219,r220,r221,r222,r223,K0=>(cond (!r210) (cond (decide ((r211.length:Int)=1)) (Hold (C_r06_Make_17_1 k r211 r212 r213 r214 r215 r216 r217 r218 true r220 r221 r222 r223 K0)) (Hold (C_r06_Make_19 k r212 r213 r214 r215 r216 r217 r218 r219 r220 r221 r222 r223 K0))) (Hold (C_r06_Make_19 k r212 r213 r214 r215 r216 r217 r218 r219 r220 r221 r222 r223 K0)))
def C_r06_Make_9:Nat->Int->Bool->(List S_api_Leaf)->Int->(List Int)->Bool->(List Int)->Bool->(List Int)->(List Int)->Bool->(List Int)->Bool->(List Int)->(List Int)->(List (List Int))->(List (List Int))->(Bool->(List Int)->(List (List Int))->Bool->(List Int)->(List Int)->Int->Prop)->Prop
 | 0,_,_,_,_,_,_,_,_,_,_,_,_,_,_,_,_,_,_=>False
 | k+1,r8,r9,r10,r11,r12,r13,r14,r15,r16,r17,r18,r19,r20,r21,r22,r23,r24,K0=>(cond (decide (2<=(r10.length:Int))) (Hold (C_r06_Make_11 k r8 r9 r10 r11 r12 r13 r14 r15 r16 r17 r18 r19 r20 r21 r22 r23 r24 K0)) (Hold (C_r06_Make_15_1 k r9 r10 r13 r14 r15 r16 r17 r18 r19 r20 r21 r22 r23 r24 K0)))
def F_r06_Make(k:Nat)(r1:Int)(r2:(List S_api_Leaf))(r3:(List Int))(K0:Bool->(List Int)->(List (List Int))->Bool->(List Int)->(List Int)->Int->Prop):Prop:=match k with
 | 0=>False
 | k+1=>(Hold (F_r05_Root k r1 r2 (fun r4 r5=>(cond (!decide (r5=(0:Int))) (K0 false (List.replicate 32 0) [] false (List.replicate 32 0) (List.replicate 32 0) r5) (Hold (F_r05_Get k r2 r3 (fun r6 r7=>(Hold (C_r06_Make_9 k r1 r7 r2 0 r3 false (List.replicate 32 0) false (List.replicate 32 0) (List.replicate 32 0) r7 r6 false (List.replicate 32 0) (List.replicate 32 0) [] [] K0)))))))))
def C_r10_History_2:Nat->ByteArray->Int->Int->(List S_api_User)->(List S_api_Head)->(List S_api_Session)->((List S_api_Version)->Prop)->((List S_api_Version)->Prop)->Prop
 | 0,_,_,_,_,_,_,_,_=>False
 | k+1,r6,r7,r8,r9,r10,r11,K0,K1=>(cond (decide (r7<(r9.length:Int))) ((0<=r7/\r7<(r9.length:Int))/\(cond (seq (r9.getD r7.toNat ⟨.empty,[]⟩).f0 r6) ((0<=r7/\r7<(r9.length:Int))/\K0 (r9.getD r7.toNat ⟨.empty,[]⟩).f1) (Hold (C_r10_History_2 k r6 (IntKind.i64.wrap (r7+(1:Int))) r8 r9 r10 r11 K0 K1)))) (K1 []))
def F_r10_History(k:Nat)(r1:Int)(r2:(List S_api_User))(r3:(List S_api_Head))(r4:(List S_api_Session))(r5:ByteArray)(K0:(List S_api_Version)->Prop)(K1:(List S_api_Version)->Prop):Prop:=match k with
 | 0=>False
 | k+1=>(Hold (C_r10_History_2 k r5 0 r1 r2 r3 r4 K0 K1))
def F_r10_Look(k:Nat)(r1:Int)(r2:(List S_api_User))(r3:(List S_api_Head))(r4:(List S_api_Session))(r5:ByteArray)(r6:Int)(K0:(List S_api_Version)->(List (List Int))->Bool->(List Int)->(List Int)->Int->Prop):Prop:=match k with
 | 0=>False
 | k+1=>(Hold (F_r10_Right k r1 r2 r3 r4 (fun r7=>(cond (!r7) (K0 [] [] false (List.replicate 32 0) (List.replicate 32 0) 70) (Hold (F_r10_Name k r5 (fun r8=>(cond (!r8) (K0 [] [] false (List.replicate 32 0) (List.replicate 32 0) 70) (Hold (F_r10_within k r6 1 r1 (fun r9=>(cond (!r9) (K0 [] [] false (List.replicate 32 0) (List.replicate 32 0) 72) (Hold (F_r10_Leaves k r1 r2 r3 r4 r6 (fun r10=>(Hold (F_r04_Of k r5 (fun r11=>(Hold (F_r06_Make k 32 r10 r11 (fun r12 r13 r14 r15 r16 r17 r18=>(Hold (F_r10_History k r1 r2 r3 r4 r5 (fun r19=>(Hold (F_r07_At k r19 r6 (fun r20=>K0 r20 r14 r15 r16 r17 0)))) (fun r21=>(Hold (F_r07_At k r21 r6 (fun r22=>K0 r22 r14 r15 r16 r17 0)))))))))))))))))))))))))))
def C_r08_SameVersions_4:Nat->(List S_api_Version)->(List S_api_Version)->Int->(Bool->Prop)->Prop
 | 0,_,_,_,_=>False
 | k+1,r3,r4,r5,K0=>(cond (decide (r5<(r3.length:Int))) ((0<=r5/\r5<(r3.length:Int))/\(0<=r5/\r5<(r4.length:Int))/\(cond (!((decide ((r3.getD r5.toNat ⟨0,0,.empty⟩).f0=(r4.getD r5.toNat ⟨0,0,.empty⟩).f0))&&((decide ((r3.getD r5.toNat ⟨0,0,.empty⟩).f1=(r4.getD r5.toNat ⟨0,0,.empty⟩).f1))&&((seq (r3.getD r5.toNat ⟨0,0,.empty⟩).f2 (r4.getD r5.toNat ⟨0,0,.empty⟩).f2)&&true)))) (K0 false) (Hold (C_r08_SameVersions_4 k r3 r4 (IntKind.i64.wrap (r5+(1:Int))) K0)))) (K0 true))
def F_r08_SameVersions(k:Nat)(r1:(List S_api_Version))(r2:(List S_api_Version))(K0:Bool->Prop):Prop:=match k with
 | 0=>False
 | k+1=>(cond (!decide ((r1.length:Int)=(r2.length:Int))) (K0 false) (Hold (C_r08_SameVersions_4 k r1 r2 0 K0)))
def C_r06_Same_4:Nat->Int->(List (List Int))->Bool->(List Int)->(List Int)->(List (List Int))->Bool->(List Int)->(List Int)->(Bool->Prop)->Prop
 | 0,_,_,_,_,_,_,_,_,_,_=>False
 | k+1,r9,r10,r11,r12,r13,r14,r15,r16,r17,K0=>(cond (decide (r9<(r10.length:Int))) ((0<=r9/\r9<(r10.length:Int))/\(0<=r9/\r9<(r14.length:Int))/\(cond (!(decide ((r10.getD r9.toNat (List.replicate 32 0))=(r14.getD r9.toNat (List.replicate 32 0))))) (K0 false) (Hold (C_r06_Same_4 k (IntKind.i64.wrap (r9+(1:Int))) r10 r11 r12 r13 r14 r15 r16 r17 K0)))) (K0 true))
def F_r06_Same(k:Nat)(r1:(List (List Int)))(r2:Bool)(r3:(List Int))(r4:(List Int))(r5:(List (List Int)))(r6:Bool)(r7:(List Int))(r8:(List Int))(K0:Bool->Prop):Prop:=match k with
 | 0=>False
 | k+1=>(cond (!(r2==r6)) (K0 false) (cond (!(decide (r3=r7))) (K0 false) (cond (!(decide (r4=r8))) (K0 false) (cond (!decide ((r1.length:Int)=(r5.length:Int))) (K0 false) (Hold (C_r06_Same_4 k 0 r1 r2 r3 r4 r5 r6 r7 r8 K0))))))
def F_l10_put(k:Nat)(r1:Int)(r2:ByteArray)(K0:Int->Int->Int->ByteArray->ByteArray->Int->(List Int)->Prop):Prop:=match k with
 | 0=>False
 | k+1=>K0 1 1 r1 r2 str3 0 (List.replicate 32 0)
def C_directory_May_12:Nat->Bool->Int->Int->Int->ByteArray->ByteArray->Int->(List Int)->Int->Int->Int->ByteArray->ByteArray->Int->(List Int)->(Bool->Prop)->Prop
 | 0,_,_,_,_,_,_,_,_,_,_,_,_,_,_,_,_=>False
 | k+1,r23,r24,r25,r26,r27,r28,r29,r30,r31,r32,r33,r34,r35,r36,r37,K0=>(cond ((decide (r31=(0:Int)))&&((decide (r32=(0:Int)))&&((decide (r33=(0:Int)))&&((seq r34 ByteArray.empty)&&((seq r35 ByteArray.empty)&&((decide (r36=(0:Int)))&&((decide (r37=(List.replicate 32 0)))&&true))))))) (cond r23 (Hold (F_directory_within k r25 1 4 (fun r38=>(cond r38 (Hold (F_directory_within k r26 1 1000000 (fun r39=>(cond r39 (Hold (F_directory_name k r27 (fun r40=>K0 r40))) (K0 false))))) (K0 false))))) (K0 false)) (K0 false))
def C_directory_May_8:Nat->Int->Int->Int->ByteArray->ByteArray->Int->(List Int)->Int->Int->Int->ByteArray->ByteArray->Int->(List Int)->(Bool->Prop)->Prop
 | 0,_,_,_,_,_,_,_,_,_,_,_,_,_,_,_=>False
 | k+1,r8,r9,r10,r11,r12,r13,r14,r15,r16,r17,r18,r19,r20,r21,K0=>(Hold (F_directory_within k (ByteArray.size r12:Int) 1 64 (fun r22=>(cond (decide (r8=(3:Int))) (Hold (C_directory_May_12 k (seq r12 str0) r8 r9 r10 r11 r12 r13 r14 r15 0 0 str0 str0 r20 r21 K0)) (Hold (C_directory_May_12 k r22 r8 r9 r10 r11 r12 r13 r14 r15 0 0 str0 str0 r20 r21 K0))))))
def C_directory_May_17:Nat->Int->Int->Int->ByteArray->ByteArray->Int->(List Int)->Int->Int->Int->ByteArray->ByteArray->Int->(List Int)->(Bool->Prop)->Prop
 | 0,_,_,_,_,_,_,_,_,_,_,_,_,_,_,_=>False
 | k+1,r70,r71,r72,r73,r74,r75,r76,r77,r78,r79,r80,r81,r82,r83,K0=>(cond ((decide (r77=(0:Int)))&&((decide (r78=(0:Int)))&&((decide (r79=(0:Int)))&&((seq r80 ByteArray.empty)&&((seq r81 ByteArray.empty)&&((decide (r82=(0:Int)))&&((decide (r83=(List.replicate 32 0)))&&true))))))) (Hold (F_directory_within k r75 1 200 (fun r84=>K0 r84))) (K0 false))
def C_directory_May_16:Nat->Int->Int->Int->ByteArray->ByteArray->Int->(List Int)->Int->Int->Int->ByteArray->ByteArray->Int->(List Int)->(Bool->Prop)->Prop
 | 0,_,_,_,_,_,_,_,_,_,_,_,_,_,_,_=>False
 | k+1,r56,r57,r58,r59,r60,r61,r62,r63,r64,r65,r66,r67,r68,r69,K0=>(Hold (C_directory_May_17 k r56 r57 r58 r59 r60 r61 r62 r63 r64 r65 r66 r67 0 r69 K0))
def C_directory_May_13:Nat->Int->Int->Int->Int->ByteArray->ByteArray->Int->(List Int)->Int->Int->Int->ByteArray->ByteArray->Int->(List Int)->(Bool->Prop)->Prop
 | 0,_,_,_,_,_,_,_,_,_,_,_,_,_,_,_,_=>False
 | k+1,r41,r42,r43,r44,r45,r46,r47,r48,r49,r50,r51,r52,r53,r54,r55,K0=>(cond (decide (r41=(5:Int))) (Hold (C_directory_May_16 k r42 r43 r44 r45 r46 r47 r48 r49 r50 r51 r52 r53 r54 [0,0,0,0,0,0,0,0,0,0,0,0,0,0,0,0,0,0,0,0,0,0,0,0,0,0,0,0,0,0,0,0] K0)) (cond (decide (r41=(4:Int))) (Hold (C_directory_May_16 k r42 r43 r44 r45 r46 r47 r48 r49 r50 r51 r52 r53 r54 r55 K0)) (K0 false)))
def F_directory_May(k:Nat)(r1:Int)(r2:Int)(r3:Int)(r4:ByteArray)(r5:ByteArray)(r6:Int)(r7:(List Int))(K0:Bool->Prop):Prop:=match k with
 | 0=>False
 | k+1=>(cond (decide (r1=(1:Int))) (cond (decide (r1=(1:Int))) (Hold (C_directory_May_8 k r1 r2 r3 r4 r5 r6 r7 0 r2 r3 r4 r5 r6 r7 K0)) (Hold (C_directory_May_13 k r1 r1 r2 r3 r4 r5 r6 r7 0 r2 r3 r4 r5 r6 r7 K0))) (cond (decide (r1=(2:Int))) (cond (decide (r1=(2:Int))) (Hold (C_directory_May_8 k r1 r2 r3 r4 r5 r6 r7 0 r2 r3 r4 r5 r6 r7 K0)) (Hold (C_directory_May_13 k r1 r1 r2 r3 r4 r5 r6 r7 0 r2 r3 r4 r5 r6 r7 K0))) (cond (decide (r1=(3:Int))) (Hold (C_directory_May_8 k r1 r2 r3 r4 r5 r6 r7 0 r2 r3 r4 r5 r6 r7 K0)) (Hold (C_directory_May_13 k r1 r1 r2 r3 r4 r5 r6 r7 0 r2 r3 r4 r5 r6 r7 K0)))))
def F_slices_Clone_api_User_api_User(k:Nat)(r1:(List S_api_User))(K0:(List S_api_User)->Prop):Prop:=match k with
 | 0=>False
 | k+1=>(∀ r2:Bool,(r2=true->r1=([]:List S_api_User))->(cond r2 (K0 []) ((room (List.length ([]:List S_api_User)+r1.length) 40)/\K0 (([]:List S_api_User)++r1))))
def F_slices_Clone_api_Head_api_Head(k:Nat)(r1:(List S_api_Head))(K0:(List S_api_Head)->Prop):Prop:=match k with
 | 0=>False
 | k+1=>(∀ r2:Bool,(r2=true->r1=([]:List S_api_Head))->(cond r2 (K0 []) ((room (List.length ([]:List S_api_Head)+r1.length) 72)/\K0 (([]:List S_api_Head)++r1))))
def F_slices_Clone_api_Session_api_Session(k:Nat)(r1:(List S_api_Session))(K0:(List S_api_Session)->Prop):Prop:=match k with
 | 0=>False
 | k+1=>(∀ r2:Bool,(r2=true->r1=([]:List S_api_Session))->(cond r2 (K0 []) ((room (List.length ([]:List S_api_Session)+r1.length) 32)/\K0 (([]:List S_api_Session)++r1))))
def C_directory_begin_3:Nat->Int->Int->Int->(List S_api_Head)->(List S_api_Session)->(List S_api_User)->(Int->(List S_api_User)->(List S_api_Head)->(List S_api_Session)->Prop)->Prop
 | 0,_,_,_,_,_,_,_=>False
 | k+1,r6,r7,r8,r9,r10,r11,K0=>(cond (decide (r7<r6)) ((0<=r7/\r7<(r11.length:Int))/\(Hold (F_slices_Clone_api_Version_api_Version k (r11.getD r7.toNat ⟨.empty,[]⟩).f1 (fun r12=>(0<=r7/\r7<(r11.length:Int))/\(Hold (C_directory_begin_3 k r6 (IntKind.i64.wrap (r7+(1:Int))) r8 r9 r10 (r11.set r7.toNat (S_api_User.mk (r11.getD r7.toNat ⟨.empty,[]⟩).f0 r12)) K0)))))) (Hold (F_slices_Clone_api_Head_api_Head k r9 (fun r13=>(Hold (F_slices_Clone_api_Session_api_Session k r10 (fun r14=>K0 r8 r11 r13 r14)))))))
def F_directory_begin(k:Nat)(r1:Int)(r2:(List S_api_User))(r3:(List S_api_Head))(r4:(List S_api_Session))(K0:Int->(List S_api_User)->(List S_api_Head)->(List S_api_Session)->Prop):Prop:=match k with
 | 0=>False
 | k+1=>(Hold (F_slices_Clone_api_User_api_User k r2 (fun r5=>(Hold (C_directory_begin_3 k (r5.length:Int) 0 r1 r3 r4 r5 K0)))))
def C_directory_work_leaves_3_1:Nat->Int->Int->Int->Int->(List S_api_User)->(List S_api_Head)->(List S_api_Session)->(List S_api_Leaf)->(Int->(List S_api_User)->(List S_api_Head)->(List S_api_Session)->(List S_api_Leaf)->Prop)->Prop
 | 0,_,_,_,_,_,_,_,_,_=>False
 | k+1,r6,r7,r8,r9,r10,r11,r12,r13,K1=>(cond (decide (r8<r7)) ((0<=r8/\r8<(r10.length:Int))/\(Hold (F_version_At k (r10.getD r8.toNat ⟨.empty,[]⟩).f1 r6 (fun r14=>(cond (decide (0<(r14.length:Int))) (Hold (F_version_Digest k r14 (fun r15 r16=>(Hold (F_path_Of k (r10.getD r8.toNat ⟨.empty,[]⟩).f0 (fun r17=>(room (r13.length+List.length [(S_api_Leaf.mk r17 r15)]) 64)/\(Hold (C_directory_work_leaves_3_1 k r6 r7 (IntKind.i64.wrap (r8+(1:Int))) r9 r10 r11 r12 (r13++[(S_api_Leaf.mk r17 r15)]) K1)))))))) (Hold (C_directory_work_leaves_3_1 k r6 r7 (IntKind.i64.wrap (r8+(1:Int))) r9 r10 r11 r12 r13 K1))))))) (K1 r9 r10 r11 r12 r13))
def F_directory_work_leaves_s1(k:Nat)(r1:Int)(r2:Int)(r3:(List S_api_User))(r4:(List S_api_Head))(r5:(List S_api_Session))(K1:Int->(List S_api_User)->(List S_api_Head)->(List S_api_Session)->(List S_api_Leaf)->Prop):Prop:=match k with
 | 0=>False
 | k+1=>(Hold (C_directory_work_leaves_3_1 k r1 (r3.length:Int) 0 r2 r3 r4 r5 [] K1))
def F_directory_work_root_s1(k:Nat)(r1:Int)(r2:Int)(r3:(List S_api_User))(r4:(List S_api_Head))(r5:(List S_api_Session))(K1:(List Int)->Int->(List S_api_User)->(List S_api_Head)->(List S_api_Session)->Prop):Prop:=match k with
 | 0=>False
 | k+1=>(Hold (F_directory_work_leaves_s1 k r1 r2 r3 r4 r5 (fun r6 r7 r8 r9 r10=>(Hold (F_smt_Root k 32 r10 (fun r11 r12=>K1 r11 r6 r7 r8 r9))))))
def F_directory_work_intend(k:Nat)(r1:Int)(r2:Int)(r3:Int)(r4:ByteArray)(r5:ByteArray)(r6:Int)(r7:(List Int))(r8:Int)(r9:(List S_api_User))(r10:(List S_api_Head))(r11:(List S_api_Session))(K0:Int->Int->(List S_api_User)->(List S_api_Head)->(List S_api_Session)->Prop)(K1:Int->Int->(List S_api_User)->(List S_api_Session)->(List S_api_Head)->Prop):Prop:=match k with
 | 0=>False
 | k+1=>(cond (!decide (r6=(IntKind.i64.wrap ((r10.length:Int)+1)))) (K0 73 r8 r9 r10 r11) (cond (decide (r8<r6)) (K0 73 r8 r9 r10 r11) (Hold (F_directory_work_root_s1 k r6 r8 r9 r10 r11 (fun r12 r13 r14 r15 r16=>(cond (!(decide (r7=r12))) (K0 73 r13 r14 r15 r16) (Hold (F_directory_prev k r15 (fun r17=>(room (r15.length+List.length [(S_api_Head.mk r6 r7 r17)]) 72)/\K1 0 r13 r14 r16 (r15++[(S_api_Head.mk r6 r7 r17)]))))))))))
def F_cmp_isNaN_int(k:Nat)(r1:Int)(K0:Bool->Prop):Prop:=match k with
 | 0=>False
 | k+1=>K0 (!decide (r1=r1))
def F_cmp_Compare_int(k:Nat)(r1:Int)(r2:Int)(K0:Int->Prop):Prop:=match k with
 | 0=>False
 | k+1=>(Hold (F_cmp_isNaN_int k r1 (fun r3=>(Hold (F_cmp_isNaN_int k r2 (fun r4=>(cond r3 (cond r4 (K0 0) (K0 (-1:Int))) (cond r4 (K0 1) (cond (decide (r1<r2)) (K0 (-1:Int)) (cond (decide (r2<r1)) (K0 1) (K0 0)))))))))))
def F_directory_work_session_1(k:Nat)(r1:Int)(r2:Int)(r3:Int)(r4:Int)(r5:Int)(K0:Int->Prop):Prop:=match k with
 | 0=>False
 | k+1=>(Hold (F_cmp_Compare_int k r1 r5 (fun r6=>K0 r6)))
def C_slices_BinarySearchFunc_api_Session_api_Session_int_3:Nat->(List S_api_Session)->Int->Int->Int->Int->(Int->Bool->Prop)->Prop
 | 0,_,_,_,_,_,_=>False
 | k+1,r3,r4,r5,r6,r7,K0=>(cond (decide (r6<r7)) ((0<=(1:Int))/\(0<=(IntKind.i64.wrap (ishr .u64 (IntKind.u64.wrap (IntKind.i64.wrap (r6+r7))) 1))/\(IntKind.i64.wrap (ishr .u64 (IntKind.u64.wrap (IntKind.i64.wrap (r6+r7))) 1))<(r3.length:Int))/\(Hold (F_directory_work_session_1 k (r3.getD (Int.toNat (IntKind.i64.wrap (ishr .u64 (IntKind.u64.wrap (IntKind.i64.wrap (r6+r7))) 1))) (S_api_Session.mk 0 0 0 0)).f0 (r3.getD (Int.toNat (IntKind.i64.wrap (ishr .u64 (IntKind.u64.wrap (IntKind.i64.wrap (r6+r7))) 1))) (S_api_Session.mk 0 0 0 0)).f1 (r3.getD (Int.toNat (IntKind.i64.wrap (ishr .u64 (IntKind.u64.wrap (IntKind.i64.wrap (r6+r7))) 1))) (S_api_Session.mk 0 0 0 0)).f2 (r3.getD (Int.toNat (IntKind.i64.wrap (ishr .u64 (IntKind.u64.wrap (IntKind.i64.wrap (r6+r7))) 1))) (S_api_Session.mk 0 0 0 0)).f3 r4 (fun r8=>(cond (decide (r8<(0:Int))) (Hold (C_slices_BinarySearchFunc_api_Session_api_Session_int_3 k r3 r4 r5 (IntKind.i64.wrap ((IntKind.i64.wrap (ishr .u64 (IntKind.u64.wrap (IntKind.i64.wrap (r6+r7))) 1))+1)) r7 K0)) (Hold (C_slices_BinarySearchFunc_api_Session_api_Session_int_3 k r3 r4 r5 r6 (IntKind.i64.wrap (ishr .u64 (IntKind.u64.wrap (IntKind.i64.wrap (r6+r7))) 1)) K0))))))) (cond (decide (r6<r5)) ((0<=r6/\r6<(r3.length:Int))/\(Hold (F_directory_work_session_1 k (r3.getD r6.toNat ⟨0,0,0,0⟩).f0 (r3.getD r6.toNat ⟨0,0,0,0⟩).f1 (r3.getD r6.toNat ⟨0,0,0,0⟩).f2 (r3.getD r6.toNat ⟨0,0,0,0⟩).f3 r4 (fun r9=>K0 r6 (decide (r9=(0:Int))))))) (K0 r6 false)))
def F_slices_BinarySearchFunc_api_Session_api_Session_int(k:Nat)(r1:(List S_api_Session))(r2:Int)(K0:Int->Bool->Prop):Prop:=match k with
 | 0=>False
 | k+1=>(Hold (C_slices_BinarySearchFunc_api_Session_api_Session_int_3 k r1 r2 (r1.length:Int) 0 (r1.length:Int) K0))
def F_directory_work_session(k:Nat)(r1:Int)(r2:Int)(r3:(List S_api_User))(r4:(List S_api_Head))(r5:(List S_api_Session))(K0:Int->Bool->Int->(List S_api_User)->(List S_api_Head)->(List S_api_Session)->Prop):Prop:=match k with
 | 0=>False
 | k+1=>(Hold (F_slices_BinarySearchFunc_api_Session_api_Session_int k r5 r1 (fun r6 r7=>K0 r6 r7 r2 r3 r4 r5)))
def F_slices_Insert_api_Session_api_Session(k:Nat)(r1:Int)(r2:(List S_api_Session))(r3:(List S_api_Session))(K0:(List S_api_Session)->Prop):Prop:=match k with
 | 0=>False
 | k+1=>((0<=r1/\r1<=(r2.length:Int))/\r3.length=1/\room (r2.length+1) 32)/\K0 (insAt r1 r2 r3)
def C_version_Next_8:Nat->(List S_api_Version)->Int->Int->ByteArray->((List S_api_Version)->Int->Prop)->Prop
 | 0,_,_,_,_,_=>False
 | k+1,r12,r13,r14,r15,K0=>(cond (decide ((r12.length:Int)=16)) (K0 [] 2) (Hold (F_slices_Clone_api_Version_api_Version k r12 (fun r16=>(room (r16.length+List.length [(S_api_Version.mk r13 r14 r15)]) 32)/\K0 (r16++[(S_api_Version.mk r13 r14 r15)]) 0))))
def F_version_Next(k:Nat)(r1:(List S_api_Version))(r2:Int)(r3:Int)(r4:ByteArray)(K0:(List S_api_Version)->Int->Prop):Prop:=match k with
 | 0=>False
 | k+1=>(Hold (F_version_last k r1 (fun r5 r6 r7=>(Hold (F_version_Check k r1 (fun r8=>(cond (!decide (r8=(0:Int))) (K0 [] 50) (Hold (F_version_may k r2 r3 r4 (fun r9=>(cond (!r9) (K0 [] 50) (cond (decide (r2<r5)) (K0 [] 50) (cond (decide (r3=(1:Int))) (Hold (F_version_open k r5 r6 r7 (fun r10=>(cond (!r10) (K0 [] 51) (cond (!decide (r3=(1:Int))) (Hold (F_version_open k r5 r6 r7 (fun r11=>(cond r11 (K0 [] 52) (Hold (C_version_Next_8 k r1 r2 r3 r4 K0)))))) (Hold (C_version_Next_8 k r1 r2 r3 r4 K0))))))) (cond (!decide (r3=(1:Int))) (Hold (F_version_open k r5 r6 r7 (fun r17=>(cond r17 (K0 [] 52) (Hold (C_version_Next_8 k r1 r2 r3 r4 K0)))))) (Hold (C_version_Next_8 k r1 r2 r3 r4 K0))))))))))))))))
def F_slices_Insert_api_User_api_User(k:Nat)(r1:Int)(r2:(List S_api_User))(r3:(List S_api_User))(K0:(List S_api_User)->Prop):Prop:=match k with
 | 0=>False
 | k+1=>((0<=r1/\r1<=(r2.length:Int))/\r3.length=1/\room (r2.length+1) 40)/\K0 (insAt r1 r2 r3)
def C_directory_work_add_5:Nat->Int->Int->(List S_api_User)->(List S_api_Head)->(List S_api_Session)->Int->Int->Int->ByteArray->ByteArray->Int->(List Int)->(List S_api_Version)->(Int->Int->(List S_api_User)->(List S_api_Head)->(List S_api_Session)->Prop)->(Int->Int->(List S_api_Head)->(List S_api_Session)->(List S_api_User)->Prop)->Prop
 | 0,_,_,_,_,_,_,_,_,_,_,_,_,_,_,_=>False
 | k+1,r19,r20,r21,r22,r23,r24,r25,r26,r27,r28,r29,r30,r31,K0,K1=>(Hold (F_directory_work_user k r27 r20 r21 r22 r23 (fun r32 r33 r34 r35 r36 r37=>(cond (!decide (r19=(0:Int))) (K0 r19 r34 r35 r36 r37) (cond r33 ((0<=r32/\r32<(r35.length:Int))/\K0 0 r34 (r35.set r32.toNat (S_api_User.mk (r35.getD r32.toNat ⟨.empty,[]⟩).f0 r31)) r36 r37) (cond (decide ((r35.length:Int)=64)) (K0 2 r34 r35 r36 r37) (Hold (F_slices_Insert_api_User_api_User k r32 r35 [(S_api_User.mk r27 r31)] (fun r38=>K1 0 r34 r36 r37 r38)))))))))
def F_directory_work_add(k:Nat)(r1:Int)(r2:Int)(r3:Int)(r4:ByteArray)(r5:ByteArray)(r6:Int)(r7:(List Int))(r8:Int)(r9:(List S_api_User))(r10:(List S_api_Head))(r11:(List S_api_Session))(K0:Int->Int->(List S_api_User)->(List S_api_Head)->(List S_api_Session)->Prop)(K1:Int->Int->(List S_api_Head)->(List S_api_Session)->(List S_api_User)->Prop):Prop:=match k with
 | 0=>False
 | k+1=>(cond (decide (r8=(200:Int))) (K0 2 r8 r9 r10 r11) (Hold (F_directory_work_history k r4 r8 r9 r10 r11 (fun r12 r13 r14 r15 r16=>((((r13=r8)/\(True/\(True/\(True/\True))))/\True)/\((r14=r9)/\((r15=r10)/\((r16=r11)/\True))))/\(Hold (F_version_Next k r12 (IntKind.i64.wrap (r8+(1:Int))) (IntKind.i64.wrap ((IntKind.i64.wrap (r1-(1:Int)))+1)) r5 (fun r17 r18=>(Hold (C_directory_work_add_5 k r18 r8 r9 r10 r11 r1 r2 r3 r4 r5 r6 r7 r17 K0 K1)))))) (fun r39 r40 r41 r42 r43=>((((r39=r8)/\(True/\(True/\(True/\True))))/\True)/\((r40=r9)/\((r41=r10)/\((r42=r11)/\True))))/\(Hold (F_version_Next k r43 (IntKind.i64.wrap (r8+(1:Int))) (IntKind.i64.wrap ((IntKind.i64.wrap (r1-(1:Int)))+1)) r5 (fun r44 r45=>(Hold (C_directory_work_add_5 k r45 r8 r9 r10 r11 r1 r2 r3 r4 r5 r6 r7 r44 K0 K1)))))))))
def C_directory_work_request_11:Nat->Int->(List S_api_User)->(List S_api_Head)->(List S_api_Session)->(Int->Int->(List S_api_User)->(List S_api_Head)->(List S_api_Session)->Prop)->Prop
 | 0,_,_,_,_,_=>False
 | k+1,r60,r61,r62,r63,K0=>K0 0 r60 r61 r62 r63
def C_directory_work_request_11_1:Nat->Int->(List S_api_Head)->(List S_api_User)->(List S_api_Session)->(Int->Int->(List S_api_Head)->(List S_api_User)->(List S_api_Session)->Prop)->Prop
 | 0,_,_,_,_,_=>False
 | k+1,r69,r70,r71,r72,K1=>K1 0 r69 r70 r71 r72
def C_directory_work_request_10:Nat->Nat->Int->(List S_api_User)->(List S_api_Head)->Int->Int->Int->ByteArray->ByteArray->Int->(List Int)->(List S_api_Session)->(Int->Int->(List S_api_User)->(List S_api_Head)->(List S_api_Session)->Prop)->(Int->Int->(List S_api_Head)->(List S_api_User)->(List S_api_Session)->Prop)->Prop
 | 0,_,_,_,_,_,_,_,_,_,_,_,_,_,_=>False
 | k+1,r43,r44,r45,r46,r47,r48,r49,r50,r51,r52,r53,r54,K0,K1=>(Hold (F_directory_work_add k r47 r48 r49 r50 r51 r52 r53 r44 r45 r46 r54 (fun r55 r56 r57 r58 r59=>(Hold (C_directory_work_request_11 k r56 r57 r58 (r59.set r43 (S_api_Session.mk (r59.getD r43 ⟨0,0,0,0⟩).f0 (r59.getD r43 ⟨0,0,0,0⟩).f1 r55 (r59.getD r43 ⟨0,0,0,0⟩).f3)) K0))) (fun r64 r65 r66 r67 r68=>(Hold (C_directory_work_request_11_1 k r65 r66 r68 (r67.set r43 (S_api_Session.mk (r67.getD r43 ⟨0,0,0,0⟩).f0 (r67.getD r43 ⟨0,0,0,0⟩).f1 r64 (r67.getD r43 ⟨0,0,0,0⟩).f3)) K1)))))
def C_directory_work_request_9:Nat->Nat->Int->(List S_api_User)->(List S_api_Head)->Int->Int->Int->ByteArray->ByteArray->Int->(List Int)->(List S_api_Session)->(Int->Int->(List S_api_User)->(List S_api_Head)->(List S_api_Session)->Prop)->(Int->Int->(List S_api_Head)->(List S_api_User)->(List S_api_Session)->Prop)->Prop
 | 0,_,_,_,_,_,_,_,_,_,_,_,_,_,_=>False
 | k+1,r31,r32,r33,r34,r35,r36,r37,r38,r39,r40,r41,r42,K0,K1=>(Hold (C_directory_work_request_10 k r31 r32 r33 r34 r35 r36 r37 r38 r39 r40 r41 (List.set (r42.set r31 (S_api_Session.mk (r42.getD r31 ⟨0,0,0,0⟩).f0 r37 (r42.getD r31 ⟨0,0,0,0⟩).f2 (r42.getD r31 ⟨0,0,0,0⟩).f3)) r31 (S_api_Session.mk (List.getD (r42.set r31 (S_api_Session.mk (r42.getD r31 ⟨0,0,0,0⟩).f0 r37 (r42.getD r31 ⟨0,0,0,0⟩).f2 (r42.getD r31 ⟨0,0,0,0⟩).f3)) r31 (S_api_Session.mk 0 0 0 0)).f0 (List.getD (r42.set r31 (S_api_Session.mk (r42.getD r31 ⟨0,0,0,0⟩).f0 r37 (r42.getD r31 ⟨0,0,0,0⟩).f2 (r42.getD r31 ⟨0,0,0,0⟩).f3)) r31 (S_api_Session.mk 0 0 0 0)).f1 (List.getD (r42.set r31 (S_api_Session.mk (r42.getD r31 ⟨0,0,0,0⟩).f0 r37 (r42.getD r31 ⟨0,0,0,0⟩).f2 (r42.getD r31 ⟨0,0,0,0⟩).f3)) r31 (S_api_Session.mk 0 0 0 0)).f2 r32)) K0 K1))
def C_directory_work_request_8:Nat->Int->Int->(List S_api_User)->(List S_api_Head)->Int->Int->Int->ByteArray->ByteArray->Int->(List Int)->(List S_api_Session)->(Int->Int->(List S_api_User)->(List S_api_Head)->(List S_api_Session)->Prop)->(Int->Int->(List S_api_Head)->(List S_api_User)->(List S_api_Session)->Prop)->Prop
 | 0,_,_,_,_,_,_,_,_,_,_,_,_,_,_=>False
 | k+1,r19,r20,r21,r22,r23,r24,r25,r26,r27,r28,r29,r30,K0,K1=>(0<=r19/\r19<(r30.length:Int))/\(Hold (C_directory_work_request_9 k r19.toNat r20 r21 r22 r23 r24 r25 r26 r27 r28 r29 r30 K0 K1))
def C_directory_work_request_11_3:Nat->Int->(List S_api_Head)->(List S_api_Session)->(List S_api_User)->(Int->Int->(List S_api_Head)->(List S_api_Session)->(List S_api_User)->Prop)->Prop
 | 0,_,_,_,_,_=>False
 | k+1,r123,r124,r125,r126,K3=>K3 0 r123 r124 r125 r126
def C_directory_work_request_10_1:Nat->Nat->Int->(List S_api_User)->(List S_api_Head)->(List S_api_Session)->Int->Int->Int->ByteArray->ByteArray->Int->(List Int)->(Int->Int->(List S_api_User)->(List S_api_Head)->(List S_api_Session)->Prop)->(Int->Int->(List S_api_Head)->(List S_api_Session)->(List S_api_User)->Prop)->Prop
 | 0,_,_,_,_,_,_,_,_,_,_,_,_,_,_=>False
 | k+1,r97,r98,r99,r100,r101,r102,r103,r104,r105,r106,r107,r108,K2,K3=>(Hold (F_directory_work_add k r102 r103 r104 r105 r106 r107 r108 r98 r99 r100 r101 (fun r109 r110 r111 r112 r113=>(Hold (C_directory_work_request_11 k r110 r111 r112 (r113.set r97 (S_api_Session.mk (r113.getD r97 ⟨0,0,0,0⟩).f0 (r113.getD r97 ⟨0,0,0,0⟩).f1 r109 (r113.getD r97 ⟨0,0,0,0⟩).f3)) K2))) (fun r118 r119 r120 r121 r122=>(Hold (C_directory_work_request_11_3 k r119 r120 (r121.set r97 (S_api_Session.mk (r121.getD r97 ⟨0,0,0,0⟩).f0 (r121.getD r97 ⟨0,0,0,0⟩).f1 r118 (r121.getD r97 ⟨0,0,0,0⟩).f3)) r122 K3)))))
def C_directory_work_request_9_1:Nat->Nat->Int->(List S_api_User)->(List S_api_Head)->(List S_api_Session)->Int->Int->Int->ByteArray->ByteArray->Int->(List Int)->(Int->Int->(List S_api_User)->(List S_api_Head)->(List S_api_Session)->Prop)->(Int->Int->(List S_api_Head)->(List S_api_Session)->(List S_api_User)->Prop)->Prop
 | 0,_,_,_,_,_,_,_,_,_,_,_,_,_,_=>False
 | k+1,r85,r86,r87,r88,r89,r90,r91,r92,r93,r94,r95,r96,K2,K3=>(Hold (C_directory_work_request_10_1 k r85 r86 r87 r88 (List.set (r89.set r85 (S_api_Session.mk (r89.getD r85 ⟨0,0,0,0⟩).f0 r92 (r89.getD r85 ⟨0,0,0,0⟩).f2 (r89.getD r85 ⟨0,0,0,0⟩).f3)) r85 (S_api_Session.mk (List.getD (r89.set r85 (S_api_Session.mk (r89.getD r85 ⟨0,0,0,0⟩).f0 r92 (r89.getD r85 ⟨0,0,0,0⟩).f2 (r89.getD r85 ⟨0,0,0,0⟩).f3)) r85 (S_api_Session.mk 0 0 0 0)).f0 (List.getD (r89.set r85 (S_api_Session.mk (r89.getD r85 ⟨0,0,0,0⟩).f0 r92 (r89.getD r85 ⟨0,0,0,0⟩).f2 (r89.getD r85 ⟨0,0,0,0⟩).f3)) r85 (S_api_Session.mk 0 0 0 0)).f1 (List.getD (r89.set r85 (S_api_Session.mk (r89.getD r85 ⟨0,0,0,0⟩).f0 r92 (r89.getD r85 ⟨0,0,0,0⟩).f2 (r89.getD r85 ⟨0,0,0,0⟩).f3)) r85 (S_api_Session.mk 0 0 0 0)).f2 r86)) r90 r91 r92 r93 r94 r95 r96 K2 K3))
def C_directory_work_request_8_1:Nat->Int->Int->(List S_api_User)->(List S_api_Head)->(List S_api_Session)->Int->Int->Int->ByteArray->ByteArray->Int->(List Int)->(Int->Int->(List S_api_User)->(List S_api_Head)->(List S_api_Session)->Prop)->(Int->Int->(List S_api_Head)->(List S_api_Session)->(List S_api_User)->Prop)->Prop
 | 0,_,_,_,_,_,_,_,_,_,_,_,_,_,_=>False
 | k+1,r73,r74,r75,r76,r77,r78,r79,r80,r81,r82,r83,r84,K2,K3=>(0<=r73/\r73<(r77.length:Int))/\(Hold (C_directory_work_request_9_1 k r73.toNat r74 r75 r76 r77 r78 r79 r80 r81 r82 r83 r84 K2 K3))
def F_directory_work_request(k:Nat)(r1:Int)(r2:Int)(r3:Int)(r4:ByteArray)(r5:ByteArray)(r6:Int)(r7:(List Int))(r8:Int)(r9:(List S_api_User))(r10:(List S_api_Head))(r11:(List S_api_Session))(K0:Int->Int->(List S_api_User)->(List S_api_Head)->(List S_api_Session)->Prop)(K1:Int->Int->(List S_api_Head)->(List S_api_User)->(List S_api_Session)->Prop)(K2:Int->Int->(List S_api_User)->(List S_api_Head)->(List S_api_Session)->Prop)(K3:Int->Int->(List S_api_Head)->(List S_api_Session)->(List S_api_User)->Prop):Prop:=match k with
 | 0=>False
 | k+1=>(Hold (F_directory_work_session k r2 r8 r9 r10 r11 (fun r12 r13 r14 r15 r16 r17=>(cond (!r13) (Hold (F_slices_Insert_api_Session_api_Session k r12 r17 [(S_api_Session.mk r2 0 0 0)] (fun r18=>(Hold (C_directory_work_request_8 k r12 r14 r15 r16 r1 r2 r3 r4 r5 r6 r7 r18 K0 K1))))) ((0<=r12/\r12<(r17.length:Int))/\(cond (decide (r3<(r17.getD r12.toNat ⟨0,0,0,0⟩).f1)) (K2 71 r14 r15 r16 r17) ((0<=r12/\r12<(r17.length:Int))/\(cond (decide ((r17.getD r12.toNat ⟨0,0,0,0⟩).f1=r3)) (K2 0 r14 r15 r16 r17) (Hold (C_directory_work_request_8_1 k r12 r14 r15 r16 r17 r1 r2 r3 r4 r5 r6 r7 K2 K3))))))))))
def C_directory_Apply_13:Nat->Int->Int->Int->(List S_api_User)->(List S_api_Head)->(List S_api_Session)->(List S_api_User)->(List S_api_Head)->(List S_api_Session)->(Int->(List S_api_User)->(List S_api_Head)->(List S_api_Session)->Int->Prop)->Prop
 | 0,_,_,_,_,_,_,_,_,_,_=>False
 | k+1,r18,r19,r20,r21,r22,r23,r24,r25,r26,K0=>(cond (!decide (r18=(0:Int))) (K0 0 [] [] [] r18) (K0 r20 r24 r25 r26 0))
def F_directory_Apply(k:Nat)(r1:Int)(r2:(List S_api_User))(r3:(List S_api_Head))(r4:(List S_api_Session))(r5:Int)(r6:Int)(r7:Int)(r8:ByteArray)(r9:ByteArray)(r10:Int)(r11:(List Int))(K0:Int->(List S_api_User)->(List S_api_Head)->(List S_api_Session)->Int->Prop):Prop:=match k with
 | 0=>False
 | k+1=>(Hold (F_directory_Check k r1 r2 r3 r4 (fun r12=>(cond (!decide (r12=(0:Int))) (K0 0 [] [] [] 70) (Hold (F_directory_May k r5 r6 r7 r8 r9 r10 r11 (fun r13=>(cond (!r13) (K0 0 [] [] [] 70) (Hold (F_directory_begin k r1 r2 r3 r4 (fun r14 r15 r16 r17=>(cond (decide (r5=(4:Int))) (cond (!decide (r10=(IntKind.i64.wrap (r14+(1:Int))))) (Hold (C_directory_Apply_13 k 72 0 r10 [] [] [] r15 r16 r17 K0)) (Hold (C_directory_Apply_13 k 0 0 r10 [] [] [] r15 r16 r17 K0))) (cond (decide (r5=(5:Int))) (Hold (F_directory_work_intend k r5 r6 r7 r8 r9 r10 r11 r14 r15 r16 r17 (fun r27 r28 r29 r30 r31=>(Hold (C_directory_Apply_13 k r27 0 r28 [] [] [] r29 r30 r31 K0))) (fun r32 r33 r34 r35 r36=>(Hold (C_directory_Apply_13 k r32 0 r33 [] [] [] r34 r36 r35 K0))))) (Hold (F_directory_work_request k r5 r6 r7 r8 r9 r10 r11 r14 r15 r16 r17 (fun r37 r38 r39 r40 r41=>(Hold (C_directory_Apply_13 k r37 0 r38 [] [] [] r39 r40 r41 K0))) (fun r42 r43 r44 r45 r46=>(Hold (C_directory_Apply_13 k r42 0 r43 [] [] [] r45 r44 r46 K0))) (fun r47 r48 r49 r50 r51=>(Hold (C_directory_Apply_13 k r47 0 r48 [] [] [] r49 r50 r51 K0))) (fun r52 r53 r54 r55 r56=>(Hold (C_directory_Apply_13 k r52 0 r53 [] [] [] r56 r54 r55 K0))))))))))))))))))
def F_l10_seal(k:Nat)(r1:Int)(K0:Int->Int->Int->ByteArray->ByteArray->Int->(List Int)->Prop):Prop:=match k with
 | 0=>False
 | k+1=>K0 4 0 0 ByteArray.empty ByteArray.empty r1 (List.replicate 32 0)
def F_l10_looks(k:Nat)  (K0:Bool->Prop):Prop:=match k with
 | 0=>False
 | k+1=>(Hold (F_l10_put k 1 str2 (fun r1 r2 r3 r4 r5 r6 r7=>(Hold (F_directory_Apply k 0 [] [] [] r1 r2 r3 r4 r5 r6 r7 (fun r8 r9 r10 r11 r12=>(Hold (F_l10_seal k 1 (fun r13 r14 r15 r16 r17 r18 r19=>(Hold (F_directory_Apply k r8 r9 r10 r11 r13 r14 r15 r16 r17 r18 r19 (fun r20 r21 r22 r23 r24=>(Hold (F_directory_Look k r20 r21 r22 r23 str2 1 (fun r25 r26 r27 r28 r29 r30=>(Hold (F_directory_Look k r20 r21 r22 r23 str4 1 (fun r31 r32 r33 r34 r35 r36=>(Hold (F_directory_Look k r20 r21 r22 r23 str2 2 (fun r37 r38 r39 r40 r41 r42=>(cond (decide (r24=(0:Int))) (cond (decide (r30=(0:Int))) (cond (decide ((r25.length:Int)=1)) (cond (decide ((r26.length:Int)=0)) (cond (decide (r36=(0:Int))) (cond r33 (K0 (decide (r42=(72:Int)))) (K0 false)) (K0 false)) (K0 false)) (K0 false)) (K0 false)) (K0 false)))))))))))))))))))))))
def C_r08_SameDirectory_14:Nat->Int->Int->(List S_api_User)->(List S_api_Head)->(List S_api_Session)->Int->(List S_api_User)->(List S_api_Head)->(List S_api_Session)->(Bool->Prop)->Prop
 | 0,_,_,_,_,_,_,_,_,_,_=>False
 | k+1,r28,r29,r30,r31,r32,r33,r34,r35,r36,K0=>(cond (decide (r28<(r32.length:Int))) ((0<=r28/\r28<(r32.length:Int))/\(0<=r28/\r28<(r36.length:Int))/\(cond (!((decide ((r32.getD r28.toNat ⟨0,0,0,0⟩).f0=(r36.getD r28.toNat ⟨0,0,0,0⟩).f0))&&((decide ((r32.getD r28.toNat ⟨0,0,0,0⟩).f1=(r36.getD r28.toNat ⟨0,0,0,0⟩).f1))&&((decide ((r32.getD r28.toNat ⟨0,0,0,0⟩).f2=(r36.getD r28.toNat ⟨0,0,0,0⟩).f2))&&((decide ((r32.getD r28.toNat ⟨0,0,0,0⟩).f3=(r36.getD r28.toNat ⟨0,0,0,0⟩).f3))&&true))))) (K0 false) (Hold (C_r08_SameDirectory_14 k (IntKind.i64.wrap (r28+(1:Int))) r29 r30 r31 r32 r33 r34 r35 r36 K0)))) (K0 true))
def C_r08_SameDirectory_9:Nat->Int->Int->(List S_api_User)->(List S_api_Head)->(List S_api_Session)->Int->(List S_api_User)->(List S_api_Head)->(List S_api_Session)->(Bool->Prop)->Prop
 | 0,_,_,_,_,_,_,_,_,_,_=>False
 | k+1,r19,r20,r21,r22,r23,r24,r25,r26,r27,K0=>(cond (decide (r19<(r22.length:Int))) ((0<=r19/\r19<(r22.length:Int))/\(0<=r19/\r19<(r26.length:Int))/\(cond (!((decide ((r22.getD r19.toNat ⟨0,(List.replicate 32 0),(List.replicate 32 0)⟩).f0=(r26.getD r19.toNat ⟨0,(List.replicate 32 0),(List.replicate 32 0)⟩).f0))&&((decide ((r22.getD r19.toNat ⟨0,(List.replicate 32 0),(List.replicate 32 0)⟩).f1=(r26.getD r19.toNat ⟨0,(List.replicate 32 0),(List.replicate 32 0)⟩).f1))&&((decide ((r22.getD r19.toNat ⟨0,(List.replicate 32 0),(List.replicate 32 0)⟩).f2=(r26.getD r19.toNat ⟨0,(List.replicate 32 0),(List.replicate 32 0)⟩).f2))&&true)))) (K0 false) (Hold (C_r08_SameDirectory_9 k (IntKind.i64.wrap (r19+(1:Int))) r20 r21 r22 r23 r24 r25 r26 r27 K0)))) (Hold (C_r08_SameDirectory_14 k 0 r20 r21 r22 r23 r24 r25 r26 r27 K0)))
def C_r08_SameDirectory_4:Nat->Int->Int->(List S_api_User)->(List S_api_Head)->(List S_api_Session)->Int->(List S_api_User)->(List S_api_Head)->(List S_api_Session)->(Bool->Prop)->Prop
 | 0,_,_,_,_,_,_,_,_,_,_=>False
 | k+1,r9,r10,r11,r12,r13,r14,r15,r16,r17,K0=>(cond (decide (r9<(r11.length:Int))) ((0<=r9/\r9<(r11.length:Int))/\(0<=r9/\r9<(r15.length:Int))/\(cond (!seq (r11.getD r9.toNat ⟨.empty,[]⟩).f0 (r15.getD r9.toNat ⟨.empty,[]⟩).f0) (K0 false) ((0<=r9/\r9<(r11.length:Int))/\(0<=r9/\r9<(r15.length:Int))/\(Hold (F_r08_SameVersions k (r11.getD r9.toNat ⟨.empty,[]⟩).f1 (r15.getD r9.toNat ⟨.empty,[]⟩).f1 (fun r18=>(cond (!r18) (K0 false) (Hold (C_r08_SameDirectory_4 k (IntKind.i64.wrap (r9+(1:Int))) r10 r11 r12 r13 r14 r15 r16 r17 K0))))))))) (Hold (C_r08_SameDirectory_9 k 0 r10 r11 r12 r13 r14 r15 r16 r17 K0)))
def F_r08_SameDirectory(k:Nat)(r1:Int)(r2:(List S_api_User))(r3:(List S_api_Head))(r4:(List S_api_Session))(r5:Int)(r6:(List S_api_User))(r7:(List S_api_Head))(r8:(List S_api_Session))(K0:Bool->Prop):Prop:=match k with
 | 0=>False
 | k+1=>(cond (!decide (r1=r5)) (K0 false) (cond (!decide ((r2.length:Int)=(r6.length:Int))) (K0 false) (cond (!decide ((r3.length:Int)=(r7.length:Int))) (K0 false) (cond (!decide ((r4.length:Int)=(r8.length:Int))) (K0 false) (Hold (C_r08_SameDirectory_4 k 0 r1 r2 r3 r4 r5 r6 r7 r8 K0))))))
def C_l10_DirectoryLooks_10:Nat->Bool->Int->Int->(List S_api_User)->(List S_api_Head)->(List S_api_Session)->Int->(List S_api_Version)->(List S_api_User)->(List S_api_Head)->(List S_api_Session)->(Bool->Prop)->Prop
 | 0,_,_,_,_,_,_,_,_,_,_,_,_=>False
 | k+1,r40,r41,r42,r43,r44,r45,r46,r47,r48,r49,r50,K0=>(cond (decide (r41<(r47.length:Int))) ((0<=r41/\r41<(r47.length:Int))/\(Hold (C_l10_DirectoryLooks_10 k r40 (IntKind.i64.wrap (r41+(1:Int))) r42 r43 r44 r45 r46 (r47.set r41.toNat (S_api_Version.mk (r47.getD r41.toNat ⟨0,0,.empty⟩).f0 (r47.getD r41.toNat ⟨0,0,.empty⟩).f1 str1)) r48 r49 r50 K0))) (Hold (F_l10_looks k (fun r51=>(cond r51 (cond r40 (Hold (F_r08_SameDirectory k r42 r43 r44 r45 r46 r48 r49 r50 (fun r52=>K0 r52))) (K0 false)) (K0 false))))))
def C_l10_DirectoryLooks_9:Nat->Bool->Int->(List S_api_User)->(List S_api_Head)->(List S_api_Session)->Int->(List S_api_Version)->(List S_api_User)->(List S_api_Head)->(List S_api_Session)->(Bool->Prop)->Prop
 | 0,_,_,_,_,_,_,_,_,_,_,_=>False
 | k+1,r30,r31,r32,r33,r34,r35,r36,r37,r38,r39,K0=>(Hold (C_l10_DirectoryLooks_10 k r30 0 r31 r32 r33 r34 r35 r36 r37 r38 r39 K0))
def F_l10_DirectoryLooks(k:Nat)(r1:Int)(r2:(List S_api_User))(r3:(List S_api_Head))(r4:(List S_api_Session))(r5:ByteArray)(r6:Int)(K0:Bool->Prop):Prop:=match k with
 | 0=>False
 | k+1=>(Hold (F_l10_large k r1 r2 r3 r4 0 0 0 r5 ByteArray.empty 0 (List.replicate 32 0) (fun r7=>(cond r7 (K0 true) (Hold (F_r08_OwnDirectory k r1 r2 r3 r4 (fun r8 r9 r10 r11=>(Hold (F_directory_Root k r1 r2 r3 r4 r6 (fun r12 r13=>(Hold (F_r10_Root k r8 r9 r10 r11 r6 (fun r14 r15=>(Hold (F_directory_Look k r1 r2 r3 r4 r5 r6 (fun r16 r17 r18 r19 r20 r21=>(Hold (F_r10_Look k r8 r9 r10 r11 r5 r6 (fun r22 r23 r24 r25 r26 r27=>(cond (decide (r12=r14)) (cond (decide (r13=r15)) (cond (decide (r21=r27)) (Hold (F_r08_SameVersions k r16 r22 (fun r28=>(cond r28 (Hold (F_r06_Same k r17 r18 r19 r20 r23 r24 r25 r26 (fun r29=>(Hold (C_l10_DirectoryLooks_9 k r29 r1 r2 r3 r4 r8 r16 r9 r10 r11 K0))))) (Hold (C_l10_DirectoryLooks_9 k false r1 r2 r3 r4 r8 r16 r9 r10 r11 K0)))))) (Hold (C_l10_DirectoryLooks_9 k false r1 r2 r3 r4 r8 r16 r9 r10 r11 K0))) (Hold (C_l10_DirectoryLooks_9 k false r1 r2 r3 r4 r8 r16 r9 r10 r11 K0))) (Hold (C_l10_DirectoryLooks_9 k false r1 r2 r3 r4 r8 r16 r9 r10 r11 K0))))))))))))))))))))))
def F_l19_large(k:Nat)(r1:ByteArray)(r2:Int)(r3:(List S_api_User))(r4:(List S_api_Head))(r5:(List S_api_Session))(r6:(List S_api_Signed))(r7:(List S_api_Signed))(K0:Bool->Prop):Prop:=match k with
 | 0=>False
 | k+1=>(Hold (F_r08_BigDirectory k r2 r3 r4 r5 (fun r8=>(cond r8 (K0 true) (cond (decide (65536<(ByteArray.size r1:Int))) (K0 true) (cond (decide (300<(r6.length:Int))) (K0 true) (K0 (decide (300<(r7.length:Int))))))))))
def F_signer_ready(k:Nat)(r1:ByteArray)(r2:Int)(r3:(List S_api_User))(r4:(List S_api_Head))(r5:(List S_api_Session))(K0:Int->Prop):Prop:=match k with
 | 0=>False
 | k+1=>(Hold (F_directory_Check k r2 r3 r4 r5 (fun r6=>(cond (!decide (r6=(0:Int))) (K0 70) (cond (seq r1 str0) (K0 80) (cond (decide (64<(ByteArray.size r1:Int))) (K0 80) (K0 0)))))))
def F_head_signing(k:Nat)(r1:ByteArray)(K0:Bool->Prop):Prop:=match k with
 | 0=>False
 | k+1=>(cond (!seq r1 str0) (K0 (decide ((ByteArray.size r1:Int)<=64))) (K0 false))
def F_mac_Mac_1_1(k:Nat)(r1:Int)(r2:Int)(K0:Int->Int->Prop):Prop:=match k with
 | 0=>False
 | k+1=>K0 (ixor .u8 r1 r2) r2
def C_mac_turned_byte_2:Nat->(List Int)->Int->Int->(List Int)->(Nat->Nat->Int->(List Int)->Prop)->Prop
 | 0,_,_,_,_,_=>False
 | k+1,r3,r4,r5,r6,K0=>(cond (decide (r4<(64:Int))) ((0<=r4/\r4<(64:Int))/\(Hold (F_mac_Mac_1_1 k (r3.getD r4.toNat 0) r5 (fun r7 r8=>(0<=r4/\r4<(64:Int))/\(Hold (C_mac_turned_byte_2 k r3 (IntKind.i64.wrap (r4+(1:Int))) r8 (r6.set r4.toNat r7) K0)))))) ((0<=(0:Int)/\(0:Int)<=64/\(64:Int)<=64)/\K0 (Int.toNat 0) (Int.toNat ((64:Int)-0)) r5 r6))
def F_mac_turned_byte(k:Nat)(r1:(List Int))(r2:Int)(K0:Nat->Nat->Int->(List Int)->Prop):Prop:=match k with
 | 0=>False
 | k+1=>(Hold (C_mac_turned_byte_2 k r1 0 r2 r1 K0))
def F_mac_Mac_1(k:Nat)(r1:Int)(r2:(List Int))(K0:Nat->Nat->(List Int)->(List Int)->Prop):Prop:=match k with
 | 0=>False
 | k+1=>(Hold (F_mac_turned_byte k r2 r1 (fun r3 r4 r5 r6=>K0 r3 r4 r2 r6)))
def C_mac_Mac_7:Nat->(List Int)->(List Int)->(List Int)->((List Int)->Prop)->Prop
 | 0,_,_,_,_=>False
 | k+1,r10,r11,r12,K0=>(Hold (F_sha_New k (fun r13 r14 r15=>(Hold (F_sha_New k (fun r16 r17 r18=>(Hold (F_mac_Mac_1 k 54 r12 (fun r19 r20 r21 r22=>(Hold (F_sha_Hash_Write k (cut r22 r19 r20) r13 r14 r15 (fun r23 r24 r25 r26=>(Hold (F_sha_Hash_Write k r10 r24 r25 r26 (fun r27 r28 r29 r30=>(Hold (F_sha_Hash_Sum k r28 r29 r30 (fun r31 r32 r33 r34=>(Hold (F_mac_Mac_1 k 92 r21 (fun r35 r36 r37 r38=>(Hold (F_sha_Hash_Write k (cut r38 r35 r36) r16 r17 r18 (fun r39 r40 r41 r42=>(0<=(0:Int)/\(0:Int)<=32/\(32:Int)<=32)/\(Hold (F_sha_Hash_Write k (cut r31 (Int.toNat 0) (Int.toNat ((32:Int)-0))) r40 r41 r42 (fun r43 r44 r45 r46=>(Hold (F_sha_Hash_Sum k r44 r45 r46 (fun r47 r48 r49 r50=>K0 r47))))))))))))))))))))))))))))))
def C_mac_Mac_5:Nat->Nat->Nat->(List Int)->(List Int)->(List Int)->(List Int)->((List Int)->Prop)->Prop
 | 0,_,_,_,_,_,_,_=>False
 | k+1,r4,r5,r6,r7,r8,r9,K0=>(0<=(0:Int)/\(0:Int)<=64/\(64:Int)<=64)/\(Hold (C_mac_Mac_7 k r6 r8 (splice r9 (Int.toNat 0) (cut r7 r4 r5) (Nat.min (List.length (cut r7 r4 r5)) (Int.toNat ((64:Int)-0)))) K0))
def C_mac_Mac_5_1:Nat->(List Int)->(List Int)->(List Int)->(List Int)->((List Int)->Prop)->Prop
 | 0,_,_,_,_,_=>False
 | k+1,r51,r52,r53,r54,K0=>(0<=(0:Int)/\(0:Int)<=64/\(64:Int)<=64)/\(Hold (C_mac_Mac_7 k r52 r53 (splice r54 (Int.toNat 0) r51 (Nat.min (r51.length) (Int.toNat ((64:Int)-0)))) K0))
def F_mac_Mac(k:Nat)(r1:(List Int))(r2:(List Int))(K0:(List Int)->Prop):Prop:=match k with
 | 0=>False
 | k+1=>(cond (decide (64<(r1.length:Int))) (Hold (F_sha_Sum k r1 (fun r3=>(0<=(0:Int)/\(0:Int)<=32/\(32:Int)<=32)/\(Hold (C_mac_Mac_5 k (Int.toNat 0) (Int.toNat ((32:Int)-0)) r2 r3 (List.replicate 32 0) (List.replicate 64 0) K0))))) (Hold (C_mac_Mac_5_1 k r1 r2 (List.replicate 32 0) (List.replicate 64 0) K0)))
def F_head_Sign(k:Nat)(r1:ByteArray)(r2:Int)(r3:(List Int))(r4:(List Int))(K0:Int->(List Int)->(List Int)->(List Int)->Int->Prop):Prop:=match k with
 | 0=>False
 | k+1=>(Hold (F_head_Bytes k r2 r3 r4 (fun r5 r6=>(Hold (F_head_signing k r1 (fun r7=>(cond (!r7) (K0 0 (List.replicate 32 0) (List.replicate 32 0) (List.replicate 32 0) 80) (cond (!decide (r6=(0:Int))) (K0 0 (List.replicate 32 0) (List.replicate 32 0) (List.replicate 32 0) 80) ((ByteArray.size r1<=maxStr)/\(Hold (F_mac_Mac k (bytesTo r1) r5 (fun r8=>K0 r2 r3 r4 r8 0))))))))))))
def F_slices_Values_api_Signed_api_Signed(k:Nat)(r1:(List S_api_Signed))(K0:(List S_api_Signed)->Prop):Prop:=match k with
 | 0=>False
 | k+1=>K0 r1
def F_signer_Sign_y14(k:Nat)(r1:Int)(r2:(List Int))(r3:(List Int))(r4:(List Int))(r5:Int)(r6:Int)(r7:(List Int))(r8:(List Int))(r9:(List Int))(r10:Bool)(r11:Int)(r12:Int)(r13:(List Int))(r14:(List Int))(r15:(List Int))(K1:Int->Int->(List Int)->(List Int)->(List Int)->Bool->Int->Int->(List Int)->(List Int)->(List Int)->Prop)(K2:Int->Int->(List Int)->(List Int)->(List Int)->Bool->Int->Int->(List Int)->(List Int)->(List Int)->Prop):Prop:=match k with
 | 0=>False
 | k+1=>(cond (decide (r1<r5)) (K1 r5 r6 r7 r8 r9 r10 r11 r12 r13 r14 r15) (cond (decide (r5<r1)) (K2 r5 0 (List.replicate 32 0) (List.replicate 32 0) (List.replicate 32 0) false 160 r12 r13 r14 r15) (cond (!(((decide (r1=r12))&&((decide (r2=r13))&&((decide (r3=r14))&&true)))&&((decide (r4=r15))&&true))) (K2 r5 0 (List.replicate 32 0) (List.replicate 32 0) (List.replicate 32 0) false 82 r12 r13 r14 r15) (K2 r5 r12 r13 r14 r15 false 0 r12 r13 r14 r15))))
def C_slices_Values_api_Signed_api_Signed_1_1:Nat->(List S_api_Signed)->Int->Int->(List S_api_Signed)->Int->Int->(List Int)->(List Int)->(List Int)->Bool->Int->Int->(List Int)->(List Int)->(List Int)->((List S_api_Signed)->Int->Int->(List Int)->(List Int)->(List Int)->Bool->Int->Int->(List Int)->(List Int)->(List Int)->Prop)->((List S_api_Signed)->Int->Int->(List Int)->(List Int)->(List Int)->Bool->Int->Int->(List Int)->(List Int)->(List Int)->Prop)->Prop
 | 0,_,_,_,_,_,_,_,_,_,_,_,_,_,_,_,_,_=>False
 | k+1,r13,r14,r15,r16,r17,r18,r19,r20,r21,r22,r23,r24,r25,r26,r27,K0,K1=>(cond (decide (r15<r14)) ((0<=r15/\r15<(r13.length:Int))/\(Hold (F_signer_Sign_y14 k (r13.getD r15.toNat ⟨⟨0,(List.replicate 32 0),(List.replicate 32 0)⟩,(List.replicate 32 0)⟩).f0.f0 (r13.getD r15.toNat ⟨⟨0,(List.replicate 32 0),(List.replicate 32 0)⟩,(List.replicate 32 0)⟩).f0.f1 (r13.getD r15.toNat ⟨⟨0,(List.replicate 32 0),(List.replicate 32 0)⟩,(List.replicate 32 0)⟩).f0.f2 (r13.getD r15.toNat ⟨⟨0,(List.replicate 32 0),(List.replicate 32 0)⟩,(List.replicate 32 0)⟩).f1 r17 r18 r19 r20 r21 r22 r23 r24 r25 r26 r27 (fun r28 r29 r30 r31 r32 r33 r34 r35 r36 r37 r38=>(Hold (C_slices_Values_api_Signed_api_Signed_1_1 k r13 r14 (IntKind.i64.wrap (r15+(1:Int))) r16 r28 r29 r30 r31 r32 r33 r34 r35 r36 r37 r38 K0 K1))) (fun r39 r40 r41 r42 r43 r44 r45 r46 r47 r48 r49=>K0 r16 r39 r40 r41 r42 r43 r44 r45 r46 r47 r48 r49)))) (K1 r16 r17 r18 r19 r20 r21 r22 r23 r24 r25 r26 r27))
def F_slices_Values_api_Signed_api_Signed_1(k:Nat)(r1:(List S_api_Signed))(r2:Int)(r3:Int)(r4:(List Int))(r5:(List Int))(r6:(List Int))(r7:Bool)(r8:Int)(r9:Int)(r10:(List Int))(r11:(List Int))(r12:(List Int))(K0:(List S_api_Signed)->Int->Int->(List Int)->(List Int)->(List Int)->Bool->Int->Int->(List Int)->(List Int)->(List Int)->Prop)(K1:(List S_api_Signed)->Int->Int->(List Int)->(List Int)->(List Int)->Bool->Int->Int->(List Int)->(List Int)->(List Int)->Prop):Prop:=match k with
 | 0=>False
 | k+1=>(Hold (C_slices_Values_api_Signed_api_Signed_1_1 k r1 (r1.length:Int) 0 r1 r2 r3 r4 r5 r6 r7 r8 r9 r10 r11 r12 K0 K1))
mutual
def C_signer_Sign_9:Nat->ByteArray->(List S_api_Signed)->Bool->Int->Int->Int->(List S_api_User)->(List S_api_Head)->(List S_api_Session)->Int->Int->(List Int)->(List Int)->(List Int)->Bool->Int->(Int->(List Int)->(List Int)->(List Int)->Bool->Int->Prop)->Prop
 | 0,_,_,_,_,_,_,_,_,_,_,_,_,_,_,_,_,_=>False
 | k+1,r25,r26,r27,r28,r29,r30,r31,r32,r33,r34,r35,r36,r37,r38,r39,r40,K0=>(Hold (C_signer_Sign_6 k r25 r26 r27 r28 (IntKind.i64.wrap (r29+(1:Int))) r30 r31 r32 r33 r34 r35 r36 r37 r38 r39 r40 K0))
def C_signer_Sign_6:Nat->ByteArray->(List S_api_Signed)->Bool->Int->Int->Int->(List S_api_User)->(List S_api_Head)->(List S_api_Session)->Int->Int->(List Int)->(List Int)->(List Int)->Bool->Int->(Int->(List Int)->(List Int)->(List Int)->Bool->Int->Prop)->Prop
 | 0,_,_,_,_,_,_,_,_,_,_,_,_,_,_,_,_,_=>False
 | k+1,r9,r10,r11,r12,r13,r14,r15,r16,r17,r18,r19,r20,r21,r22,r23,r24,K0=>(cond (decide (r13<r12)) (cond r11 (cond (decide (r13=(0:Int))) (Hold (C_signer_Sign_9 k r9 r10 true r12 r13 r14 r15 r16 r17 r18 r19 r20 r21 r22 r23 r24 K0)) ((0<=(IntKind.i64.wrap (r13-(1:Int)))/\(IntKind.i64.wrap (r13-(1:Int)))<(r10.length:Int))/\(0<=r13/\r13<(r10.length:Int))/\(Hold (C_signer_Sign_9 k r9 r10 (decide ((r10.getD (Int.toNat (IntKind.i64.wrap (r13-(1:Int)))) (S_api_Signed.mk (S_api_Head.mk 0 (List.replicate 32 0) (List.replicate 32 0)) (List.replicate 32 0))).f0.f0<(r10.getD r13.toNat ⟨⟨0,(List.replicate 32 0),(List.replicate 32 0)⟩,(List.replicate 32 0)⟩).f0.f0)) r12 r13 r14 r15 r16 r17 r18 r19 r20 r21 r22 r23 r24 K0)))) (Hold (C_signer_Sign_9 k r9 r10 false r12 r13 r14 r15 r16 r17 r18 r19 r20 r21 r22 r23 r24 K0))) (cond (decide (r18<(1:Int))) (K0 0 (List.replicate 32 0) (List.replicate 32 0) (List.replicate 32 0) false 160) (cond (decide ((r16.length:Int)<r18)) (K0 0 (List.replicate 32 0) (List.replicate 32 0) (List.replicate 32 0) false 160) (cond (!r11) (K0 0 (List.replicate 32 0) (List.replicate 32 0) (List.replicate 32 0) false 160) ((0<=(IntKind.i64.wrap (r18-(1:Int)))/\(IntKind.i64.wrap (r18-(1:Int)))<(r16.length:Int))/\(Hold (F_head_Sign k r9 (r16.getD (Int.toNat (IntKind.i64.wrap (r18-(1:Int)))) (S_api_Head.mk 0 (List.replicate 32 0) (List.replicate 32 0))).f0 (r16.getD (Int.toNat (IntKind.i64.wrap (r18-(1:Int)))) (S_api_Head.mk 0 (List.replicate 32 0) (List.replicate 32 0))).f1 (r16.getD (Int.toNat (IntKind.i64.wrap (r18-(1:Int)))) (S_api_Head.mk 0 (List.replicate 32 0) (List.replicate 32 0))).f2 (fun r41 r42 r43 r44 r45=>(Hold (F_slices_Values_api_Signed_api_Signed k r10 (fun r46=>(Hold (F_slices_Values_api_Signed_api_Signed_1 k r46 r18 r19 r20 r21 r22 r23 r24 r41 r42 r43 r44 (fun r47 r48 r49 r50 r51 r52 r53 r54 r55 r56 r57 r58=>K0 r49 r50 r51 r52 r53 r54) (fun r59 r60 r61 r62 r63 r64 r65 r66 r67 r68 r69 r70=>K0 r67 r68 r69 r70 true 0))))))))))))))
end
def F_signer_Sign(k:Nat)(r1:ByteArray)(r2:Int)(r3:(List S_api_User))(r4:(List S_api_Head))(r5:(List S_api_Session))(r6:(List S_api_Signed))(r7:Int)(K0:Int->(List Int)->(List Int)->(List Int)->Bool->Int->Prop):Prop:=match k with
 | 0=>False
 | k+1=>(Hold (F_signer_ready k r1 r2 r3 r4 r5 (fun r8=>(cond (!decide (r8=(0:Int))) (K0 0 (List.replicate 32 0) (List.replicate 32 0) (List.replicate 32 0) false r8) (Hold (C_signer_Sign_6 k r1 r6 true (r6.length:Int) 0 r2 r3 r4 r5 r7 0 (List.replicate 32 0) (List.replicate 32 0) (List.replicate 32 0) false 0 K0))))))
def F_r09_Key(k:Nat)(r1:ByteArray)(K0:Bool->Prop):Prop:=match k with
 | 0=>False
 | k+1=>(cond (decide (1<=(ByteArray.size r1:Int))) (K0 (decide ((ByteArray.size r1:Int)<=64))) (K0 false))
def C_r19_rises_2:Nat->(List S_api_Signed)->Int->(Bool->Prop)->Prop
 | 0,_,_,_=>False
 | k+1,r2,r3,K0=>(cond (decide (r3<(r2.length:Int))) ((0<=(IntKind.i64.wrap (r3-(1:Int)))/\(IntKind.i64.wrap (r3-(1:Int)))<(r2.length:Int))/\(0<=r3/\r3<(r2.length:Int))/\(cond (decide ((r2.getD r3.toNat ⟨⟨0,(List.replicate 32 0),(List.replicate 32 0)⟩,(List.replicate 32 0)⟩).f0.f0<=(r2.getD (Int.toNat (IntKind.i64.wrap (r3-(1:Int)))) (S_api_Signed.mk (S_api_Head.mk 0 (List.replicate 32 0) (List.replicate 32 0)) (List.replicate 32 0))).f0.f0)) (K0 false) (Hold (C_r19_rises_2 k r2 (IntKind.i64.wrap (r3+(1:Int))) K0)))) (K0 true))
def F_r19_rises(k:Nat)(r1:(List S_api_Signed))(K0:Bool->Prop):Prop:=match k with
 | 0=>False
 | k+1=>(Hold (C_r19_rises_2 k r1 1 K0))
def C_r03_Mac_12:Nat->(List Int)->Int->(List Int)->(List Int)->(List Int)->(List Int)->((List Int)->Prop)->Prop
 | 0,_,_,_,_,_,_,_=>False
 | k+1,r11,r12,r13,r14,r15,r16,K0=>(cond (decide (r12<(64:Int))) ((0<=r12/\r12<(64:Int))/\(room (r15.length+List.length [(ixor .u8 (r14.getD r12.toNat (0:Int)) (54:Int))]) 1)/\(0<=r12/\r12<(64:Int))/\(room (r16.length+List.length [(ixor .u8 (r14.getD r12.toNat (0:Int)) (92:Int))]) 1)/\(Hold (C_r03_Mac_12 k r11 (IntKind.i64.wrap (r12+(1:Int))) r13 r14 (r15++[(ixor .u8 (r14.getD r12.toNat (0:Int)) (54:Int))]) (r16++[(ixor .u8 (r14.getD r12.toNat (0:Int)) (92:Int))]) K0))) ((room (r15.length+r11.length) 1)/\(Hold (F_r02_Sum k (r15++r11) (fun r17=>(0<=(0:Int)/\(0:Int)<=32/\(32:Int)<=32)/\(room (r16.length+List.length (cut r17 (Int.toNat 0) (Int.toNat ((32:Int)-0)))) 1)/\(Hold (F_r02_Sum k (r16++(cut r17 (Int.toNat 0) (Int.toNat ((32:Int)-0)))) (fun r18=>K0 r18))))))))
def C_r03_Mac_6:Nat->Nat->Nat->(List Int)->Int->(List Int)->(List Int)->(List Int)->((List Int)->Prop)->Prop
 | 0,_,_,_,_,_,_,_,_=>False
 | k+1,r4,r5,r6,r7,r8,r9,r10,K0=>(cond (decide (r7<((r5:Nat):Int))) ((0<=r7/\r7<((r5:Nat):Int))/\(0<=r7/\r7<(64:Int))/\(Hold (C_r03_Mac_6 k r4 r5 r6 (IntKind.i64.wrap (r7+(1:Int))) r8 r9 (r10.set r7.toNat (r8.getD (r4+r7.toNat) 0)) K0))) (Hold (C_r03_Mac_12 k r6 0 r9 r10 [] [] K0)))
def C_r03_Mac_6_1:Nat->(List Int)->(List Int)->Int->(List Int)->(List Int)->((List Int)->Prop)->Prop
 | 0,_,_,_,_,_,_=>False
 | k+1,r19,r20,r21,r22,r23,K0=>(cond (decide (r21<(r19.length:Int))) ((0<=r21/\r21<(r19.length:Int))/\(0<=r21/\r21<(64:Int))/\(Hold (C_r03_Mac_6_1 k r19 r20 (IntKind.i64.wrap (r21+(1:Int))) r22 (r23.set r21.toNat (r19.getD r21.toNat 0)) K0))) (Hold (C_r03_Mac_12 k r20 0 r22 r23 [] [] K0)))
def F_r03_Mac(k:Nat)(r1:(List Int))(r2:(List Int))(K0:(List Int)->Prop):Prop:=match k with
 | 0=>False
 | k+1=>(cond (decide (64<(r1.length:Int))) (Hold (F_r02_Sum k r1 (fun r3=>(0<=(0:Int)/\(0:Int)<=32/\(32:Int)<=32)/\(Hold (C_r03_Mac_6 k (Int.toNat 0) (Int.toNat ((32:Int)-0)) r2 0 r3 (List.replicate 32 0) (List.replicate 64 0) K0))))) (Hold (C_r03_Mac_6_1 k r1 r2 0 (List.replicate 32 0) (List.replicate 64 0) K0)))
def F_r09_Sign(k:Nat)(r1:ByteArray)(r2:Int)(r3:(List Int))(r4:(List Int))(K0:Int->(List Int)->(List Int)->(List Int)->Int->Prop):Prop:=match k with
 | 0=>False
 | k+1=>(Hold (F_r09_Bytes k r2 r3 r4 (fun r5 r6=>(Hold (F_r09_Key k r1 (fun r7=>(cond (!r7) (K0 0 (List.replicate 32 0) (List.replicate 32 0) (List.replicate 32 0) 80) (cond (!decide (r6=(0:Int))) (K0 0 (List.replicate 32 0) (List.replicate 32 0) (List.replicate 32 0) 80) ((ByteArray.size r1<=maxStr)/\(Hold (F_r03_Mac k (bytesTo r1) r5 (fun r8=>K0 r2 r3 r4 r8 0))))))))))))
mutual
def C_r19_Sign_12:Nat->(List S_api_Signed)->Int->Bool->Int->Int->(List Int)->(List Int)->(List Int)->Int->(List Int)->(List Int)->(List Int)->Int->(List Int)->(List Int)->(List Int)->(Int->(List Int)->(List Int)->(List Int)->Bool->Int->Prop)->Prop
 | 0,_,_,_,_,_,_,_,_,_,_,_,_,_,_,_,_,_=>False
 | k+1,r32,r33,r34,r35,r36,r37,r38,r39,r40,r41,r42,r43,r44,r45,r46,r47,K0=>(Hold (C_r19_Sign_11 k r32 r33 r34 (IntKind.i64.wrap (r35+(1:Int))) r36 r37 r38 r39 r40 r41 r42 r43 r44 r45 r46 r47 K0))
def C_r19_Sign_11:Nat->(List S_api_Signed)->Int->Bool->Int->Int->(List Int)->(List Int)->(List Int)->Int->(List Int)->(List Int)->(List Int)->Int->(List Int)->(List Int)->(List Int)->(Int->(List Int)->(List Int)->(List Int)->Bool->Int->Prop)->Prop
 | 0,_,_,_,_,_,_,_,_,_,_,_,_,_,_,_,_,_=>False
 | k+1,r16,r17,r18,r19,r20,r21,r22,r23,r24,r25,r26,r27,r28,r29,r30,r31,K0=>(cond (decide (r19<(r16.length:Int))) ((0<=r19/\r19<(r16.length:Int))/\(cond (decide ((r16.getD r19.toNat ⟨⟨0,(List.replicate 32 0),(List.replicate 32 0)⟩,(List.replicate 32 0)⟩).f0.f0=r17)) ((0<=r19/\r19<(r16.length:Int))/\(cond (!(((decide ((r16.getD r19.toNat ⟨⟨0,(List.replicate 32 0),(List.replicate 32 0)⟩,(List.replicate 32 0)⟩).f0.f0=r28))&&((decide ((r16.getD r19.toNat ⟨⟨0,(List.replicate 32 0),(List.replicate 32 0)⟩,(List.replicate 32 0)⟩).f0.f1=r29))&&((decide ((r16.getD r19.toNat ⟨⟨0,(List.replicate 32 0),(List.replicate 32 0)⟩,(List.replicate 32 0)⟩).f0.f2=r30))&&true)))&&((decide ((r16.getD r19.toNat ⟨⟨0,(List.replicate 32 0),(List.replicate 32 0)⟩,(List.replicate 32 0)⟩).f1=r31))&&true))) (K0 r24 r25 r26 r27 false 82) (K0 r28 r29 r30 r31 false 0))) (cond r18 (Hold (C_r19_Sign_12 k r16 r17 true r19 r20 r21 r22 r23 r24 r25 r26 r27 r28 r29 r30 r31 K0)) ((0<=r19/\r19<(r16.length:Int))/\(Hold (C_r19_Sign_12 k r16 r17 (decide (r17<(r16.getD r19.toNat ⟨⟨0,(List.replicate 32 0),(List.replicate 32 0)⟩,(List.replicate 32 0)⟩).f0.f0)) r19 r20 r21 r22 r23 r24 r25 r26 r27 r28 r29 r30 r31 K0)))))) (cond r18 (K0 r24 r25 r26 r27 false 160) (K0 r28 r29 r30 r31 true 0)))
end
def F_r19_Sign(k:Nat)(r1:ByteArray)(r2:Int)(r3:(List S_api_User))(r4:(List S_api_Head))(r5:(List S_api_Session))(r6:(List S_api_Signed))(r7:Int)(K0:Int->(List Int)->(List Int)->(List Int)->Bool->Int->Prop):Prop:=match k with
 | 0=>False
 | k+1=>(Hold (F_r10_Right k r2 r3 r4 r5 (fun r8=>(cond (!r8) (K0 0 (List.replicate 32 0) (List.replicate 32 0) (List.replicate 32 0) false 70) (Hold (F_r09_Key k r1 (fun r9=>(cond (!r9) (K0 0 (List.replicate 32 0) (List.replicate 32 0) (List.replicate 32 0) false 80) (cond (decide (r7<(1:Int))) (K0 0 (List.replicate 32 0) (List.replicate 32 0) (List.replicate 32 0) false 160) (cond (decide ((r4.length:Int)<r7)) (K0 0 (List.replicate 32 0) (List.replicate 32 0) (List.replicate 32 0) false 160) (Hold (F_r19_rises k r6 (fun r10=>(cond (!r10) (K0 0 (List.replicate 32 0) (List.replicate 32 0) (List.replicate 32 0) false 160) ((0<=(IntKind.i64.wrap (r7-(1:Int)))/\(IntKind.i64.wrap (r7-(1:Int)))<(r4.length:Int))/\(Hold (F_r09_Sign k r1 (r4.getD (Int.toNat (IntKind.i64.wrap (r7-(1:Int)))) (S_api_Head.mk 0 (List.replicate 32 0) (List.replicate 32 0))).f0 (r4.getD (Int.toNat (IntKind.i64.wrap (r7-(1:Int)))) (S_api_Head.mk 0 (List.replicate 32 0) (List.replicate 32 0))).f1 (r4.getD (Int.toNat (IntKind.i64.wrap (r7-(1:Int)))) (S_api_Head.mk 0 (List.replicate 32 0) (List.replicate 32 0))).f2 (fun r11 r12 r13 r14 r15=>(Hold (C_r19_Sign_11 k r6 r7 false 0 0 (List.replicate 32 0) (List.replicate 32 0) (List.replicate 32 0) 0 (List.replicate 32 0) (List.replicate 32 0) (List.replicate 32 0) r11 r12 r13 r14 K0))))))))))))))))))))
def F_l19_one(k:Nat)  (K0:Int->(List S_api_User)->(List S_api_Head)->(List S_api_Session)->Prop):Prop:=match k with
 | 0=>False
 | k+1=>(Hold (F_directory_Apply k 0 [] [] [] 4 0 0 ByteArray.empty ByteArray.empty 1 (List.replicate 32 0) (fun r1 r2 r3 r4 r5=>(Hold (F_directory_Root k r1 r2 r3 r4 1 (fun r6 r7=>(Hold (F_directory_Apply k r1 r2 r3 r4 5 0 0 ByteArray.empty ByteArray.empty 1 r6 (fun r8 r9 r10 r11 r12=>K0 r8 r9 r10 r11)))))))))
def F_l19_signs(k:Nat)  (K0:Bool->Prop):Prop:=match k with
 | 0=>False
 | k+1=>(Hold (F_l19_one k (fun r1 r2 r3 r4=>(Hold (F_signer_Sign k str3 r1 r2 r3 r4 [] 1 (fun r5 r6 r7 r8 r9 r10=>(Hold (F_signer_Sign k str3 r1 r2 r3 r4 [] 2 (fun r11 r12 r13 r14 r15 r16=>(Hold (F_signer_Sign k str3 r1 r2 r3 r4 [(S_api_Signed.mk (S_api_Head.mk r5 r6 r7) r8)] 1 (fun r17 r18 r19 r20 r21 r22=>(Hold (F_signer_Sign k str5 r1 r2 r3 r4 [(S_api_Signed.mk (S_api_Head.mk r5 r6 r7) r8)] 1 (fun r23 r24 r25 r26 r27 r28=>(cond (decide ((r3.length:Int)=1)) (cond (decide (r10=(0:Int))) (cond r9 ((0<=(0:Int)/\0<(r3.length:Int))/\(cond ((decide (r5=(r3.getD (Int.toNat 0) ⟨0,(List.replicate 32 0),(List.replicate 32 0)⟩).f0))&&((decide (r6=(r3.getD (Int.toNat 0) ⟨0,(List.replicate 32 0),(List.replicate 32 0)⟩).f1))&&((decide (r7=(r3.getD (Int.toNat 0) ⟨0,(List.replicate 32 0),(List.replicate 32 0)⟩).f2))&&true))) (cond (decide (r16=(160:Int))) (cond (decide (r22=(0:Int))) (cond (!r21) (cond (((decide (r17=r5))&&((decide (r18=r6))&&((decide (r19=r7))&&true)))&&((decide (r20=r8))&&true)) (K0 (decide (r28=(82:Int)))) (K0 false)) (K0 false)) (K0 false)) (K0 false)) (K0 false))) (K0 false)) (K0 false)) (K0 false)))))))))))))))))
def C_r19_Same_4:Nat->(List S_api_Signed)->(List S_api_Signed)->Int->(Bool->Prop)->Prop
 | 0,_,_,_,_=>False
 | k+1,r3,r4,r5,K0=>(cond (decide (r5<(r3.length:Int))) ((0<=r5/\r5<(r3.length:Int))/\(0<=r5/\r5<(r4.length:Int))/\(cond (!(((decide ((r3.getD r5.toNat ⟨⟨0,(List.replicate 32 0),(List.replicate 32 0)⟩,(List.replicate 32 0)⟩).f0.f0=(r4.getD r5.toNat ⟨⟨0,(List.replicate 32 0),(List.replicate 32 0)⟩,(List.replicate 32 0)⟩).f0.f0))&&((decide ((r3.getD r5.toNat ⟨⟨0,(List.replicate 32 0),(List.replicate 32 0)⟩,(List.replicate 32 0)⟩).f0.f1=(r4.getD r5.toNat ⟨⟨0,(List.replicate 32 0),(List.replicate 32 0)⟩,(List.replicate 32 0)⟩).f0.f1))&&((decide ((r3.getD r5.toNat ⟨⟨0,(List.replicate 32 0),(List.replicate 32 0)⟩,(List.replicate 32 0)⟩).f0.f2=(r4.getD r5.toNat ⟨⟨0,(List.replicate 32 0),(List.replicate 32 0)⟩,(List.replicate 32 0)⟩).f0.f2))&&true)))&&((decide ((r3.getD r5.toNat ⟨⟨0,(List.replicate 32 0),(List.replicate 32 0)⟩,(List.replicate 32 0)⟩).f1=(r4.getD r5.toNat ⟨⟨0,(List.replicate 32 0),(List.replicate 32 0)⟩,(List.replicate 32 0)⟩).f1))&&true))) (K0 false) (Hold (C_r19_Same_4 k r3 r4 (IntKind.i64.wrap (r5+(1:Int))) K0)))) (K0 true))
def F_r19_Same(k:Nat)(r1:(List S_api_Signed))(r2:(List S_api_Signed))(K0:Bool->Prop):Prop:=match k with
 | 0=>False
 | k+1=>(cond (!decide ((r1.length:Int)=(r2.length:Int))) (K0 false) (Hold (C_r19_Same_4 k r1 r2 0 K0)))
def F_l19_SignerSigns(k:Nat)(r1:ByteArray)(r2:Int)(r3:(List S_api_User))(r4:(List S_api_Head))(r5:(List S_api_Session))(r6:(List S_api_Signed))(r7:Int)(K0:Bool->Prop):Prop:=match k with
 | 0=>False
 | k+1=>(Hold (F_l19_large k r1 r2 r3 r4 r5 r6 [] (fun r8=>(cond r8 (K0 true) (Hold (F_r08_OwnDirectory k r2 r3 r4 r5 (fun r9 r10 r11 r12=>(room (r6.length) 104)/\(Hold (F_signer_Sign k r1 r2 r3 r4 r5 r6 r7 (fun r13 r14 r15 r16 r17 r18=>(Hold (F_r19_Sign k r1 r9 r10 r11 r12 r6 r7 (fun r19 r20 r21 r22 r23 r24=>(Hold (F_l19_signs k (fun r25=>(cond r25 (cond (((decide (r13=r19))&&((decide (r14=r20))&&((decide (r15=r21))&&true)))&&((decide (r16=r22))&&true)) (cond (r17==r23) (cond (decide (r18=r24)) (Hold (F_r08_SameDirectory k r2 r3 r4 r5 r9 r10 r11 r12 (fun r26=>(cond r26 (Hold (F_r19_Same k r6 r6 (fun r27=>K0 r27))) (K0 false))))) (K0 false)) (K0 false)) (K0 false)) (K0 false))))))))))))))))))
end Go.V
