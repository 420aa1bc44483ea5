import Derived.Test.YtgeonfbhejigjaaGreatDoorVI10Rb
import Derived.Test.YtgeonfbhejigjaaGreatDoorVI10X
set_option linter.unusedVariables false
set_option linter.unusedSimpArgs false
set_option maxRecDepth 4000
namespace Go.V
def sealE(d:S_api_Directory)(ok:Bool)(ep:Int):Int:=if dirOk d=true/\ok=true then (if 1<=ep/\ep<=d.f0 then 0 else 72) else 70
theorem sealed_s(k:Nat){d:S_api_Directory}{ok:Bool}{ep:Int}(hd:DIn d){K:Int->Prop}(hk:900100<=k)(h:K (sealE d ok ep)):F_directory_sealed k d.f0 d.f1 d.f2 d.f3 ok ep K:=by
 obtain⟨k,rfl⟩:∃ m,k=m+1:=⟨k-1,by omega⟩
 rw[F_directory_sealed]
 simp only[Hold_eq]
 unfold sealE at h
 refine Check_s k hd.v hd.h hd.hn hd.sn (by omega) ?_
 cases hok:dirOk d with
 | false=>
  have:dirB d.f0 d.f1 d.f2 d.f3=false:=hok
  rw[this]
  rw[if_neg (by rw[hok];simp)] at h
  exact h
 | true=>
  have:dirB d.f0 d.f1 d.f2 d.f3=true:=hok
  rw[this]
  show cond (!decide ((0:Int)=0)) _ _
  rw[decide_eq_true rfl,Bool.not_true,cond_false]
  refine cond_nb (fun g=>?_) (fun g=>?_)
  ·rw[if_neg (by rw[g];simp)] at h
   exact h
  ·rw[if_pos ⟨hok,g⟩] at h
   refine within_s k (by omega) (cond_nb (fun g2=>?_) (fun g2=>?_))
   ·rw[if_neg (fun e=>by rw[decide_eq_true e.1,decide_eq_true e.2] at g2;cases g2)] at h
    exact h
   ·simp only[Bool.and_eq_true,decide_eq_true_eq] at g2
    rw[if_pos g2] at h
    exact h
theorem sealE_ok{d:S_api_Directory}{ok:Bool}{ep:Int}(h:sealE d ok ep=0):DirF d/\ok=true/\1<=ep/\ep<=d.f0:=by
 unfold sealE at h
 by_cases g:dirOk d=true/\ok=true
 ·rw[if_pos g] at h
  by_cases g2:1<=ep/\ep<=d.f0
  ·exact⟨dirOk_iff.1 g.1,g.2,g2⟩
  ·rw[if_neg g2] at h;cases h
 ·rw[if_neg g] at h;cases h
theorem sealE_of{d:S_api_Directory}{ok:Bool}{ep:Int}(h:DirF d)(h2:ok=true)(h3:1<=ep/\ep<=d.f0):sealE d ok ep=0:=by
 unfold sealE
 rw[if_pos ⟨dirOk_iff.2 h,h2⟩,if_pos h3]
theorem DirF.un2{d:S_api_Directory}(h:DirF d):∀ u∈d.f1,u.f0.size<=100000:=h.un
def rootDE(d:S_api_Directory)(ep:Int):Int:=sealE d true ep
def rootD(d:S_api_Directory)(ep:Int):List Int:=if rootDE d ep=0 then rootU d.f1 ep else z32
theorem dRoot_s(k:Nat){d:S_api_Directory}{ep:Int}(hd:DIn d){K:List Int->Int->Prop}(hk:900200<=k)(h:K (rootD d ep) (rootDE d ep)):F_directory_Root k d.f0 d.f1 d.f2 d.f3 ep K:=by
 obtain⟨k,rfl⟩:∃ m,k=m+1:=⟨k-1,by omega⟩
 rw[F_directory_Root]
 simp only[Hold_eq]
 refine sealed_s k hd (by omega) (cond_ndec (fun g=>?_) (fun g=>?_))
 ·unfold rootD at h
  rw[if_neg (show ¬rootDE d ep=0 from g)] at h
  exact h
 ·unfold rootD at h
  rw[if_pos (show rootDE d ep=0 from g),show rootDE d ep=0 from g] at h
  obtain⟨hF,-,-⟩:=sealE_ok g
  exact work_root1_s k hF.ul hF.un (by omega) h
def mkS(w:Int)(l:List S_api_Leaf)(p:List Int):List (List Int):=if rootE w l=0 then sibL w p l else []
def mkO(w:Int)(l:List S_api_Leaf)(p:List Int):Bool:=if rootE w l=0 then mOth p (endN p l) else false
def mkP(w:Int)(l:List S_api_Leaf)(p:List Int):List Int:=if rootE w l=0 then mOp p (endN p l) else z32
def mkV(w:Int)(l:List S_api_Leaf)(p:List Int):List Int:=if rootE w l=0 then mOv p (endN p l) else z32
def lookE(d:S_api_Directory)(n:ByteArray)(ep:Int):Int:=sealE d (nameB n) ep
def lookV(d:S_api_Directory)(n:ByteArray)(ep:Int):List S_api_Version:=if lookE d n ep=0 then atV (hist d.f1 n) ep else []
def lookS(d:S_api_Directory)(n:ByteArray)(ep:Int):List (List Int):=if lookE d n ep=0 then mkS 32 (leavesU d.f1 ep) (pathL n) else []
def lookO(d:S_api_Directory)(n:ByteArray)(ep:Int):Bool:=if lookE d n ep=0 then mkO 32 (leavesU d.f1 ep) (pathL n) else false
def lookP(d:S_api_Directory)(n:ByteArray)(ep:Int):List Int:=if lookE d n ep=0 then mkP 32 (leavesU d.f1 ep) (pathL n) else z32
def lookW(d:S_api_Directory)(n:ByteArray)(ep:Int):List Int:=if lookE d n ep=0 then mkV 32 (leavesU d.f1 ep) (pathL n) else z32
theorem Look_s(k:Nat){d:S_api_Directory}{n:ByteArray}{ep:Int}(hd:DIn d){K:List S_api_Version->List (List Int)->Bool->List Int->List Int->Int->Prop}(hk:10000000<=k)
  (h:K (lookV d n ep) (lookS d n ep) (lookO d n ep) (lookP d n ep) (lookW d n ep) (lookE d n ep)):F_directory_Look k d.f0 d.f1 d.f2 d.f3 n ep K:=by
 obtain⟨k,rfl⟩:∃ m,k=m+2:=⟨k-2,by omega⟩
 rw[F_directory_Look]
 simp only[Hold_eq]
 unfold lookV lookS lookO lookP lookW at h
 refine name_s (k+1) (by omega) (sealed_s (k+1) hd (by omega) (cond_ndec (fun g=>?_) (fun g=>?_)))
 ·simp only[if_neg (show ¬lookE d n ep=0 from g)] at h
  exact h
 ·simp only[if_pos (show lookE d n ep=0 from g)] at h
  rw[show lookE d n ep=0 from g] at h
  obtain⟨hF,hn,-⟩:=sealE_ok g
  have hsz:=nameB_size hn
  have hul:=hF.ul
  rw[F_directory_work_leaves]
  simp only[Hold_eq]
  refine leaves_loop1 hF.ul hF.un d.f1.length 0 k [] (by omega) (by omega) (by simp) ?_
  rw[List.nil_append,List.drop_zero]
  refine path_Of_s (k+1) (by omega) (by omega) ?_
  have fin:∀ (A:List (List Int)) (B:Bool) (C D:List Int),K (atV (hist d.f1 n) ep) A B C D 0->F_directory_work_history (k+1) n d.f0 d.f1 d.f2 d.f3
    (fun r22 r23 r24 r25 r26=>((((r23=d.f0)/\((r24=d.f1)/\((r25=d.f2)/\((r26=d.f3)/\True))))/\True)/\True)/\(F_version_At (k+1) r22 ep (fun r27=>K r27 A B C D (0:Int))))
    (fun r28 r29 r30 r31 r32=>((((r28=d.f0)/\((r29=d.f1)/\((r30=d.f2)/\((r31=d.f3)/\True))))/\True)/\True)/\(F_version_At (k+1) r32 ep (fun r33=>K r33 A B C D (0:Int)))):=by
   intro A B C D h
   refine history_s (k+1) hF.us (by omega) (by omega) ?_ ?_
   ·exact⟨⟨⟨⟨rfl,rfl,rfl,rfl,trivial⟩,trivial⟩,trivial⟩,At_s2 (k+1) (by omega) h⟩
   ·exact⟨⟨⟨⟨rfl,rfl,rfl,rfl,trivial⟩,trivial⟩,trivial⟩,At_s2 (k+1) (by omega) h⟩
  refine Make_s (k+1) (leavesU_dig _ _) (shaL_dig _) (by omega) (fun e=>?_) (fun e=>?_)
  ·unfold mkS mkO mkP mkV at h
   simp only[if_neg e] at h
   exact fin _ _ _ _ h
  ·unfold mkS mkO mkP mkV at h
   simp only[if_pos e] at h
   exact fin _ _ _ _ h
abbrev putC(s:Int)(n:ByteArray):S_api_Command:=S_api_Command.mk 1 1 s n str3 0 z32
abbrev sealC(ep:Int):S_api_Command:=S_api_Command.mk 4 0 0 ByteArray.empty ByteArray.empty ep z32
abbrev ua:S_api_User:=S_api_User.mk str2 [S_api_Version.mk 1 1 str3]
abbrev dA:S_api_Directory:=S_api_Directory.mk 0 [ua] [] [S_api_Session.mk 1 1 0 0]
abbrev dL:S_api_Directory:=S_api_Directory.mk 1 [ua] [] [S_api_Session.mk 1 1 0 0]
theorem DIn.nil(e:Int)(us:List S_api_User)(ss:List S_api_Session)(h:∀ u∈us,u.f1.length<=100000)(hs:ss.length<=100000):DIn (S_api_Directory.mk e us [] ss):=⟨h,fun _ h=>(by cases h),by simp,hs⟩
theorem ua_len:∀ u∈[ua],u.f1.length<=100000:=by intro u hu;obtain rfl:=List.mem_singleton.1 hu;simp
theorem aE1:apE Dz (putC 1 str2)=0:=by decide +kernel
theorem aR1:apR Dz (putC 1 str2)=dA:=by unfold apR;rw[if_pos aE1];rfl
theorem dL_ok:dirOk dL=true:=by decide +kernel
theorem rootR_dig(l:List S_api_Leaf):Dig (rootR 32 l):=by
 unfold rootR
 split
 ·exact digT_dig (by decide) _
 ·exact Dig.zero
theorem rootU_dig(us:List S_api_User)(ep:Int):Dig (rootU us ep):=rootR_dig _
theorem Ap(k:Nat){d:S_api_Directory}{c:S_api_Command}(hd:DIn d){K:KD}(hk:1000000<=k){x:S_api_Directory}{e:Int}(hE:apE d c=e)(hR:apR d c=x)(h:K x.f0 x.f1 x.f2 x.f3 e) :
  F_directory_Apply k d.f0 d.f1 d.f2 d.f3 c.f0 c.f1 c.f2 c.f3 c.f4 c.f5 c.f6 K:=by
 subst hE hR
 exact Apply_s k hd hk h
theorem bytes1:bytesTo str2=[97]:=by decide +kernel
theorem bytes3:bytesTo str4=[98]:=by decide +kernel
theorem path_ne:pathL str2≠pathL str4:=by
 unfold pathL
 rw[bytes1,bytes3,shaC1 (by decide +kernel),shaC1 (by decide +kernel)]
 decide +kernel
theorem aE9:apE dA (sealC 1)=0:=by decide +kernel
theorem aR9:apR dA (sealC 1)=dL:=by unfold apR;rw[if_pos aE9];rfl
theorem atA:atV ua.f1 1=ua.f1:=by kernel_rfl
theorem lvA:leavesU [ua] 1=[S_api_Leaf.mk (pathL str2) (verD ua.f1)]:=by
 unfold leavesU
 rw[List.flatMap_cons,List.flatMap_nil,List.append_nil]
 unfold leafU
 rw[atA,if_neg (by simp)]
theorem reA(x:S_api_Leaf):rootE 32 [x]=0:=by
 unfold rootE Dst
 rw[if_neg (by decide),if_neg (by simp),if_neg (by simp)]
theorem histA:hist [ua] str2=ua.f1:=by kernel_rfl
theorem lkA:lookE dL str2 1=0:=sealE_of (dirOk_iff.1 dL_ok) (by decide +kernel) (by decide)
theorem lkB:lookE dL str4 1=0:=sealE_of (dirOk_iff.1 dL_ok) (by decide +kernel) (by decide)
theorem lkC:lookE dL str2 2=72:=by
 unfold lookE sealE
 rw[if_pos ⟨dL_ok,by decide +kernel⟩,if_neg (by simp)]
theorem looks_s(k:Nat){K:Bool->Prop}(hk:10000100<=k)(h:K true):F_l10_looks k K:=by
 obtain⟨k,rfl⟩:∃ m,k=m+2:=⟨k-2,by omega⟩
 rw[F_l10_looks]
 simp only[Hold_eq,F_l10_put,F_l10_seal]
 have n0:DIn Dz:=DIn.nil _ _ _ (by simp) (by simp)
 have nA:DIn dA:=DIn.nil _ _ _ ua_len (by simp)
 have nL:DIn dL:=DIn.nil _ _ _ ua_len (by simp)
 refine Ap (d:=Dz) (c:=putC 1 str2) (k+1) n0 (by omega) aE1 aR1 ?_
 refine Ap (d:=dA) (c:=sealC 1) (k+1) nA (by omega) aE9 aR9 ?_
 refine Look_s (d:=dL) (k+1) nL (by omega) (Look_s (d:=dL) (k+1) nL (by omega) (Look_s (d:=dL) (k+1) nL (by omega) ?_))
 rw[lkA,lkB,lkC]
 have e1:lookV dL str2 1=ua.f1:=by unfold lookV;rw[if_pos lkA];show atV (hist [ua] str2) 1=_;rw[histA,atA]
 have e2:lookS dL str2 1=[]:=by
  unfold lookS mkS
  rw[if_pos lkA]
  show (if rootE 32 (leavesU [ua] 1)=0 then _ else _)=_
  rw[lvA,if_pos (reA _)]
  exact sibs_le (by simp)
 have e3:lookO dL str4 1=true:=by
  unfold lookO mkO
  rw[if_pos lkB]
  show (if rootE 32 (leavesU [ua] 1)=0 then mOth (pathL str4) (nearL (pathL str4) 256 0 (leavesU [ua] 1)) else _)=_
  rw[lvA,if_pos (reA _),nearL_le (by simp)]
  show (!decide (pathL str2=pathL str4))=true
  rw[decide_eq_false path_ne];rfl
 rw[e1,e2,e3]
 refine cond_dec (fun _=>?_) (fun e=>absurd rfl e)
 refine cond_dec (fun _=>?_) (fun e=>absurd rfl e)
 refine cond_dec (fun _=>?_) (fun e=>absurd rfl e)
 refine cond_dec (fun _=>?_) (fun e=>absurd rfl e)
 refine cond_dec (fun _=>?_) (fun e=>absurd rfl e)
 exact h
end Go.V
