import Derived.Test.YtgeonfbhejigjaaGreatDoorVI10Rb
import Derived.Test.YtgeonfbhejigjaaGreatDoorVI10X
set_option linter.unusedVariables false
set_option linter.unusedSimpArgs false
set_option maxRecDepth 4000
namespace Go.V
def sealE(d:S_api_Directory)(ok:Bool)(ep:Int):Int:=if dirOk d=true/\ok=true then (if 1<=ep/\ep<=d.f0 then 0 else 72) else 70
theorem sealed_s(k:Nat){d:S_api_Directory}{ok:Bool}{ep:Int}(hd:DIn d){K:Int->Prop}(hk:900100<=k)(h:K (sealE d ok ep)):F_directory_sealed k d.f0 d.f1 d.f2 d.f3 ok ep K:=by
 obtain⟨k,rfl⟩:∃ m,k=m+1:=⟨k-1,by omega⟩
 rw[F_directory_sealed]
 simp only[Hold_eq]
 unfold sealE at h
 refine Check_s k hd.v hd.h hd.hn hd.sn (by omega) ?_
 cases hok:dirOk d with
 | false=>
  have:dirB d.f0 d.f1 d.f2 d.f3=false:=hok
  rw[this]
  rw[if_neg (by rw[hok];simp)] at h
  exact h
 | true=>
  have:dirB d.f0 d.f1 d.f2 d.f3=true:=hok
  rw[this]
  show cond (!decide ((0:Int)=0)) _ _
  rw[decide_eq_true rfl,Bool.not_true,cond_false]
  refine cond_nb (fun g=>?_) (fun g=>?_)
  ·rw[if_neg (by rw[g];simp)] at h
   exact h
  ·rw[if_pos ⟨hok,g⟩] at h
   refine within_s k (by omega) (cond_nb (fun g2=>?_) (fun g2=>?_))
   ·rw[if_neg (fun e=>by rw[decide_eq_true e.1,decide_eq_true e.2] at g2;cases g2)] at h
    exact h
   ·simp only[Bool.and_eq_true,decide_eq_true_eq] at g2
    rw[if_pos g2] at h
    exact h
theorem sealE_ok{d:S_api_Directory}{ok:Bool}{ep:Int}(h:sealE d ok ep=0):DirF d/\ok=true/\1<=ep/\ep<=d.f0:=by
 unfold sealE at h
 by_cases g:dirOk d=true/\ok=true
 ·rw[if_pos g] at h
  by_cases g2:1<=ep/\ep<=d.f0
  ·exact⟨dirOk_iff.1 g.1,g.2,g2⟩
  ·rw[if_neg g2] at h;cases h
 ·rw[if_neg g] at h;cases h
theorem sealE_of{d:S_api_Directory}{ok:Bool}{ep:Int}(h:DirF d)(h2:ok=true)(h3:1<=ep/\ep<=d.f0):sealE d ok ep=0:=by
 unfold sealE
 rw[if_pos ⟨dirOk_iff.2 h,h2⟩,if_pos h3]
def rootDE(d:S_api_Directory)(ep:Int):Int:=sealE d true ep
def rootD(d:S_api_Directory)(ep:Int):List Int:=if rootDE d ep=0 then rootU d.f1 ep else z32
theorem dRoot_s(k:Nat){d:S_api_Directory}{ep:Int}(hd:DIn d){K:List Int->Int->Prop}(hk:900200<=k)(h:K (rootD d ep) (rootDE d ep)):F_directory_Root k d.f0 d.f1 d.f2 d.f3 ep K:=by
 obtain⟨k,rfl⟩:∃ m,k=m+1:=⟨k-1,by omega⟩
 rw[F_directory_Root]
 simp only[Hold_eq]
 refine sealed_s k hd (by omega) (cond_ndec (fun g=>?_) (fun g=>?_))
 ·unfold rootD at h
  rw[if_neg (show ¬rootDE d ep=0 from g)] at h
  exact h
 ·unfold rootD at h
  rw[if_pos (show rootDE d ep=0 from g),show rootDE d ep=0 from g] at h
  obtain⟨hF,-,-⟩:=sealE_ok g
  exact work_root1_s k hF.ul hF.un (by omega) h
abbrev sealC(ep:Int):S_api_Command:=S_api_Command.mk 4 0 0 ByteArray.empty ByteArray.empty ep z32
abbrev intC(ep:Int)(r:List Int):S_api_Command:=S_api_Command.mk 5 0 0 ByteArray.empty ByteArray.empty ep r
theorem DIn.nil(e:Int)(us:List S_api_User)(ss:List S_api_Session)(h:∀ u∈us,u.f1.length<=100000)(hs:ss.length<=100000):DIn (S_api_Directory.mk e us [] ss):=⟨h,fun _ h=>(by cases h),by simp,hs⟩
theorem intC_may(r:List Int):mayCmd (intC 1 r)=true:=rfl
theorem rootR_dig(l:List S_api_Leaf):Dig (rootR 32 l):=by
 unfold rootR
 split
 ·exact digT_dig (by decide) _
 ·exact Dig.zero
theorem rootU_dig(us:List S_api_User)(ep:Int):Dig (rootU us ep):=rootR_dig _
theorem Ap(k:Nat){d:S_api_Directory}{c:S_api_Command}(hd:DIn d){K:KD}(hk:1000000<=k){x:S_api_Directory}{e:Int}(hE:apE d c=e)(hR:apR d c=x)(h:K x.f0 x.f1 x.f2 x.f3 e) :
  F_directory_Apply k d.f0 d.f1 d.f2 d.f3 c.f0 c.f1 c.f2 c.f3 c.f4 c.f5 c.f6 K:=by
 subst hE hR
 exact Apply_s k hd hk h
end Go.V
