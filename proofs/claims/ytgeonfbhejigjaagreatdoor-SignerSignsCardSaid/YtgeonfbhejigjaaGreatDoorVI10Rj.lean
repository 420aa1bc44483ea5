import Derived.Test.YtgeonfbhejigjaaGreatDoorVI10Ri
set_option linter.unusedVariables false
set_option linter.unusedSimpArgs false
set_option maxRecDepth 8000
namespace Go.V
def shaC3'(m:List Int):List Int:=digL (match (m++tailOf m.length) with
 | l=>comp (comp (comp begin8 (l.take 64)) ((l.drop 64).take 64)) ((l.drop 64).drop 64))
theorem shaC3{m:List Int}(h:(m++tailOf m.length).length=192):shaL m=shaC3' m:=by
 unfold shaL shaC3'
 rw[absorb_long (by omega),absorb_long (by rw[List.length_drop];omega),absorb_one (by rw[List.length_drop,List.length_drop,h])]
def rLit:List Int:=[219,193,180,201,0,255,228,141,87,91,93,165,198,56,4,1,37,246,93,176,254,62,36,73,75,118,234,152,100,87,217,134]
theorem root0:rootU [] 1=rLit:=by
 unfold rootU
 rw[show leavesU [] 1=[] from rfl,rN]
 show shortL 32 [2]=rLit
 unfold shortL
 rw[shaC1 (by decide +kernel)]
 decide +kernel
abbrev hO:S_api_Head:=S_api_Head.mk 1 rLit z32
theorem mac_ne:macL (bytesTo str3) (hb hO)≠macL (bytesTo str5) (hb hO):=by
 have e2:bytesTo str3=[107]:=by decide +kernel
 have e4:bytesTo str5=[108]:=by decide +kernel
 rw[e2,e4]
 unfold macL
 rw[shaC3 (m:=xorL 54 (k64 [107])++hb hO) (by decide +kernel),shaC3 (m:=xorL 54 (k64 [108])++hb hO) (by decide +kernel)]
 rw[shaC2 (by decide +kernel),shaC2 (by decide +kernel)]
 decide +kernel
abbrev dS:S_api_Directory:=S_api_Directory.mk 1 [] [] []
abbrev dO:S_api_Directory:=S_api_Directory.mk 1 [] [hO] []
theorem bE1:apE Dz (sealC 1)=0:=by decide +kernel
theorem bR1:apR Dz (sealC 1)=dS:=by unfold apR;rw[if_pos bE1];rfl
theorem dS_ok:dirOk dS=true:=by decide +kernel
theorem rLit_dig:Dig rLit:=dig_ok (by decide +kernel)
theorem bE2:apE dS (intC 1 rLit)=0:=by
 unfold apE
 rw[if_pos ⟨dS_ok,intC_may _⟩,if_neg (show ¬(5:Int)=4 by decide),if_pos rfl,if_pos ⟨rfl,by decide,root0.symm⟩]
theorem bR2:apR dS (intC 1 rLit)=dO:=by unfold apR;rw[if_pos bE2];rfl
theorem dO_f:DirF dO:=by
 have:=(ap_ok bE2).1
 rwa [bR2] at this
theorem dO_h:HsOk dO:=fun x hx=>by obtain rfl:=List.mem_singleton.1 hx;exact⟨rLit_dig,Dig.zero⟩
theorem dS_in:DIn dS:=DIn.nil _ _ _ (by simp) (by simp)
theorem k2:keyB str3=true:=by decide +kernel
theorem k4:keyB str5=true:=by decide +kernel
theorem one_s(k:Nat){K:Int->List S_api_User->List S_api_Head->List S_api_Session->Prop}(hk:1000100<=k)(h:K dO.f0 dO.f1 dO.f2 dO.f3):F_l19_one k K:=by
 obtain⟨k,rfl⟩:∃ m,k=m+1:=⟨k-1,by omega⟩
 rw[F_l19_one]
 simp only[Hold_eq]
 have n0:DIn Dz:=DIn.nil _ _ _ (by simp) (by simp)
 refine Ap (d:=Dz) (c:=sealC 1) k n0 (by omega) bE1 bR1 ?_
 refine dRoot_s (d:=dS) k dS_in (by omega) ?_
 have e:rootD dS 1=rLit:=by
  unfold rootD
  rw[if_pos (show rootDE dS 1=0 from sealE_of (dirOk_iff.1 dS_ok) rfl (by decide))]
  exact root0
 rw[e]
 exact Ap (d:=dS) (c:=intC 1 rLit) k dS_in (by omega) bE2 bR2 h
abbrev xO(key:ByteArray):S_api_Signed:=S_api_Signed.mk hO (macL (bytesTo key) (hb hO))
theorem sgnX_O{key:ByteArray}(h:keyB key=true):sgnX key dO 1=xO key:=(sgnX_of dO_f h (by decide)).1
theorem sign1{key:ByteArray}(h:keyB key=true):sgn key dO [] 1=(xO key,true,0):=by
 rw[sgn_of dO_f h ⟨by decide,by decide,RU_zero _⟩,sgnX_O h];rfl
theorem sign2{key:ByteArray}(h:keyB key=true):sgn key dO [] 2=(G0,false,160):=by
 unfold sgn
 rw[if_pos (dirOk_iff.2 dO_f),if_pos h,if_neg (fun g=>by have:=g.2.1;revert this;decide)]
theorem RU_one(x:S_api_Signed):RU [x] 1:=fun i h1 h2=>by omega
theorem sign3{key:ByteArray}(h:keyB key=true){x:S_api_Signed}(hx:x.f0.f0=1):sgn key dO [x] 1=if x=xO key then (xO key,false,0) else (G0,false,82):=by
 rw[sgn_of dO_f h ⟨by decide,by decide,RU_one x⟩,sgnX_O h]
 unfold sgo
 rw[if_neg (by omega),if_neg (by omega)]
 by_cases g:x=xO key
 ·rw[if_pos (eqS_iff.2 g),if_pos g]
 ·rw[if_neg (fun h=>g (eqS_iff.1 h)),if_neg g]
theorem signs_s(k:Nat){K:Bool->Prop}(hk:1000200<=k)(h:K true):F_l19_signs k K:=by
 obtain⟨k,rfl⟩:∃ m,k=m+1:=⟨k-1,by omega⟩
 rw[F_l19_signs]
 simp only[Hold_eq]
 have hd:=dO_f.din dO_h
 refine one_s k (by omega) (Sign_s (l:=[]) k hd (by simp) (by omega) ?_)
 rw[sign1 k2]
 unfold sK
 refine Sign_s (l:=[]) k hd (by simp) (by omega) ?_
 rw[sign2 k2]
 unfold sK
 refine Sign_s (l:=[xO str3]) k hd (by simp) (by omega) ?_
 have e3:sgn str3 dO [xO str3] 1=(xO str3,false,0):=by rw[sign3 k2 rfl,if_pos rfl]
 have e4:sgn str5 dO [xO str3] 1=(G0,false,82):=by rw[sign3 k4 rfl,if_neg (fun g=>mac_ne (congrArg S_api_Signed.f1 g))]
 rw[e3]
 unfold sK
 refine Sign_s (l:=[xO str3]) k hd (by simp) (by omega) ?_
 rw[e4]
 unfold sK
 refine cond_dec (fun _=>?_) (fun e=>absurd rfl e)
 refine cond_dec (fun _=>?_) (fun e=>absurd rfl e)
 refine⟨by decide,?_⟩
 refine cond_b (fun _=>?_) (fun e=>?_)
 ·refine cond_dec (fun _=>?_) (fun e=>absurd rfl e)
  refine cond_dec (fun _=>?_) (fun e=>absurd rfl e)
  refine cond_b (fun _=>cond_b (fun _=>?_) (fun e=>?_)) (fun e=>by cases e)
  ·exact h
  ·have:eqS (xO str3) (xO str3)=false:=e
   rw[eqS_refl] at this;cases this
 ·have:(decide (hO.f0=hO.f0)&&(decide (hO.f1=hO.f1)&&(decide (hO.f2=hO.f2)&&true)))=false:=e
  simp at this
end Go.V
