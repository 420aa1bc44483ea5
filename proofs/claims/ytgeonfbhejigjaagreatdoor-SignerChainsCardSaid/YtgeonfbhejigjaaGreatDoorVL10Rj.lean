import Derived.Test.YtgeonfbhejigjaaGreatDoorVL10Ri
set_option linter.unusedVariables false
set_option linter.unusedSimpArgs false
set_option maxRecDepth 8000
namespace Go.V
def shaC3'(m:List Int):List Int:=digL (match (m++tailOf m.length) with
 | l=>comp (comp (comp begin8 (l.take 64)) ((l.drop 64).take 64)) ((l.drop 64).drop 64))
theorem shaC3{m:List Int}(h:(m++tailOf m.length).length=192):shaL m=shaC3' m:=by
 unfold shaL shaC3'
 rw[absorb_long (by omega),absorb_long (by rw[List.length_drop];omega),absorb_one (by rw[List.length_drop,List.length_drop,h])]
def rLit:List Int:=[219,193,180,201,0,255,228,141,87,91,93,165,198,56,4,1,37,246,93,176,254,62,36,73,75,118,234,152,100,87,217,134]
theorem root0:rootU [] 1=rLit:=by
 unfold rootU
 rw[show leavesU [] 1=[] from rfl,rN]
 show shortL 32 [2]=rLit
 unfold shortL
 rw[shaC1 (by decide +kernel)]
 decide +kernel
abbrev hO:S_api_Head:=S_api_Head.mk 1 rLit z32
theorem mac_ne:macL (bytesTo str1) (hb hO)≠macL (bytesTo str2) (hb hO):=by
 have e2:bytesTo str1=[107]:=by decide +kernel
 have e4:bytesTo str2=[108]:=by decide +kernel
 rw[e2,e4]
 unfold macL
 rw[shaC3 (m:=xorL 54 (k64 [107])++hb hO) (by decide +kernel),shaC3 (m:=xorL 54 (k64 [108])++hb hO) (by decide +kernel)]
 rw[shaC2 (by decide +kernel),shaC2 (by decide +kernel)]
 decide +kernel
abbrev dS:S_api_Directory:=S_api_Directory.mk 1 [] [] []
abbrev dO:S_api_Directory:=S_api_Directory.mk 1 [] [hO] []
theorem bE1:apE Dz (sealC 1)=0:=by decide +kernel
theorem bR1:apR Dz (sealC 1)=dS:=by unfold apR;rw[if_pos bE1];rfl
theorem dS_ok:dirOk dS=true:=by decide +kernel
theorem rLit_dig:Dig rLit:=dig_ok (by decide +kernel)
theorem bE2:apE dS (intC 1 rLit)=0:=by
 unfold apE
 rw[if_pos ⟨dS_ok,intC_may _⟩,if_neg (show ¬(5:Int)=4 by decide),if_pos rfl,if_pos ⟨rfl,by decide,root0.symm⟩]
theorem bR2:apR dS (intC 1 rLit)=dO:=by unfold apR;rw[if_pos bE2];rfl
theorem dO_f:DirF dO:=by
 have:=(ap_ok bE2).1
 rwa [bR2] at this
theorem dO_h:HsOk dO:=fun x hx=>by obtain rfl:=List.mem_singleton.1 hx;exact⟨rLit_dig,Dig.zero⟩
theorem dS_in:DIn dS:=DIn.nil _ _ _ (by simp) (by simp)
theorem k2:keyB str1=true:=by decide +kernel
theorem k4:keyB str2=true:=by decide +kernel
theorem one_s(k:Nat){K:Int->List S_api_User->List S_api_Head->List S_api_Session->Prop}(hk:1000100<=k)(h:K dO.f0 dO.f1 dO.f2 dO.f3):F_l19_one k K:=by
 obtain⟨k,rfl⟩:∃ m,k=m+1:=⟨k-1,by omega⟩
 rw[F_l19_one]
 simp only[Hold_eq]
 have n0:DIn Dz:=DIn.nil _ _ _ (by simp) (by simp)
 refine Ap (d:=Dz) (c:=sealC 1) k n0 (by omega) bE1 bR1 ?_
 refine dRoot_s (d:=dS) k dS_in (by omega) ?_
 have e:rootD dS 1=rLit:=by
  unfold rootD
  rw[if_pos (show rootDE dS 1=0 from sealE_of (dirOk_iff.1 dS_ok) rfl (by decide))]
  exact root0
 rw[e]
 exact Ap (d:=dS) (c:=intC 1 rLit) k dS_in (by omega) bE2 bR2 h
abbrev xO(key:ByteArray):S_api_Signed:=S_api_Signed.mk hO (macL (bytesTo key) (hb hO))
theorem sgnX_O{key:ByteArray}(h:keyB key=true):sgnX key dO 1=xO key:=(sgnX_of dO_f h (by decide)).1
theorem sign1{key:ByteArray}(h:keyB key=true):sgn key dO [] 1=(xO key,true,0):=by
 rw[sgn_of dO_f h ⟨by decide,by decide,RU_zero _⟩,sgnX_O h];rfl
theorem sign2{key:ByteArray}(h:keyB key=true):sgn key dO [] 2=(G0,false,160):=by
 unfold sgn
 rw[if_pos (dirOk_iff.2 dO_f),if_pos h,if_neg (fun g=>by have:=g.2.1;revert this;decide)]
theorem RU_one(x:S_api_Signed):RU [x] 1:=fun i h1 h2=>by omega
theorem sign3{key:ByteArray}(h:keyB key=true){x:S_api_Signed}(hx:x.f0.f0=1):sgn key dO [x] 1=if x=xO key then (xO key,false,0) else (G0,false,82):=by
 rw[sgn_of dO_f h ⟨by decide,by decide,RU_one x⟩,sgnX_O h]
 unfold sgo
 rw[if_neg (by omega),if_neg (by omega)]
 by_cases g:x=xO key
 ·rw[if_pos (eqS_iff.2 g),if_pos g]
 ·rw[if_neg (fun h=>g (eqS_iff.1 h)),if_neg g]
theorem signs_s(k:Nat){K:Bool->Prop}(hk:1000200<=k)(h:K true):F_l19_signs k K:=by
 obtain⟨k,rfl⟩:∃ m,k=m+1:=⟨k-1,by omega⟩
 rw[F_l19_signs]
 simp only[Hold_eq]
 have hd:=dO_f.din dO_h
 refine one_s k (by omega) (Sign_s (l:=[]) k hd (by simp) (by omega) ?_)
 rw[sign1 k2]
 unfold sK
 refine Sign_s (l:=[]) k hd (by simp) (by omega) ?_
 rw[sign2 k2]
 unfold sK
 refine Sign_s (l:=[xO str1]) k hd (by simp) (by omega) ?_
 have e3:sgn str1 dO [xO str1] 1=(xO str1,false,0):=by rw[sign3 k2 rfl,if_pos rfl]
 have e4:sgn str2 dO [xO str1] 1=(G0,false,82):=by rw[sign3 k4 rfl,if_neg (fun g=>mac_ne (congrArg S_api_Signed.f1 g))]
 rw[e3]
 unfold sK
 refine Sign_s (l:=[xO str1]) k hd (by simp) (by omega) ?_
 rw[e4]
 unfold sK
 refine cond_dec (fun _=>?_) (fun e=>absurd rfl e)
 refine cond_dec (fun _=>?_) (fun e=>absurd rfl e)
 refine⟨by decide,?_⟩
 refine cond_b (fun _=>?_) (fun e=>?_)
 ·refine cond_dec (fun _=>?_) (fun e=>absurd rfl e)
  refine cond_dec (fun _=>?_) (fun e=>absurd rfl e)
  refine cond_b (fun _=>cond_b (fun _=>?_) (fun e=>?_)) (fun e=>by cases e)
  ·exact h
  ·have:eqS (xO str1) (xO str1)=false:=e
   rw[eqS_refl] at this;cases this
 ·have:(decide (hO.f0=hO.f0)&&(decide (hO.f1=hO.f1)&&(decide (hO.f2=hO.f2)&&true)))=false:=e
  simp at this
section
variable {d:S_api_Directory} {l:List S_api_Signed} {ep:Int} {key other:ByteArray}
theorem again10(k:Nat)(hd:DIn d)(hl:l.length<=5000){x:S_api_Signed}(hk:2000000<=k)(h1:sgn key d l ep=(x,false,0))(h2:(sgn other d l ep).2.2=0->(sgn other d l ep).1=x) :
  C_l19_SignerAgain_10 k key other ep d.f0 d.f1 d.f2 d.f3 x.f0.f0 x.f0.f1 x.f0.f2 x.f1 l (fun b=>b=true):=by
 obtain⟨k,rfl⟩:∃ m,k=m+1:=⟨k-1,by omega⟩
 rw[C_l19_SignerAgain_10]
 simp only[Hold_eq]
 refine Sign_s k hd hl (by omega) ?_
 rw[h1]
 unfold sK
 refine Sign_s k hd hl (by omega) ?_
 unfold sK
 refine signs_s k (by omega) ?_
 rw[cond_true]
 refine cond_dec (fun _=>?_) (fun e=>absurd rfl e)
 refine cond_b (fun _=>?_) (fun e=>?_)
 ·show cond (!decide ((sgn other d l ep).2.2=0)) _ _
  refine cond_ndec (fun _=>(by first|rfl|trivial|decide)) (fun g=>?_)
  rw[h2 g]
  exact eqS_refl x
 ·have:eqS x x=false:=e
  rw[eqS_refl] at this;cases this
theorem RU_app{x:S_api_Signed}(h:RU l l.length)(h2:∀ s∈l,s.f0.f0<x.f0.f0):RU (l++[x]) (l++[x]).length:=by
 intro i h3 h4
 rw[List.length_append,List.length_singleton] at h4
 by_cases e:i=l.length
 ·subst e
  rw[getD_mid,getD_app (by omega),getD_at (by omega)]
  exact h2 _ (List.getElem_mem _)
 ·rw[getD_app (by omega),getD_app (by omega)]
  exact h i h3 (by omega)
theorem Again_s(k:Nat)(hh:HsOk d)(hk:3000000<=k):F_l19_SignerAgain k key other d.f0 d.f1 d.f2 d.f3 l ep (fun b=>b=true):=by
 obtain⟨k,rfl⟩:∃ m,k=m+1:=⟨k-1,by omega⟩
 rw[F_l19_SignerAgain]
 simp only[Hold_eq]
 refine large19_s k (by omega) fun b hb=>cond_b (fun _=>(by first|rfl|trivial|decide)) (fun g=>cond_dec (fun _=>(by first|rfl|trivial|decide)) (fun _=>?_))
 obtain⟨sm,hl,-⟩:=hb g
 have hd:DIn d:=Small.din sm hh
 refine Sign_s k hd (by omega) (by omega) ?_
 unfold sK
 refine cond_ndec (fun hE=>signs_s k (by omega) ?_) (fun hE=>⟨by unfold room;omega,?_⟩)
 ·obtain⟨b1,b2⟩:=sgn_bad hE
  rw[b1,b2,cond_true]
  exact cond_b (fun _=>(by first|rfl|trivial|decide)) (fun e=>by revert e;decide)
 ·obtain⟨hF,hkb,hB,hs⟩:=sgn_ok hE
  have hx:=(sgnX_of hF hkb ⟨hB.1,hB.2.1⟩).2
  rw[hs] at hE ⊢
  refine cond_b (fun hf=>?_) (fun hf=>?_)
  ·obtain⟨e1,e2,e3⟩:=sgo_fresh hf
   rw[e1]
   have hB2:sgnB d (l++[sgnX key d ep]) ep:=⟨hB.1,hB.2.1,RU_app hB.2.2 (by rw[hx];exact e2)⟩
   refine⟨by unfold room;simp only[List.length_cons,List.length_nil];omega,again10 k hd (l:=l++[sgnX key d ep]) (by simp;omega) (x:=sgnX key d ep) (by omega) ?_ ?_⟩
   ·rw[sgn_of hF hkb hB2,e3 _ _ hx,if_pos rfl]
   ·intro h0
    obtain⟨-,hko,-,ho⟩:=sgn_ok h0
    rw[ho,e3 _ _ hx] at h0 ⊢
    by_cases q:sgnX key d ep=sgnX other d ep
    ·rw[if_pos q];exact q.symm
    ·rw[if_neg q] at h0;cases h0
  ·obtain⟨e1,e2⟩:=sgo_old hf hE
   rw[e1]
   refine again10 k hd (l:=l) (by omega) (x:=sgnX key d ep) (by omega) (by rw[hs,e1]) ?_
   intro h0
   obtain⟨-,hko,-,ho⟩:=sgn_ok h0
   rw[ho,e2] at h0 ⊢
   by_cases q:sgnX key d ep=sgnX other d ep
   ·rw[if_pos q];exact q.symm
   ·rw[if_neg q] at h0;cases h0
end
theorem macSame_loop{a:List Int}:∀ (m j k:Nat) {K:Bool->Prop},j+m=32->m+1<=k->K true->C_mac_Same_3 k 0 (j:Int) a a K:=by
 intro m
 induction m with
 | zero=>
  intro j k K hj hk h
  obtain⟨k,rfl⟩:∃ m,k=m+1:=⟨k-1,by omega⟩
  rw[C_mac_Same_3]
  exact cond_dec (fun e=>by omega) (fun _=>h)
 | succ m ih=>
  intro j k K hj hk h
  obtain⟨k,rfl⟩:∃ m,k=m+1:=⟨k-1,by omega⟩
  rw[C_mac_Same_3]
  simp only[Hold_eq]
  have e:∀ x:Int,ior .u8 0 (ixor .u8 x x)=0:=by
   intro x
   have:ixor .u8 x x=0:=by unfold ixor;rw[BitVec.xor_self];rfl
   rw[this];rfl
  rw[e,step64 j (by omega)]
  exact cond_dec (fun _=>⟨by omega,by omega,ih (j+1) k (by omega) (by omega) h⟩) (fun e=>by omega)
theorem mac_Same_s(k:Nat){a:List Int}{K:Bool->Prop}(hk:40<=k)(h:K true):F_mac_Same k a a K:=by
 obtain⟨k,rfl⟩:∃ m,k=m+1:=⟨k-1,by omega⟩
 rw[F_mac_Same]
 simp only[Hold_eq]
 exact macSame_loop 32 0 k (by omega) (by omega) h
theorem head_Sign_ok(k:Nat){key:ByteArray}{h:S_api_Head}{K:Int->List Int->List Int->List Int->Int->Prop}(hh:HeadOk h)(hm:MayH h)(hkb:keyB key=true)(hk:7000<=k)(g:K h.f0 h.f1 h.f2 (macL (bytesTo key) (hb h)) 0):F_head_Sign k key h.f0 h.f1 h.f2 K:=by
 obtain⟨k,rfl⟩:∃ m,k=m+1:=⟨k-1,by omega⟩
 rw[F_head_Sign]
 simp only[Hold_eq]
 refine head_Bytes_s k hh (by omega) ?_
 rw[if_pos hm]
 refine signing_s k (by omega) ?_
 have l1:=keyB_len hkb
 have l2:=bytesTo_len key
 obtain⟨l3,l4⟩:=hb_len hh hm
 rw[hkb,Bool.not_true,cond_false]
 exact cond_ndec (fun x=>absurd rfl x) (fun _=>⟨by unfold maxStr;omega,mac_s k (by omega) (by omega) (by omega) g⟩)
theorem headCheck_s(k:Nat){key:ByteArray}{h:S_api_Head}{K:Int->Prop}(hh:HeadOk h)(hm:MayH h)(hkb:keyB key=true)(hk:8000<=k)(g:K 0):F_head_Check k key h.f0 h.f1 h.f2 (macL (bytesTo key) (hb h)) K:=by
 obtain⟨k,rfl⟩:∃ m,k=m+1:=⟨k-1,by omega⟩
 rw[F_head_Check]
 simp only[Hold_eq]
 exact head_Sign_ok k hh hm hkb (by omega) (cond_ndec (fun e=>absurd rfl e) (fun _=>mac_Same_s k (by omega) g))
theorem chain_loop{hs:List S_api_Head}{z:List S_api_Signed}{key:ByteArray}(hh:∀ h∈hs,HeadOk h)(hB:headsB hs=true)(hn:hs.length<=200)(hkb:keyB key=true){K8 K9:List S_api_Signed->ByteArray->Int->Int->List Int->Prop}(h9:∀ z a b c e,K9 z a b c e):∀ (m j k:Nat),j+m=hs.length->2*m+10000<=k →
  C_slices_Values_api_Signed_api_Signed_1_1_4 k (hs.map (signOf key)) ((hs.map (signOf key)).length:Int) (j:Int) z key 0 ((j+1:Nat):Int) (prevL hs j) K8 K9:=by
 intro m
 induction m with
 | zero=>
  intro j k hj hk
  obtain⟨k,rfl⟩:∃ m,k=m+1:=⟨k-1,by omega⟩
  rw[C_slices_Values_api_Signed_api_Signed_1_1_4]
  refine cond_dec (fun e=>by rw[List.length_map] at e;omega) (fun _=>h9 _ _ _ _ _)
 | succ m ih=>
  intro j k hj hk
  obtain⟨k,rfl⟩:∃ m,k=m+2:=⟨k-2,by omega⟩
  have hjl:j<hs.length:=by omega
  obtain⟨e1,e2⟩:=headsB_iff.1 hB j hjl
  rw[getD_at hjl] at e1 e2
  have hho:=hh _ (List.getElem_mem hjl)
  have hm:MayH hs[j]:=by unfold MayH;omega
  have es:signOf key hs[j]=S_api_Signed.mk hs[j] (macL (bytesTo key) (hb hs[j])):=by unfold signOf;rw[if_pos ⟨hkb,hm⟩]
  rw[C_slices_Values_api_Signed_api_Signed_1_1_4]
  simp only[Hold_eq]
  rw[Int.toNat_natCast,getD_at (by rw[List.length_map];exact hjl),List.getElem_map,es,step64 j (by omega)]
  refine cond_dec (fun _=>⟨by rw[List.length_map];omega,?_⟩) (fun e=>by rw[List.length_map] at e;omega)
  rw[F_head_Chain_y5]
  simp only[Hold_eq]
  refine headCheck_s k hho hm hkb (by omega) (cond_ndec (fun e=>absurd rfl e) (fun _=>cond_nb (fun g=>?_) (fun g=>?_)))
  ·exfalso
   rw[e1,<-e2] at g
   simp at g
  ·refine head_Digest_s k hho (by omega) fun _=>?_
   have e3:IntKind.i64.wrap (((j+1:Nat):Int)+1)=((j+1+1:Nat):Int):=by rw[wrap64 (by omega)];rfl
   rw[e3]
   have e4:prevL hs (j+1)=headD hs[j]:=by unfold prevL;rw[if_neg (by omega),Nat.add_sub_cancel,getD_at hjl]
   rw[<-e4]
   exact ih (j+1) (k+1) (by omega) (by omega)
theorem Chain_s(k:Nat){hs:List S_api_Head}{key:ByteArray}(hh:∀ h∈hs,HeadOk h)(hB:headsB hs=true)(hn:hs.length<=200)(hkb:keyB key=true){K:Int->Prop}(hk:20000<=k)(h:K 0):F_head_Chain k key (hs.map (signOf key)) K:=by
 obtain⟨k,rfl⟩:∃ m,k=m+2:=⟨k-2,by omega⟩
 rw[F_head_Chain]
 simp only[Hold_eq]
 refine signing_s (k+1) (by omega) ?_
 rw[hkb,Bool.not_true,cond_false]
 rw[F_slices_Values_api_Signed_api_Signed,F_slices_Values_api_Signed_api_Signed_1_s4]
 simp only[Hold_eq]
 exact chain_loop hh hB hn hkb (fun _ _ _ _ _=>h) hs.length 0 k (by omega) (by omega)
theorem Chains_s(k:Nat){d:S_api_Directory}{key:ByteArray}(hh:HsOk d)(hk:3000000<=k):F_l19_SignerChains k key d.f0 d.f1 d.f2 d.f3 (fun b=>b=true):=by
 obtain⟨k,rfl⟩:∃ m,k=m+1:=⟨k-1,by omega⟩
 rw[F_l19_SignerChains]
 simp only[Hold_eq]
 refine large19_s k (by omega) fun b hb=>cond_b (fun _=>(by first|rfl|trivial|decide)) (fun g=>?_)
 obtain⟨sm,-,-⟩:=hb g
 have hd:DIn d:=Small.din sm hh
 refine Heads_s k hd.v hd.h sm.h hd.sn (by omega) ?_
 have bad:∀ e:Int,e≠0->(cond (!decide (e=0)) (F_l19_signs k fun r9=>cond r9 (F_l19_lists k fun r10=>cond r10 (decide (((List.length ([]:List S_api_Signed):Nat):Int)=(0:Int))=true) (false=true)) (false=true)) (F_l19_signs k fun r11=>cond r11 (F_l19_lists k fun r12=>cond r12 (cond (decide (((List.length ([]:List S_api_Signed):Nat):Int)=((List.length d.f2:Nat):Int))) (F_head_Chain k key [] fun r13=>decide (r13=(0:Int))=true) (false=true)) (false=true)) (false=true))):=by
  intro e he
  refine cond_ndec (fun _=>signs_s k (by omega) ?_) (fun g=>absurd g he)
  rw[cond_true]
  refine lists_s k (by omega) ?_
  rw[cond_true]
  rfl
 cases hok:dirB d.f0 d.f1 d.f2 d.f3 with
 | false=>rw[cond_false];simpa using bad 70 (by decide)
 | true=>
  rw[cond_true]
  have hF:DirF d:=dirOk_iff.1 hok
  cases hkb:keyB key with
  | false=>rw[cond_false];simpa using bad 80 (by decide)
  | true=>
   rw[cond_true]
   refine cond_ndec (fun e=>absurd rfl e) (fun _=>signs_s k (by omega) ?_)
   rw[cond_true]
   refine lists_s k (by omega) ?_
   rw[cond_true]
   have h1:=hF.hl
   have h2:=hF.e
   refine cond_dec (fun _=>Chain_s k hh hF.hd (by omega) hkb (by omega) (by first|rfl|trivial|decide)) (fun e=>absurd (by rw[List.length_map]) e)
theorem bigDir_s(k:Nat){e:Int}{us:List S_api_User}{hs:List S_api_Head}{ss:List S_api_Session}{K:Bool->Prop}(hk:5100<=k)(h:∀ b,(b=false->Small us hs ss)->K b):F_r08_BigDirectory k e us hs ss K:=by
 obtain⟨k,rfl⟩:∃ m,k=m+1:=⟨k-1,by omega⟩
 rw[F_r08_BigDirectory]
 simp only[Hold_eq]
 have tr:K true:=h true fun e=>by cases e
 refine cond_dec (fun h1=>tr) (fun h1=>cond_dec (fun h2=>tr) (fun h2=>cond_dec (fun h3=>tr) (fun h3=>?_)))
 refine big_loop (by omega) us.length 0 0 k (by omega) (by omega) (by omega) (fun i hi hij=>by omega) fun b hb=>h _ fun e=>⟨by omega,by omega,by omega,hb e⟩
section
variable {d x:S_api_Directory} {one two:Int} {key:ByteArray}
theorem sgn_nil(h:(sgn key d [] one).2.2=0):sgn key d [] one=(sgnX key d one,true,0)/\(sgnX key d one).f0.f0=one:=by
 obtain⟨h1,h2,h3,h4⟩:=sgn_ok h
 exact⟨h4,(sgnX_of h1 h2 ⟨h3.1,h3.2.1⟩).2⟩
theorem sgn_since(hs:Since d x)(h:(sgn key d [] one).2.2=0):sgn key x [] one=sgn key d [] one:=by
 obtain⟨h1,h2,h3,h4⟩:=sgn_ok h
 have hle:=hs.h.length_le
 have:sgnX key x one=sgnX key d one:=by
  unfold sgnX
  rw[prefix_getD hs.h (by have:=h3.1;have:=h3.2.1;omega)]
 rw[h4,sgn_of hs.f h2 ⟨h3.1,by have:=h3.2.1;omega,RU_zero _⟩,this]
theorem agrees15(k:Nat)(h:Kept d x)(hk:3000000<=k)(a b c:S_api_Signed×Bool×Int)(ha:a=sgn key d [] one)(hb:b=sgn key x [] two)(hc:c=sgn key x [] one) :
  C_l19_SignerAgrees_15 k a.2.2 b.2.2 c.2.2 a.1.f0.f0 a.1.f0.f1 a.1.f0.f2 a.1.f1 b.1.f0.f0 b.1.f0.f1 b.1.f0.f2 b.1.f1 c.1.f0.f0 c.1.f0.f1 c.1.f0.f2 c.1.f1 (fun b=>b=true):=by
 obtain⟨k,rfl⟩:∃ m,k=m+1:=⟨k-1,by omega⟩
 rw[C_l19_SignerAgrees_15]
 simp only[Hold_eq]
 refine cond_ndec (fun hE=>signs_s k (by omega) ?_) (fun hE=>?_)
 ·rw[ha] at hE ⊢
  rw[(sgn_bad hE).1,cond_true]
  refine lists_s k (by omega) ?_
  rw[cond_true]
  exact eqS_refl G0
 ·rw[ha] at hE
  have hs:=h.s (sgn_ok hE).1
  have e1:c=a:=by rw[hc,ha];exact sgn_since hs hE
  subst e1
  rw[ha]
  refine cond_ndec (fun e=>absurd hE e) (fun _=>cond_nb (fun e=>?_) (fun _=>signs_s k (by omega) ?_))
  ·have:eqS (sgn key d [] one).1 (sgn key d [] one).1=false:=e
   rw[eqS_refl] at this;cases this
  ·rw[cond_true]
   refine lists_s k (by omega) ?_
   rw[cond_true]
   refine cond_ndec (fun _=>(by first|rfl|trivial|decide)) (fun hf=>Agree_s k (by simp) (by simp) (by simp;omega) ?_)
   rw[hb] at hf ⊢
   obtain⟨a1,a2⟩:=sgn_nil hE
   obtain⟨b1,b2⟩:=sgn_nil hf
   rw[<-sgn_since hs hE,b1]
   have hE2:(sgn key x [] one).2.2=0:=by rw[sgn_since hs hE];exact hE
   obtain⟨c1,c2⟩:=sgn_nil hE2
   rw[c1]
   show agreeB [sgnX key x one] [sgnX key x two]=true
   unfold agreeB pairB
   simp only[List.all_cons,List.all_nil,Bool.and_true]
   by_cases e:(sgnX key x one).f0.f0=(sgnX key x two).f0.f0
   ·rw[decide_eq_true e,cond_true]
    rw[c2,b2] at e
    subst e
    unfold headEq
    simp
   ·rw[decide_eq_false e,cond_false]
end
theorem agrees12(k:Nat){d x:S_api_Directory}{one two:Int}{key:ByteArray}(h:Kept d x)(hd:DIn d)(hx:DIn x)(hk:4000000<=k):C_l19_SignerAgrees_12 k key one two d.f0 d.f1 d.f2 d.f3 x.f0 x.f1 x.f2 x.f3 (fun b=>b=true):=by
 obtain⟨k,rfl⟩:∃ m,k=m+3:=⟨k-3,by omega⟩
 rw[C_l19_SignerAgrees_12]
 simp only[Hold_eq]
 refine Sign_s (l:=[]) (k+2) hd (by simp) (by omega) ?_
 unfold sK
 dsimp only
 rw[C_l19_SignerAgrees_13]
 simp only[Hold_eq]
 refine Sign_s (l:=[]) (k+1) hx (by simp) (by omega) ?_
 unfold sK
 dsimp only
 rw[C_l19_SignerAgrees_14]
 simp only[Hold_eq]
 refine Sign_s (l:=[]) k hx (by simp) (by omega) ?_
 unfold sK
 exact agrees15 k h (by omega) _ _ _ rfl rfl rfl
theorem agrees12_1(k:Nat){d x:S_api_Directory}{one two:Int}{key:ByteArray}(h:Kept d x)(hd:DIn d)(hx:DIn x)(hk:4000000<=k):C_l19_SignerAgrees_12_1 k key one two d.f0 d.f1 d.f2 d.f3 x.f0 x.f1 x.f2 x.f3 (fun b=>b=true):=by
 obtain⟨k,rfl⟩:∃ m,k=m+3:=⟨k-3,by omega⟩
 rw[C_l19_SignerAgrees_12_1]
 simp only[Hold_eq]
 refine Sign_s (l:=[]) (k+2) hd (by simp) (by omega) ?_
 unfold sK
 dsimp only
 rw[C_l19_SignerAgrees_13_1]
 simp only[Hold_eq]
 refine Sign_s (l:=[]) (k+1) hx (by simp) (by omega) ?_
 unfold sK
 dsimp only
 rw[C_l19_SignerAgrees_14_1]
 simp only[Hold_eq]
 refine Sign_s (l:=[]) k hx (by simp) (by omega) ?_
 unfold sK
 exact agrees15 k h (by omega) _ _ _ rfl rfl rfl
theorem DIn.step{x:S_api_Directory}{c:S_api_Command}(h:HsOk x):DIn (apR x c):=DIn.ap h
theorem agrees5_1{d:S_api_Directory}{one two:Int}{key:ByteArray}(hd:DIn d){l:List S_api_Command}(hl:l.length<=40):∀ (m j k:Nat) {x:S_api_Directory},j+m=l.length->5*m+4000100<=k->Kept d x->DIn x →
  C_l19_SignerAgrees_5_1 k key l one two (j:Int) d.f0 d.f1 d.f2 d.f3 x.f0 x.f1 x.f2 x.f3 (fun b=>b=true):=by
 intro m
 induction m with
 | zero=>
  intro j k x hj hk h hx
  obtain⟨k,rfl⟩:∃ m,k=m+1:=⟨k-1,by omega⟩
  rw[C_l19_SignerAgrees_5_1]
  simp only[Hold_eq]
  exact cond_dec (fun e=>by omega) (fun _=>agrees12 k h hd hx (by omega))
 | succ m ih=>
  intro j k x hj hk h hx
  obtain⟨k,rfl⟩:∃ m,k=m+5:=⟨k-5,by omega⟩
  have hjl:j<l.length:=by omega
  rw[C_l19_SignerAgrees_5_1]
  simp only[Hold_eq]
  refine cond_dec (fun _=>?_) (fun e=>by omega)
  rw[C_l19_SignerAgrees_7_1]
  simp only[Hold_eq]
  rw[Int.toNat_natCast]
  refine bigDir_s (k+3) (by omega) fun b hb=>cond_b (fun _=>(by first|rfl|trivial|decide)) (fun g=>⟨⟨by omega,by omega⟩,cond_dec (fun _=>(by first|rfl|trivial|decide)) (fun _=>⟨⟨by omega,by omega⟩,cond_dec (fun _=>(by first|rfl|trivial|decide)) (fun _=>?_)⟩)⟩)
  rw[C_l19_SignerAgrees_9_1]
  simp only[Hold_eq]
  rw[Int.toNat_natCast]
  refine⟨⟨by omega,by omega⟩,Apply_s (k+2) (c:=l.getD j C0) hx (by omega) ?_⟩
  rw[C_l19_SignerAgrees_10_1]
  simp only[Hold_eq]
  refine cond_dec (fun hE=>?_) (fun _=>?_)<;>rw[C_l19_SignerAgrees_6]<;>simp only[Hold_eq]<;>rw[step64 j (by omega)]
  ·exact ih (j+1) k (by omega) (by omega) (h.step hE) (DIn.ap h.h)
  ·exact ih (j+1) k (by omega) (by omega) h hx
theorem agrees5{d:S_api_Directory}{one two:Int}{key:ByteArray}(hd:DIn d){l:List S_api_Command}(hl:l.length<=40):∀ (m j k:Nat) {x:S_api_Directory},j+m=l.length->5*m+4000100<=k->Kept d x->DIn x →
  C_l19_SignerAgrees_5 k key l one two (j:Int) d.f0 d.f1 d.f2 d.f3 x.f0 x.f1 x.f2 x.f3 (fun b=>b=true):=by
 intro m
 induction m with
 | zero=>
  intro j k x hj hk h hx
  obtain⟨k,rfl⟩:∃ m,k=m+1:=⟨k-1,by omega⟩
  rw[C_l19_SignerAgrees_5]
  simp only[Hold_eq]
  exact cond_dec (fun e=>by omega) (fun _=>agrees12_1 k h hd hx (by omega))
 | succ m ih=>
  intro j k x hj hk h hx
  obtain⟨k,rfl⟩:∃ m,k=m+5:=⟨k-5,by omega⟩
  have hjl:j<l.length:=by omega
  rw[C_l19_SignerAgrees_5]
  simp only[Hold_eq]
  refine cond_dec (fun _=>?_) (fun e=>by omega)
  rw[C_l19_SignerAgrees_7]
  simp only[Hold_eq]
  rw[Int.toNat_natCast]
  refine bigDir_s (k+3) (by omega) fun b hb=>cond_b (fun _=>(by first|rfl|trivial|decide)) (fun g=>⟨⟨by omega,by omega⟩,cond_dec (fun _=>(by first|rfl|trivial|decide)) (fun _=>⟨⟨by omega,by omega⟩,cond_dec (fun _=>(by first|rfl|trivial|decide)) (fun _=>?_)⟩)⟩)
  rw[C_l19_SignerAgrees_9]
  simp only[Hold_eq]
  rw[Int.toNat_natCast]
  refine⟨⟨by omega,by omega⟩,Apply_s (k+2) (c:=l.getD j C0) hx (by omega) ?_⟩
  rw[C_l19_SignerAgrees_10]
  simp only[Hold_eq]
  refine cond_dec (fun hE=>?_) (fun _=>?_)
  ·rw[C_l19_SignerAgrees_6]
   simp only[Hold_eq]
   rw[step64 j (by omega)]
   exact agrees5_1 hd hl m (j+1) k (by omega) (by omega) (h.step hE) (DIn.ap h.h)
  ·rw[C_l19_SignerAgrees_6_1]
   simp only[Hold_eq]
   rw[step64 j (by omega)]
   exact ih (j+1) k (by omega) (by omega) h hx
theorem Agrees_s(k:Nat){d:S_api_Directory}{l:List S_api_Command}{one two:Int}{key:ByteArray}(hh:HsOk d)(hk:5000000<=k):F_l19_SignerAgrees k key d.f0 d.f1 d.f2 d.f3 l one two (fun b=>b=true):=by
 obtain⟨k,rfl⟩:∃ m,k=m+1:=⟨k-1,by omega⟩
 rw[F_l19_SignerAgrees]
 simp only[Hold_eq]
 refine large19_s k (by omega) fun b hb=>cond_b (fun _=>(by first|rfl|trivial|decide)) (fun g=>cond_dec (fun _=>(by first|rfl|trivial|decide)) (fun hl=>?_))
 have hd:DIn d:=Small.din (hb g).1 hh
 exact agrees5 hd (by omega) l.length 0 k (by omega) (by omega) ⟨hh,Since.refl⟩ hd
end Go.V
