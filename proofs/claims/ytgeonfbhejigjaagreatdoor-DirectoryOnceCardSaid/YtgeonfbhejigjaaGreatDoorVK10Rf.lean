import Derived.Test.YtgeonfbhejigjaaGreatDoorVK10Re
set_option linter.unusedVariables false
set_option linter.unusedSimpArgs false
set_option maxRecDepth 4000
namespace Go.V
theorem Small.din{d:S_api_Directory}(h:Small d.f1 d.f2 d.f3)(hh:HsOk d):DIn d:=⟨fun u hu=>by have:=h.v u hu;omega,hh,by have:=h.h;omega,by have:=h.s;omega⟩
theorem dOk_s(k:Nat){d:S_api_Directory}{K:Int->Prop}(hF:DirF d)(hh:HsOk d)(hk:900000<=k)(h:K 0):F_directory_Check k d.f0 d.f1 d.f2 d.f3 K:=by
 have hd:=hF.din hh
 refine Check_s k hd.v hd.h hd.hn hd.sn hk ?_
 have:dirB d.f0 d.f1 d.f2 d.f3=true:=dirOk_iff.2 hF
 rw[this]
 exact h
theorem s_mem{ss:List S_api_Session}(hs:SSrt ss){c:Int}{x:S_api_Session}:(sHas ss c=true/\ss.getD (sPos ss c) S0=x)↔(x∈ss/\x.f0=c):=by
 constructor
 ·rintro⟨h,rfl⟩
  obtain⟨h1,h2⟩:=sHas_lt h
  rw[getD_at h1] at h2 ⊢
  exact⟨List.getElem_mem h1,h2⟩
 ·rintro⟨h1,h2⟩
  obtain⟨lo,hi,g1,g2,s1,s2,hp,⟨y,hy,e,hh,hl⟩|⟨e,hh⟩⟩:=s_split hs c
  ·refine⟨hh,?_⟩
   rw[hl]
   exact sd_one (key:=sKey) ordI (SSrt_iff.1 hs) (by rw[e];simp) h1 (hy.trans h2.symm)
  ·rw[e] at h1
   rcases List.mem_append.1 h1 with h|h
   ·have:=g1 x h;omega
   ·have:=g2 x h;omega
theorem rqOld_iff{ss:List S_api_Session}(hs:SSrt ss){c s:Int}:rqOld ss c s↔∃ x,x∈ss/\x.f0=c/\s<=x.f1:=by
 unfold rqOld
 constructor
 ·rintro⟨h1,h2⟩
  obtain⟨g1,g2⟩:=(s_mem hs).1 ⟨h1,rfl⟩
  exact⟨_,g1,g2,h2⟩
 ·rintro⟨x,h1,h2,h3⟩
  obtain⟨g1,g2⟩:=(s_mem hs).2 ⟨h1,h2⟩
  exact⟨g1,by rw[g2];exact h3⟩
theorem rqE_iff{ss:List S_api_Session}(hs:SSrt ss){c s:Int}:rqE ss c s=0↔∀ x,x∈ss->x.f0=c->x.f1<=s:=by
 unfold rqE
 constructor
 ·intro h x h1 h2
  obtain⟨g1,g2⟩:=(s_mem hs).2 ⟨h1,h2⟩
  by_cases g:sHas ss c=true/\s<(ss.getD (sPos ss c) S0).f1
  ·rw[if_pos g] at h;cases h
  ·rw[g2] at g
   exact Int.not_lt.1 fun e=>g ⟨g1,e⟩
 ·intro h
  refine if_neg fun g=>?_
  obtain⟨g1,g2⟩:=(s_mem hs).1 ⟨g.1,rfl⟩
  have:=h _ g1 g2
  have:=g.2
  omega
theorem rqS_mem{ep:Int}{us:List S_api_User}{ss:List S_api_Session}{kd c s:Int}{n key:ByteArray}(hs:SSrt ss)(h:¬rqOld ss c s)(x:S_api_Session):x∈rqS ep us ss kd c s n key↔(x=S_api_Session.mk c s (addE ep us n kd key) ep\/(x∈ss/\x.f0≠c)):=by
 obtain⟨lo,hi,h1,h2,s1,s2,ea,g⟩:=rq_split (ep:=ep) (us:=us) (kd:=kd) (n:=n) (key:=key) hs h
 rw[ea]
 have no:∀ y,y∈lo\/y∈hi->y.f0≠c:=by
  rintro y (hy|hy) e
  ·have:=h1 y hy;omega
  ·have:=h2 y hy;omega
 simp only[List.mem_append,List.mem_cons]
 rcases g with ⟨z,hz,rfl⟩|rfl
 ·simp only[List.mem_append,List.mem_cons]
  constructor
  ·rintro (g|rfl|g)
   ·exact .inr ⟨.inl g,no _ (.inl g)⟩
   ·exact .inl rfl
   ·exact .inr ⟨.inr (.inr g),no _ (.inr g)⟩
  ·rintro (rfl|⟨g|rfl|g,h7⟩)
   ·exact .inr (.inl rfl)
   ·exact .inl g
   ·exact absurd hz h7
   ·exact .inr (.inr g)
 ·simp only[List.mem_append]
  constructor
  ·rintro (g|rfl|g)
   ·exact .inr ⟨.inl g,no _ (.inl g)⟩
   ·exact .inl rfl
   ·exact .inr ⟨.inr g,no _ (.inr g)⟩
  ·rintro (rfl|⟨g|g,h⟩)
   ·exact .inr (.inl rfl)
   ·exact .inl g
   ·exact .inr (.inr g)
theorem rqS_own{ep:Int}{us:List S_api_User}{ss:List S_api_Session}{kd c s:Int}{n key:ByteArray}(hs:SSrt ss)(h:rqE ss c s=0):∃ x,x∈rqS ep us ss kd c s n key/\x.f0=c/\x.f1=s:=by
 by_cases g:rqOld ss c s
 ·obtain⟨x,h1,h2,h3⟩:=(rqOld_iff hs).1 g
  have:=(rqE_iff hs).1 h x h1 h2
  refine⟨x,?_,h2,by omega⟩
  unfold rqS;rw[if_pos g];exact h1
 ·exact⟨_,(rqS_mem hs g _).2 (.inl rfl),rfl,rfl⟩
theorem once14_s(k:Nat){x:S_api_Directory}{c:S_api_Command}(hx:DirF x)(hh:HsOk x)(hk2:1<=c.f0/\c.f0<=3)(hs:∃ y,y∈x.f3/\y.f0=c.f1/\y.f1=c.f2)(hk:2000000<=k) :
  C_l10_DirectoryOnce_14 k c.f0 c.f1 c.f2 c.f3 c.f4 c.f5 c.f6 x.f0 x.f1 x.f2 x.f3 (fun b=>b=true):=by
 obtain⟨k,rfl⟩:∃ m,k=m+1:=⟨k-1,by omega⟩
 rw[C_l10_DirectoryOnce_14]
 simp only[Hold_eq]
 obtain⟨y,y1,y2,y3⟩:=hs
 refine Apply_s k (hx.din hh) (by omega) (works_s k (by omega) ?_)
 rw[cond_true]
 refine fresh_s k (by omega) ?_
 rw[cond_true]
 by_cases hm:mayCmd c=true
 ·have hE0:rqE x.f3 c.f1 c.f2=0:=(rqE_iff hx.ss).2 fun z h1 h2=>by
   have:z=y:=sd_one (key:=sKey) ordI (SSrt_iff.1 hx.ss) h1 y1 (h2.trans y2.symm)
   rw[this,y3];exact Int.le_refl _
  have hO:rqOld x.f3 c.f1 c.f2:=(rqOld_iff hx.ss).2 ⟨y,y1,y2,by omega⟩
  have hE:apE x c=0:=by unfold apE;rw[if_pos ⟨dirOk_iff.2 hx,hm⟩,if_neg (by omega),if_neg (by omega),hE0]
  have hR:apR x c=x:=by rw[apR_rq hE hk2];unfold rqU rqS;rw[if_pos hO,if_pos hO]
  rw[hE,hR]
  exact cond_dec (fun e=>by omega) (fun _=>cond_dec (fun _=>same_s hx.small k (by omega) (by first|rfl|trivial|decide)) (fun e=>absurd rfl e))
 ·have hE:apE x c=70:=by unfold apE;rw[if_neg fun h=>hm h.2]
  rw[hE]
  refine cond_dec (fun _=>directory_May_s k (by omega) ?_) (fun e=>absurd rfl e)
  rw[show mayC c.f0 c.f1 c.f2 c.f3 c.f4 c.f5 c.f6=false from Bool.eq_false_iff.2 hm]
  exact trivial
theorem Once_s(k:Nat){d:S_api_Directory}{c:S_api_Command}{u key:ByteArray}(hh:HsOk d)(hk:3000000<=k) :
  F_l10_DirectoryOnce k d.f0 d.f1 d.f2 d.f3 c.f0 c.f1 c.f2 c.f3 c.f4 c.f5 c.f6 u key (fun b=>b=true):=by
 obtain⟨k,rfl⟩:∃ m,k=m+1:=⟨k-1,by omega⟩
 rw[F_l10_DirectoryOnce]
 simp only[Hold_eq]
 refine large_s k (by omega) fun b hb=>cond_b (fun _=>(by first|rfl|trivial|decide)) (fun g=>cond_dec (fun _=>(by first|rfl|trivial|decide)) (fun _=>cond_dec (fun _=>(by first|rfl|trivial|decide)) (fun _=>?_)))
 have hd:DIn d:=Small.din (hb g) hh
 refine Apply_s k hd (by omega) (cond_ndec (fun hE=>works_s k (by omega) ?_) (fun hE=>?_))
 ·rw[apR_bad hE,cond_true]
  refine fresh_s k (by omega) ?_
  rw[cond_true]
  exact cond_dec (fun _=>(by first|rfl|trivial|decide)) (fun e=>absurd rfl e)
 ·obtain⟨hx,hle,hp⟩:=ap_ok hE
  have hhx:HsOk (apR d c):=hh.ap
  refine dOk_s k hx hhx (by omega) (cond_ndec (fun e=>absurd rfl e) (fun _=>cond_dec (fun e=>by omega) (fun _=>cond_dec (fun e=>by have:=hp.length_le;omega) (fun _=>?_))))
  obtain⟨hF,hm,hkind⟩:=apE_ok hE
  refine cond_dec (fun h0=>?_) (fun h0=>?_)
  ·refine Apply_s k (hx.din hhx) (by omega) (works_s k (by omega) ?_)
   rw[cond_true]
   refine fresh_s k (by omega) ?_
   rw[cond_true]
   have hg:dirOk (apR d c)=true/\mayCmd c=true:=⟨dirOk_iff.2 hx,hm⟩
   rcases hkind with ⟨h4,h5⟩|⟨h5,hi⟩|⟨k1,k2,k3⟩
   ·have:apE (apR d c) c=72:=by
     unfold apE
     rw[if_pos hg,if_pos h4,if_neg (by rw[apR_seal hE h4];show ¬c.f5=c.f5+1;omega)]
    rw[this]
    exact cond_dec (fun _=>(by first|rfl|trivial|decide)) (fun e=>absurd rfl e)
   ·have:apE (apR d c) c=73:=by
     unfold apE
     rw[if_pos hg,if_neg (by omega),if_pos h5,if_neg ?_]
     rintro⟨g1,-⟩
     rw[apR_int hE h5] at g1
     have e:c.f5=((d.f2++[S_api_Head.mk c.f5 c.f6 (prevL d.f2 d.f2.length)]).length:Int)+1:=g1
     rw[List.length_append,List.length_singleton] at e
     have:=hi.1
     omega
    rw[this]
    exact cond_dec (fun e=>by cases e) (fun _=>(by first|rfl|trivial|decide))
   ·have:=(may_rq hm ⟨k1,k2⟩).1
    omega
  ·have hk3:1<=c.f0/\c.f0<=3:=by
    rcases hkind with ⟨h4,h5⟩|⟨h5,hi⟩|⟨k1,k2,k3⟩
    ·exact absurd (may_ep hm (.inl h4)).1 h0
    ·exact absurd (may_ep hm (.inr h5)).1 h0
    ·exact⟨k1,k2⟩
   have hz:rqE d.f3 c.f1 c.f2=0:=by
    rcases hkind with ⟨h4,h5⟩|⟨h5,hi⟩|⟨k1,k2,k3⟩
    ·omega
    ·omega
    ·exact k3
   have own:∃ y,y∈(apR d c).f3/\y.f0=c.f1/\y.f1=c.f2:=by
    rw[apR_rq hE hk3]
    exact rqS_own hF.ss hz
   refine cond_ndec (fun _=>?_) (fun _=>?_)
   ·exact once14_s k (c:=S_api_Command.mk c.f0 c.f1 c.f2 u key c.f5 c.f6) hx hhx hk3 own (by omega)
   ·exact once14_s k (c:=S_api_Command.mk c.f0 c.f1 c.f2 u c.f4 c.f5 c.f6) hx hhx hk3 own (by omega)
theorem addU_mem{ep:Int}{us:List S_api_User}{n:ByteArray}{kd:Int}{key:ByteArray}(hu:USrt us)(hl:us.length<=64)(h:addE ep us n kd key=0)(x:S_api_User):x∈addU ep us n kd key↔(x=S_api_User.mk n (hist us n++[addV ep kd key])\/(x∈us/\x.f0≠n)):=by
 obtain⟨g1,g2,g3,lo,hi,h1,h2,s1,s2,ea,g⟩:=add_split hu hl h
 rw[ea]
 have no:=USrt.not_mem h1 h2
 generalize S_api_User.mk n (hist us n++[addV ep kd key])=N
 simp only[List.mem_append,List.mem_cons]
 rcases g with ⟨z,hz,e,-⟩|⟨e,-⟩
 ·rw[e]
  simp only[List.mem_append,List.mem_cons]
  constructor
  ·rintro (g|rfl|g)
   ·exact .inr ⟨.inl g,no _ (.inl g)⟩
   ·exact .inl rfl
   ·exact .inr ⟨.inr (.inr g),no _ (.inr g)⟩
  ·rintro (rfl|⟨g|rfl|g,h7⟩)
   ·exact .inr (.inl rfl)
   ·exact .inl g
   ·exact absurd hz h7
   ·exact .inr (.inr g)
 ·rw[e]
  simp only[List.mem_append]
  constructor
  ·rintro (g|rfl|g)
   ·exact .inr ⟨.inl g,no _ (.inl g)⟩
   ·exact .inl rfl
   ·exact .inr ⟨.inr g,no _ (.inr g)⟩
  ·rintro (rfl|⟨g|g,h⟩)
   ·exact .inr (.inl rfl)
   ·exact .inl g
   ·exact .inr (.inr g)
theorem addU_srt{ep:Int}{us:List S_api_User}{n:ByteArray}{kd:Int}{key:ByteArray}(hu:USrt us)(hl:us.length<=64):USrt (addU ep us n kd key):=by
 by_cases h:addE ep us n kd key=0
 ·obtain⟨g1,g2,g3,lo,hi,h1,h2,s1,s2,ea,g⟩:=add_split hu hl h
  rw[ea]
  exact USrt.mid h1 h2 s1 s2 rfl
 ·unfold addU;rw[if_neg h];exact hu
theorem hist_eq{us vs:List S_api_User}(hu:USrt us)(hv:USrt vs){n:ByteArray}(h:∀ x:S_api_User,x.f0=n->(x∈us↔x∈vs)):hist us n=hist vs n/\uHas us n=uHas vs n:=by
 by_cases g:∃ x,x∈us/\x.f0=n
 ·obtain⟨x,hx,rfl⟩:=g
  have h1:=hist_of hu hx
  have h2:=hist_of hv ((h x rfl).1 hx)
  exact⟨h1.1.trans h2.1.symm,h1.2.trans h2.2.symm⟩
 ·have h1:=hist_no hu fun x hx e=>g ⟨x,hx,e⟩
  have h2:=hist_no hv fun x hx e=>g ⟨x,(h x e).2 hx,e⟩
  exact⟨h1.1.trans h2.1.symm,h1.2.trans h2.2.symm⟩
theorem addU_other{ep:Int}{us:List S_api_User}{n m:ByteArray}{kd:Int}{key:ByteArray}(hu:USrt us)(hl:us.length<=64)(hn:m≠n):hist (addU ep us n kd key) m=hist us m/\uHas (addU ep us n kd key) m=uHas us m:=by
 refine hist_eq (addU_srt hu hl) hu fun x hx=>?_
 by_cases h:addE ep us n kd key=0
 ·rw[addU_mem hu hl h]
  refine⟨fun g=>?_,fun g=>.inr ⟨g,by rw[hx];exact hn⟩⟩
  rcases g with rfl|g
  ·exact absurd hx.symm hn
  ·exact g.1
 ·unfold addU;rw[if_neg h]
end Go.V
