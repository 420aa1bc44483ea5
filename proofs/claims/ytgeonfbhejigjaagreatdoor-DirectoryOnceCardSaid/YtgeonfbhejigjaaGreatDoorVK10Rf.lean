import Derived.Test.YtgeonfbhejigjaaGreatDoorVK10Re
set_option linter.unusedVariables false
set_option linter.unusedSimpArgs false
set_option maxRecDepth 4000
namespace Go.V
theorem Small.din{d:S_api_Directory}(h:Small d.f1 d.f2 d.f3)(hh:HsOk d):DIn d:=⟨fun u hu=>by have:=h.v u hu;omega,hh,by have:=h.h;omega,by have:=h.s;omega⟩
theorem dOk_s(k:Nat){d:S_api_Directory}{K:Int->Prop}(hF:DirF d)(hh:HsOk d)(hk:900000<=k)(h:K 0):F_directory_Check k d.f0 d.f1 d.f2 d.f3 K:=by
 have hd:=hF.din hh
 refine Check_s k hd.v hd.h hd.hn hd.sn hk ?_
 have:dirB d.f0 d.f1 d.f2 d.f3=true:=dirOk_iff.2 hF
 rw[this]
 exact h
theorem s_mem{ss:List S_api_Session}(hs:SSrt ss){c:Int}{x:S_api_Session}:(sHas ss c=true/\ss.getD (sPos ss c) S0=x)↔(x∈ss/\x.f0=c):=by
 constructor
 ·rintro⟨h,rfl⟩
  obtain⟨h1,h2⟩:=sHas_lt h
  rw[getD_at h1] at h2 ⊢
  exact⟨List.getElem_mem h1,h2⟩
 ·rintro⟨h1,h2⟩
  obtain⟨lo,hi,g1,g2,s1,s2,hp,⟨y,hy,e,hh,hl⟩|⟨e,hh⟩⟩:=s_split hs c
  ·refine⟨hh,?_⟩
   rw[hl]
   exact sd_one (key:=sKey) ordI (SSrt_iff.1 hs) (by rw[e];simp) h1 (hy.trans h2.symm)
  ·rw[e] at h1
   rcases List.mem_append.1 h1 with h|h
   ·have:=g1 x h;omega
   ·have:=g2 x h;omega
theorem rqOld_iff{ss:List S_api_Session}(hs:SSrt ss){c s:Int}:rqOld ss c s↔∃ x,x∈ss/\x.f0=c/\s<=x.f1:=by
 unfold rqOld
 constructor
 ·rintro⟨h1,h2⟩
  obtain⟨g1,g2⟩:=(s_mem hs).1 ⟨h1,rfl⟩
  exact⟨_,g1,g2,h2⟩
 ·rintro⟨x,h1,h2,h3⟩
  obtain⟨g1,g2⟩:=(s_mem hs).2 ⟨h1,h2⟩
  exact⟨g1,by rw[g2];exact h3⟩
theorem rqE_iff{ss:List S_api_Session}(hs:SSrt ss){c s:Int}:rqE ss c s=0↔∀ x,x∈ss->x.f0=c->x.f1<=s:=by
 unfold rqE
 constructor
 ·intro h x h1 h2
  obtain⟨g1,g2⟩:=(s_mem hs).2 ⟨h1,h2⟩
  by_cases g:sHas ss c=true/\s<(ss.getD (sPos ss c) S0).f1
  ·rw[if_pos g] at h;cases h
  ·rw[g2] at g
   exact Int.not_lt.1 fun e=>g ⟨g1,e⟩
 ·intro h
  refine if_neg fun g=>?_
  obtain⟨g1,g2⟩:=(s_mem hs).1 ⟨g.1,rfl⟩
  have:=h _ g1 g2
  have:=g.2
  omega
theorem rqS_mem{ep:Int}{us:List S_api_User}{ss:List S_api_Session}{kd c s:Int}{n key:ByteArray}(hs:SSrt ss)(h:¬rqOld ss c s)(x:S_api_Session):x∈rqS ep us ss kd c s n key↔(x=S_api_Session.mk c s (addE ep us n kd key) ep\/(x∈ss/\x.f0≠c)):=by
 obtain⟨lo,hi,h1,h2,s1,s2,ea,g⟩:=rq_split (ep:=ep) (us:=us) (kd:=kd) (n:=n) (key:=key) hs h
 rw[ea]
 have no:∀ y,y∈lo\/y∈hi->y.f0≠c:=by
  rintro y (hy|hy) e
  ·have:=h1 y hy;omega
  ·have:=h2 y hy;omega
 simp only[List.mem_append,List.mem_cons]
 rcases g with ⟨z,hz,rfl⟩|rfl
 ·simp only[List.mem_append,List.mem_cons]
  constructor
  ·rintro (g|rfl|g)
   ·exact .inr ⟨.inl g,no _ (.inl g)⟩
   ·exact .inl rfl
   ·exact .inr ⟨.inr (.inr g),no _ (.inr g)⟩
  ·rintro (rfl|⟨g|rfl|g,h7⟩)
   ·exact .inr (.inl rfl)
   ·exact .inl g
   ·exact absurd hz h7
   ·exact .inr (.inr g)
 ·simp only[List.mem_append]
  constructor
  ·rintro (g|rfl|g)
   ·exact .inr ⟨.inl g,no _ (.inl g)⟩
   ·exact .inl rfl
   ·exact .inr ⟨.inr g,no _ (.inr g)⟩
  ·rintro (rfl|⟨g|g,h⟩)
   ·exact .inr (.inl rfl)
   ·exact .inl g
   ·exact .inr (.inr g)
theorem rqS_srt{ep:Int}{us:List S_api_User}{ss:List S_api_Session}{kd c s:Int}{n key:ByteArray}(hs:SSrt ss):SSrt (rqS ep us ss kd c s n key):=by
 by_cases h:rqOld ss c s
 ·unfold rqS;rw[if_pos h];exact hs
 ·obtain⟨lo,hi,h1,h2,s1,s2,ea,g⟩:=rq_split (ep:=ep) (us:=us) (kd:=kd) (n:=n) (key:=key) hs h
  rw[ea]
  exact SSrt.mid h1 h2 s1 s2 rfl
theorem rqS_own{ep:Int}{us:List S_api_User}{ss:List S_api_Session}{kd c s:Int}{n key:ByteArray}(hs:SSrt ss)(h:rqE ss c s=0):∃ x,x∈rqS ep us ss kd c s n key/\x.f0=c/\x.f1=s:=by
 by_cases g:rqOld ss c s
 ·obtain⟨x,h1,h2,h3⟩:=(rqOld_iff hs).1 g
  have:=(rqE_iff hs).1 h x h1 h2
  refine⟨x,?_,h2,by omega⟩
  unfold rqS;rw[if_pos g];exact h1
 ·exact⟨_,(rqS_mem hs g _).2 (.inl rfl),rfl,rfl⟩
theorem once14_s(k:Nat){x:S_api_Directory}{c:S_api_Command}(hx:DirF x)(hh:HsOk x)(hk2:1<=c.f0/\c.f0<=3)(hs:∃ y,y∈x.f3/\y.f0=c.f1/\y.f1=c.f2)(hk:2000000<=k) :
  C_l10_DirectoryOnce_14 k c.f0 c.f1 c.f2 c.f3 c.f4 c.f5 c.f6 x.f0 x.f1 x.f2 x.f3 (fun b=>b=true):=by
 obtain⟨k,rfl⟩:∃ m,k=m+1:=⟨k-1,by omega⟩
 rw[C_l10_DirectoryOnce_14]
 simp only[Hold_eq]
 obtain⟨y,y1,y2,y3⟩:=hs
 refine Apply_s k (hx.din hh) (by omega) (works_s k (by omega) ?_)
 rw[cond_true]
 refine fresh_s k (by omega) ?_
 rw[cond_true]
 by_cases hm:mayCmd c=true
 ·have hE0:rqE x.f3 c.f1 c.f2=0:=(rqE_iff hx.ss).2 fun z h1 h2=>by
   have:z=y:=sd_one (key:=sKey) ordI (SSrt_iff.1 hx.ss) h1 y1 (h2.trans y2.symm)
   rw[this,y3];exact Int.le_refl _
  have hO:rqOld x.f3 c.f1 c.f2:=(rqOld_iff hx.ss).2 ⟨y,y1,y2,by omega⟩
  have hE:apE x c=0:=by unfold apE;rw[if_pos ⟨dirOk_iff.2 hx,hm⟩,if_neg (by omega),if_neg (by omega),hE0]
  have hR:apR x c=x:=by rw[apR_rq hE hk2];unfold rqU rqS;rw[if_pos hO,if_pos hO]
  rw[hE,hR]
  exact cond_dec (fun e=>by omega) (fun _=>cond_dec (fun _=>same_s hx.small k (by omega) (by first|rfl|trivial|decide)) (fun e=>absurd rfl e))
 ·have hE:apE x c=70:=by unfold apE;rw[if_neg fun h=>hm h.2]
  rw[hE]
  refine cond_dec (fun _=>directory_May_s k (by omega) ?_) (fun e=>absurd rfl e)
  rw[show mayC c.f0 c.f1 c.f2 c.f3 c.f4 c.f5 c.f6=false from Bool.eq_false_iff.2 hm]
  exact trivial
theorem Once_s(k:Nat){d:S_api_Directory}{c:S_api_Command}{u key:ByteArray}(hh:HsOk d)(hk:3000000<=k) :
  F_l10_DirectoryOnce k d.f0 d.f1 d.f2 d.f3 c.f0 c.f1 c.f2 c.f3 c.f4 c.f5 c.f6 u key (fun b=>b=true):=by
 obtain⟨k,rfl⟩:∃ m,k=m+1:=⟨k-1,by omega⟩
 rw[F_l10_DirectoryOnce]
 simp only[Hold_eq]
 refine large_s k (by omega) fun b hb=>cond_b (fun _=>(by first|rfl|trivial|decide)) (fun g=>cond_dec (fun _=>(by first|rfl|trivial|decide)) (fun _=>cond_dec (fun _=>(by first|rfl|trivial|decide)) (fun _=>?_)))
 have hd:DIn d:=Small.din (hb g) hh
 refine Apply_s k hd (by omega) (cond_ndec (fun hE=>works_s k (by omega) ?_) (fun hE=>?_))
 ·rw[apR_bad hE,cond_true]
  refine fresh_s k (by omega) ?_
  rw[cond_true]
  exact cond_dec (fun _=>(by first|rfl|trivial|decide)) (fun e=>absurd rfl e)
 ·obtain⟨hx,hle,hp⟩:=ap_ok hE
  have hhx:HsOk (apR d c):=hh.ap
  refine dOk_s k hx hhx (by omega) (cond_ndec (fun e=>absurd rfl e) (fun _=>cond_dec (fun e=>by omega) (fun _=>cond_dec (fun e=>by have:=hp.length_le;omega) (fun _=>?_))))
  obtain⟨hF,hm,hkind⟩:=apE_ok hE
  refine cond_dec (fun h0=>?_) (fun h0=>?_)
  ·refine Apply_s k (hx.din hhx) (by omega) (works_s k (by omega) ?_)
   rw[cond_true]
   refine fresh_s k (by omega) ?_
   rw[cond_true]
   have hg:dirOk (apR d c)=true/\mayCmd c=true:=⟨dirOk_iff.2 hx,hm⟩
   rcases hkind with ⟨h4,h5⟩|⟨h5,hi⟩|⟨k1,k2,k3⟩
   ·have:apE (apR d c) c=72:=by
     unfold apE
     rw[if_pos hg,if_pos h4,if_neg (by rw[apR_seal hE h4];show ¬c.f5=c.f5+1;omega)]
    rw[this]
    exact cond_dec (fun _=>(by first|rfl|trivial|decide)) (fun e=>absurd rfl e)
   ·have:apE (apR d c) c=73:=by
     unfold apE
     rw[if_pos hg,if_neg (by omega),if_pos h5,if_neg ?_]
     rintro⟨g1,-⟩
     rw[apR_int hE h5] at g1
     have e:c.f5=((d.f2++[S_api_Head.mk c.f5 c.f6 (prevL d.f2 d.f2.length)]).length:Int)+1:=g1
     rw[List.length_append,List.length_singleton] at e
     have:=hi.1
     omega
    rw[this]
    exact cond_dec (fun e=>by cases e) (fun _=>(by first|rfl|trivial|decide))
   ·have:=(may_rq hm ⟨k1,k2⟩).1
    omega
  ·have hk3:1<=c.f0/\c.f0<=3:=by
    rcases hkind with ⟨h4,h5⟩|⟨h5,hi⟩|⟨k1,k2,k3⟩
    ·exact absurd (may_ep hm (.inl h4)).1 h0
    ·exact absurd (may_ep hm (.inr h5)).1 h0
    ·exact⟨k1,k2⟩
   have hz:rqE d.f3 c.f1 c.f2=0:=by
    rcases hkind with ⟨h4,h5⟩|⟨h5,hi⟩|⟨k1,k2,k3⟩
    ·omega
    ·omega
    ·exact k3
   have own:∃ y,y∈(apR d c).f3/\y.f0=c.f1/\y.f1=c.f2:=by
    rw[apR_rq hE hk3]
    exact rqS_own hF.ss hz
   refine cond_ndec (fun _=>?_) (fun _=>?_)
   ·exact once14_s k (c:=S_api_Command.mk c.f0 c.f1 c.f2 u key c.f5 c.f6) hx hhx hk3 own (by omega)
   ·exact once14_s k (c:=S_api_Command.mk c.f0 c.f1 c.f2 u c.f4 c.f5 c.f6) hx hhx hk3 own (by omega)
theorem addU_mem{ep:Int}{us:List S_api_User}{n:ByteArray}{kd:Int}{key:ByteArray}(hu:USrt us)(hl:us.length<=64)(h:addE ep us n kd key=0)(x:S_api_User):x∈addU ep us n kd key↔(x=S_api_User.mk n (hist us n++[addV ep kd key])\/(x∈us/\x.f0≠n)):=by
 obtain⟨g1,g2,g3,lo,hi,h1,h2,s1,s2,ea,g⟩:=add_split hu hl h
 rw[ea]
 have no:=USrt.not_mem h1 h2
 generalize S_api_User.mk n (hist us n++[addV ep kd key])=N
 simp only[List.mem_append,List.mem_cons]
 rcases g with ⟨z,hz,e,-⟩|⟨e,-⟩
 ·rw[e]
  simp only[List.mem_append,List.mem_cons]
  constructor
  ·rintro (g|rfl|g)
   ·exact .inr ⟨.inl g,no _ (.inl g)⟩
   ·exact .inl rfl
   ·exact .inr ⟨.inr (.inr g),no _ (.inr g)⟩
  ·rintro (rfl|⟨g|rfl|g,h7⟩)
   ·exact .inr (.inl rfl)
   ·exact .inl g
   ·exact absurd hz h7
   ·exact .inr (.inr g)
 ·rw[e]
  simp only[List.mem_append]
  constructor
  ·rintro (g|rfl|g)
   ·exact .inr ⟨.inl g,no _ (.inl g)⟩
   ·exact .inl rfl
   ·exact .inr ⟨.inr g,no _ (.inr g)⟩
  ·rintro (rfl|⟨g|g,h⟩)
   ·exact .inr (.inl rfl)
   ·exact .inl g
   ·exact .inr (.inr g)
theorem addU_srt{ep:Int}{us:List S_api_User}{n:ByteArray}{kd:Int}{key:ByteArray}(hu:USrt us)(hl:us.length<=64):USrt (addU ep us n kd key):=by
 by_cases h:addE ep us n kd key=0
 ·obtain⟨g1,g2,g3,lo,hi,h1,h2,s1,s2,ea,g⟩:=add_split hu hl h
  rw[ea]
  exact USrt.mid h1 h2 s1 s2 rfl
 ·unfold addU;rw[if_neg h];exact hu
theorem addU_len{ep:Int}{us:List S_api_User}{n:ByteArray}{kd:Int}{key:ByteArray}(hu:USrt us)(hl:us.length<=64):(addU ep us n kd key).length<=us.length+1:=by
 by_cases h:addE ep us n kd key=0
 ·obtain⟨g1,g2,g3,lo,hi,h1,h2,s1,s2,ea,⟨x,-,e,-⟩|⟨e,-⟩⟩:=add_split hu hl h
  ·rw[ea];conv=>rhs;rw[e]
   simp
  ·rw[ea];conv=>rhs;rw[e]
   simp only[List.length_append,List.length_cons];omega
 ·unfold addU;rw[if_neg h];omega
theorem hist_eq{us vs:List S_api_User}(hu:USrt us)(hv:USrt vs){n:ByteArray}(h:∀ x:S_api_User,x.f0=n->(x∈us↔x∈vs)):hist us n=hist vs n/\uHas us n=uHas vs n:=by
 by_cases g:∃ x,x∈us/\x.f0=n
 ·obtain⟨x,hx,rfl⟩:=g
  have h1:=hist_of hu hx
  have h2:=hist_of hv ((h x rfl).1 hx)
  exact⟨h1.1.trans h2.1.symm,h1.2.trans h2.2.symm⟩
 ·have h1:=hist_no hu fun x hx e=>g ⟨x,hx,e⟩
  have h2:=hist_no hv fun x hx e=>g ⟨x,(h x e).2 hx,e⟩
  exact⟨h1.1.trans h2.1.symm,h1.2.trans h2.2.symm⟩
theorem addU_other{ep:Int}{us:List S_api_User}{n m:ByteArray}{kd:Int}{key:ByteArray}(hu:USrt us)(hl:us.length<=64)(hn:m≠n):hist (addU ep us n kd key) m=hist us m/\uHas (addU ep us n kd key) m=uHas us m:=by
 refine hist_eq (addU_srt hu hl) hu fun x hx=>?_
 by_cases h:addE ep us n kd key=0
 ·rw[addU_mem hu hl h]
  refine⟨fun g=>?_,fun g=>.inr ⟨g,by rw[hx];exact hn⟩⟩
  rcases g with rfl|g
  ·exact absurd hx.symm hn
  ·exact g.1
 ·unfold addU;rw[if_neg h]
theorem addE_other{ep ep2:Int}{us:List S_api_User}{n m:ByteArray}{kd kd2:Int}{key key2:ByteArray}(hu:USrt us)(hl:us.length<63)(hn:m≠n):addE ep2 (addU ep us n kd key) m kd2 key2=addE ep2 us m kd2 key2:=by
 obtain⟨h1,h2⟩:=addU_other (ep:=ep) (kd:=kd) (key:=key) hu (by omega) hn
 have h3:=addU_len (ep:=ep) (n:=n) (kd:=kd) (key:=key) hu (by omega)
 unfold addE
 rw[h1,h2]
 have e1:¬(addU ep us n kd key).length=64:=by omega
 have e2:¬us.length=64:=by omega
 have:(if ep=200 then (2:Int) else if nextE (hist us n) (addV ep kd key)=0 then if uHas us n=true then 0 else if us.length=64 then 2 else 0 else nextE (hist us n) (addV ep kd key))=addE ep us n kd key:=rfl
 rw[if_neg e1,if_neg e2]
theorem addU_comm{ep:Int}{us:List S_api_User}{n m:ByteArray}{kd kd2:Int}{key key2:ByteArray}(hu:USrt us)(hl:us.length<63)(hn:n≠m):addU ep (addU ep us n kd key) m kd2 key2=addU ep (addU ep us m kd2 key2) n kd key:=by
 have e1:addE ep (addU ep us n kd key) m kd2 key2=addE ep us m kd2 key2:=addE_other hu hl (Ne.symm hn)
 have e2:addE ep (addU ep us m kd2 key2) n kd key=addE ep us n kd key:=addE_other hu hl hn
 have l1:=addU_len (ep:=ep) (n:=n) (kd:=kd) (key:=key) hu (by omega)
 have l2:=addU_len (ep:=ep) (n:=m) (kd:=kd2) (key:=key2) hu (by omega)
 have s1:=addU_srt (ep:=ep) (n:=n) (kd:=kd) (key:=key) hu (by omega)
 have s2:=addU_srt (ep:=ep) (n:=m) (kd:=kd2) (key:=key2) hu (by omega)
 have o1:=(addU_other (ep:=ep) (n:=n) (m:=m) (kd:=kd) (key:=key) hu (by omega) (Ne.symm hn)).1
 have o2:=(addU_other (ep:=ep) (n:=m) (m:=n) (kd:=kd2) (key:=key2) hu (by omega) hn).1
 have same:∀ (vs:List S_api_User) (n:ByteArray) (kd:Int) (key:ByteArray),addE ep vs n kd key≠0->addU ep vs n kd key=vs:=fun vs n kd key h=>by unfold addU;rw[if_neg h]
 by_cases g1:addE ep us n kd key=0
 ·by_cases g2:addE ep us m kd2 key2=0
  ·refine sd_ext (key:=uKey) ordS (addU_srt s1 (by omega)) (addU_srt s2 (by omega)) fun x=>?_
   rw[addU_mem s1 (by omega) (e1.trans g2),addU_mem s2 (by omega) (e2.trans g1),addU_mem hu (by omega) g1,addU_mem hu (by omega) g2,o1,o2]
   constructor
   ·rintro (rfl|⟨rfl|⟨h1,h2⟩,h3⟩)
    ·exact .inr ⟨.inl rfl,Ne.symm hn⟩
    ·exact .inl rfl
    ·exact .inr ⟨.inr ⟨h1,h3⟩,h2⟩
   ·rintro (rfl|⟨rfl|⟨h1,h2⟩,h3⟩)
    ·exact .inr ⟨.inl rfl,hn⟩
    ·exact .inl rfl
    ·exact .inr ⟨.inr ⟨h1,h3⟩,h2⟩
  ·rw[same _ m kd2 key2 (by rw[e1];exact g2),same us m kd2 key2 g2]
 ·rw[same us n kd key g1,same _ n kd key (by rw[e2];exact g1)]
theorem rqS_other{ep:Int}{us:List S_api_User}{ss:List S_api_Session}{kd c s c2:Int}{n key:ByteArray}(hs:SSrt ss)(hc:c2≠c)(x:S_api_Session)(hx:x.f0=c2):x∈rqS ep us ss kd c s n key↔x∈ss:=by
 by_cases h:rqOld ss c s
 ·unfold rqS;rw[if_pos h]
 ·rw[rqS_mem hs h]
  refine⟨fun g=>?_,fun g=>.inr ⟨g,by rw[hx];exact hc⟩⟩
  rcases g with rfl|g
  ·exact absurd hx.symm hc
  ·exact g.1
theorem rqOld_other{ep:Int}{us:List S_api_User}{ss:List S_api_Session}{kd c s c2 s2:Int}{n key:ByteArray}(hs:SSrt ss)(hc:c2≠c):rqOld (rqS ep us ss kd c s n key) c2 s2↔rqOld ss c2 s2:=by
 rw[rqOld_iff hs,rqOld_iff (rqS_srt hs)]
 exact⟨fun ⟨x,h1,h2,h3⟩=>⟨x,(rqS_other hs hc x h2).1 h1,h2,h3⟩,fun ⟨x,h1,h2,h3⟩=>⟨x,(rqS_other hs hc x h2).2 h1,h2,h3⟩⟩
theorem rqE_other{ep:Int}{us:List S_api_User}{ss:List S_api_Session}{kd c s c2 s2:Int}{n key:ByteArray}(hs:SSrt ss)(hc:c2≠c):rqE (rqS ep us ss kd c s n key) c2 s2=0↔rqE ss c2 s2=0:=by
 rw[rqE_iff hs,rqE_iff (rqS_srt hs)]
 exact⟨fun h x h1 h2=>h x ((rqS_other hs hc x h2).2 h1) h2,fun h x h1 h2=>h x ((rqS_other hs hc x h2).1 h1) h2⟩
theorem rqU_comm{ep:Int}{us:List S_api_User}{ss:List S_api_Session}{kd c s kd2 c2 s2:Int}{n key n2 key2:ByteArray}(hu:USrt us)(hl:us.length<63)(hs:SSrt ss)(hc:c≠c2)(hn:n≠n2) :
  rqU ep (rqU ep us ss kd c s n key) (rqS ep us ss kd c s n key) kd2 c2 s2 n2 key2=rqU ep (rqU ep us ss kd2 c2 s2 n2 key2) (rqS ep us ss kd2 c2 s2 n2 key2) kd c s n key:=by
 have o1:=rqOld_other (ep:=ep) (us:=us) (kd:=kd) (s:=s) (s2:=s2) (n:=n) (key:=key) hs (Ne.symm hc)
 have o2:=rqOld_other (ep:=ep) (us:=us) (kd:=kd2) (s:=s2) (s2:=s) (n:=n2) (key:=key2) hs hc
 by_cases g1:rqOld ss c s<;>by_cases g2:rqOld ss c2 s2
 ·simp only[rqU,o1,o2,if_pos g1,if_pos g2]
 ·simp only[rqU,o1,o2,if_pos g1,if_neg g2]
 ·simp only[rqU,o1,o2,if_neg g1,if_pos g2]
 ·simp only[rqU,o1,o2,if_neg g1,if_neg g2]
  exact addU_comm hu hl hn
theorem rqU_code{ep:Int}{us:List S_api_User}{ss:List S_api_Session}{kd c s kd2:Int}{n key n2 key2:ByteArray}(hu:USrt us)(hl:us.length<63)(hn:n2≠n):addE ep (rqU ep us ss kd c s n key) n2 kd2 key2=addE ep us n2 kd2 key2:=by
 unfold rqU
 split
 ·rfl
 ·exact addE_other hu hl hn
theorem rqS_comm{ep:Int}{us:List S_api_User}{ss:List S_api_Session}{kd c s kd2 c2 s2:Int}{n key n2 key2:ByteArray}(hu:USrt us)(hl:us.length<63)(hs:SSrt ss)(hc:c≠c2)(hn:n≠n2) :
  rqS ep (rqU ep us ss kd c s n key) (rqS ep us ss kd c s n key) kd2 c2 s2 n2 key2=rqS ep (rqU ep us ss kd2 c2 s2 n2 key2) (rqS ep us ss kd2 c2 s2 n2 key2) kd c s n key:=by
 have o1:=rqOld_other (ep:=ep) (us:=us) (kd:=kd) (s:=s) (s2:=s2) (n:=n) (key:=key) hs (Ne.symm hc)
 have o2:=rqOld_other (ep:=ep) (us:=us) (kd:=kd2) (s:=s2) (s2:=s) (n:=n2) (key:=key2) hs hc
 have same:∀ (vs:List S_api_User) (ts:List S_api_Session) (kd c s:Int) (n key:ByteArray),rqOld ts c s->rqS ep vs ts kd c s n key=ts:=fun vs ts kd c s n key h=>by unfold rqS;rw[if_pos h]
 have e1:=rqU_code (ep:=ep) (ss:=ss) (kd:=kd) (c:=c) (s:=s) (key:=key) (kd2:=kd2) (key2:=key2) hu hl (Ne.symm hn)
 have e2:=rqU_code (ep:=ep) (ss:=ss) (kd:=kd2) (c:=c2) (s:=s2) (key:=key2) (kd2:=kd) (key2:=key) hu hl hn
 by_cases g1:rqOld ss c s
 ·rw[same us ss kd c s n key g1,same _ _ kd c s n key (o2.2 g1)]
  unfold rqU
  rw[if_pos g1]
 ·by_cases g2:rqOld ss c2 s2
  ·rw[same us ss kd2 c2 s2 n2 key2 g2,same _ _ kd2 c2 s2 n2 key2 (o1.2 g2)]
   unfold rqU
   rw[if_pos g2]
  ·refine sd_ext (key:=sKey) ordI (SSrt_iff.1 (rqS_srt (rqS_srt hs))) (SSrt_iff.1 (rqS_srt (rqS_srt hs))) fun x=>?_
   rw[rqS_mem (rqS_srt hs) (fun h=>g2 (o1.1 h)),rqS_mem (rqS_srt hs) (fun h=>g1 (o2.1 h)),rqS_mem hs g1,rqS_mem hs g2,e1,e2]
   constructor
   ·rintro (rfl|⟨rfl|⟨h1,h2⟩,h3⟩)
    ·exact .inr ⟨.inl rfl,Ne.symm hc⟩
    ·exact .inl rfl
    ·exact .inr ⟨.inr ⟨h1,h3⟩,h2⟩
   ·rintro (rfl|⟨rfl|⟨h1,h2⟩,h3⟩)
    ·exact .inr ⟨.inl rfl,hc⟩
    ·exact .inl rfl
    ·exact .inr ⟨.inr ⟨h1,h3⟩,h2⟩
theorem apE_rq{d:S_api_Directory}{c:S_api_Command}(hd:DirF d)(hm:mayCmd c=true)(hk:1<=c.f0/\c.f0<=3):apE d c=rqE d.f3 c.f1 c.f2:=by unfold apE;rw[if_pos ⟨dirOk_iff.2 hd,hm⟩,if_neg (by omega),if_neg (by omega)]
theorem ap_comm{d:S_api_Directory}{a b:S_api_Command}(ha:apE d a=0)(hb:apE d b=0)(a0:a.f1≠0)(b0:b.f1≠0)(hc:a.f1≠b.f1)(hn:a.f3≠b.f3)(hl:d.f1.length<63):apE (apR d a) b=0/\apE (apR d b) a=0/\apR (apR d a) b=apR (apR d b) a:=by
 obtain⟨hF,ma,ka⟩:=apE_ok ha
 obtain⟨-,mb,kb⟩:=apE_ok hb
 have k1:1<=a.f0/\a.f0<=3:=by
  rcases ka with ⟨h4,-⟩|⟨h5,-⟩|h
  ·exact absurd (may_ep ma (.inl h4)).1 a0
  ·exact absurd (may_ep ma (.inr h5)).1 a0
  ·exact⟨h.1,h.2.1⟩
 have k2:1<=b.f0/\b.f0<=3:=by
  rcases kb with ⟨h4,-⟩|⟨h5,-⟩|h
  ·exact absurd (may_ep mb (.inl h4)).1 b0
  ·exact absurd (may_ep mb (.inr h5)).1 b0
  ·exact⟨h.1,h.2.1⟩
 have fa:=(ap_ok ha).1
 have fb:=(ap_ok hb).1
 have za:=(apE_rq hF ma k1).symm.trans ha
 have zb:=(apE_rq hF mb k2).symm.trans hb
 have Eb:apE (apR d a) b=0:=by
  rw[apE_rq fa mb k2,apR_rq ha k1]
  exact (rqE_other hF.ss (Ne.symm hc)).2 zb
 have Ea:apE (apR d b) a=0:=by
  rw[apE_rq fb ma k1,apR_rq hb k2]
  exact (rqE_other hF.ss hc).2 za
 refine⟨Eb,Ea,?_⟩
 rw[apR_rq Eb k2,apR_rq Ea k1,apR_rq ha k1,apR_rq hb k2]
 have h1:=rqU_comm (ep:=d.f0) (kd:=a.f0) (s:=a.f2) (kd2:=b.f0) (s2:=b.f2) (key:=a.f4) (key2:=b.f4) hF.us hl hF.ss hc hn
 have h2:=rqS_comm (ep:=d.f0) (kd:=a.f0) (s:=a.f2) (kd2:=b.f0) (s2:=b.f2) (key:=a.f4) (key2:=b.f4) hF.us hl hF.ss hc hn
 exact congr (congrArg (fun u=>S_api_Directory.mk d.f0 u d.f2) h1) h2
theorem apart2_s(k:Nat)(hk:1000200<=k):C_l10_DirectoryApart_2 k (fun b=>b=true):=by
 obtain⟨k,rfl⟩:∃ m,k=m+1:=⟨k-1,by omega⟩
 rw[C_l10_DirectoryApart_2]
 simp only[Hold_eq]
 exact works_s k (by omega) (by first|rfl|trivial|decide)
theorem Apart_s(k:Nat){d:S_api_Directory}{a b:S_api_Command}(hh:HsOk d)(hk:3000000<=k) :
  F_l10_DirectoryApart k d.f0 d.f1 d.f2 d.f3 a.f0 a.f1 a.f2 a.f3 a.f4 a.f5 a.f6 b.f0 b.f1 b.f2 b.f3 b.f4 b.f5 b.f6 (fun b=>b=true):=by
 obtain⟨k,rfl⟩:∃ m,k=m+1:=⟨k-1,by omega⟩
 rw[F_l10_DirectoryApart]
 simp only[Hold_eq]
 have two:=apart2_s k (by omega)
 refine large_s k (by omega) fun l1 hb1=>cond_b (fun _=>two) (fun g1=>large_s k (by omega) fun l2 hb2=>cond_b (fun _=>two) (fun g2=>?_))
 have hd:DIn d:=Small.din (hb1 g1) hh
 refine cond_dec (fun _=>two) (fun a0=>cond_dec (fun _=>two) (fun b0=>cond_dec (fun _=>two) (fun hc=>cond_b (fun _=>two) (fun hn=>cond_dec (fun _=>two) (fun hl=>?_)))))
 refine Apply_s k hd (by omega) (Apply_s k hd (by omega) (cond_ndec (fun _=>works_s k (by omega) ?_) (fun ha=>cond_ndec (fun _=>works_s k (by omega) ?_) (fun hb=>?_))))
 ·rw[cond_true];exact fresh_s k (by omega) (by first|rfl|trivial|decide)
 ·rw[cond_true];exact fresh_s k (by omega) (by first|rfl|trivial|decide)
 ·have hn:a.f3≠b.f3:=of_decide_eq_false hn
  obtain⟨h1,h2,h3⟩:=ap_comm ha hb a0 b0 hc hn (by omega)
  refine Apply_s k (DIn.ap hh) (by omega) (Apply_s k (DIn.ap hh) (by omega) (works_s k (by omega) ?_))
  rw[cond_true]
  refine fresh_s k (by omega) ?_
  rw[cond_true,h1,h2,h3]
  exact cond_dec (fun _=>cond_dec (fun _=>same_s (ap_ok h2).1.small k (by omega) (by first|rfl|trivial|decide)) (fun e=>absurd rfl e)) (fun e=>absurd rfl e)
end Go.V
