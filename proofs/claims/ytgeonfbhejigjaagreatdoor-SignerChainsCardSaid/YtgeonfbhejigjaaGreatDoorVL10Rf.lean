import Derived.Test.YtgeonfbhejigjaaGreatDoorVL10Re
set_option linter.unusedVariables false
set_option linter.unusedSimpArgs false
set_option maxRecDepth 4000
namespace Go.V
theorem Small.din{d:S_api_Directory}(h:Small d.f1 d.f2 d.f3)(hh:HsOk d):DIn d:=⟨fun u hu=>by have:=h.v u hu;omega,hh,by have:=h.h;omega,by have:=h.s;omega⟩
theorem addU_mem{ep:Int}{us:List S_api_User}{n:ByteArray}{kd:Int}{key:ByteArray}(hu:USrt us)(hl:us.length<=64)(h:addE ep us n kd key=0)(x:S_api_User):x∈addU ep us n kd key↔(x=S_api_User.mk n (hist us n++[addV ep kd key])\/(x∈us/\x.f0≠n)):=by
 obtain⟨g1,g2,g3,lo,hi,h1,h2,s1,s2,ea,g⟩:=add_split hu hl h
 rw[ea]
 have no:=USrt.not_mem h1 h2
 generalize S_api_User.mk n (hist us n++[addV ep kd key])=N
 simp only[List.mem_append,List.mem_cons]
 rcases g with ⟨z,hz,e,-⟩|⟨e,-⟩
 ·rw[e]
  simp only[List.mem_append,List.mem_cons]
  constructor
  ·rintro (g|rfl|g)
   ·exact .inr ⟨.inl g,no _ (.inl g)⟩
   ·exact .inl rfl
   ·exact .inr ⟨.inr (.inr g),no _ (.inr g)⟩
  ·rintro (rfl|⟨g|rfl|g,h7⟩)
   ·exact .inr (.inl rfl)
   ·exact .inl g
   ·exact absurd hz h7
   ·exact .inr (.inr g)
 ·rw[e]
  simp only[List.mem_append]
  constructor
  ·rintro (g|rfl|g)
   ·exact .inr ⟨.inl g,no _ (.inl g)⟩
   ·exact .inl rfl
   ·exact .inr ⟨.inr g,no _ (.inr g)⟩
  ·rintro (rfl|⟨g|g,h⟩)
   ·exact .inr (.inl rfl)
   ·exact .inl g
   ·exact .inr (.inr g)
theorem addU_srt{ep:Int}{us:List S_api_User}{n:ByteArray}{kd:Int}{key:ByteArray}(hu:USrt us)(hl:us.length<=64):USrt (addU ep us n kd key):=by
 by_cases h:addE ep us n kd key=0
 ·obtain⟨g1,g2,g3,lo,hi,h1,h2,s1,s2,ea,g⟩:=add_split hu hl h
  rw[ea]
  exact USrt.mid h1 h2 s1 s2 rfl
 ·unfold addU;rw[if_neg h];exact hu
theorem hist_eq{us vs:List S_api_User}(hu:USrt us)(hv:USrt vs){n:ByteArray}(h:∀ x:S_api_User,x.f0=n->(x∈us↔x∈vs)):hist us n=hist vs n/\uHas us n=uHas vs n:=by
 by_cases g:∃ x,x∈us/\x.f0=n
 ·obtain⟨x,hx,rfl⟩:=g
  have h1:=hist_of hu hx
  have h2:=hist_of hv ((h x rfl).1 hx)
  exact⟨h1.1.trans h2.1.symm,h1.2.trans h2.2.symm⟩
 ·have h1:=hist_no hu fun x hx e=>g ⟨x,hx,e⟩
  have h2:=hist_no hv fun x hx e=>g ⟨x,(h x e).2 hx,e⟩
  exact⟨h1.1.trans h2.1.symm,h1.2.trans h2.2.symm⟩
theorem addU_other{ep:Int}{us:List S_api_User}{n m:ByteArray}{kd:Int}{key:ByteArray}(hu:USrt us)(hl:us.length<=64)(hn:m≠n):hist (addU ep us n kd key) m=hist us m/\uHas (addU ep us n kd key) m=uHas us m:=by
 refine hist_eq (addU_srt hu hl) hu fun x hx=>?_
 by_cases h:addE ep us n kd key=0
 ·rw[addU_mem hu hl h]
  refine⟨fun g=>?_,fun g=>.inr ⟨g,by rw[hx];exact hn⟩⟩
  rcases g with rfl|g
  ·exact absurd hx.symm hn
  ·exact g.1
 ·unfold addU;rw[if_neg h]
end Go.V
