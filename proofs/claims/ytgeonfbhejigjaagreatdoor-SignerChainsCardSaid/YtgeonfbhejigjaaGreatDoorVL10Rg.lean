import Derived.Test.YtgeonfbhejigjaaGreatDoorVL10Rf
set_option linter.unusedVariables false
set_option linter.unusedSimpArgs false
set_option maxRecDepth 4000
namespace Go.V
theorem takeWhile_neg{α:Type}{p:α->Bool}{v:α}(hv:p v=false):∀ l:List α,(l++[v]).takeWhile p=l.takeWhile p
 | []=>by rw[List.nil_append,List.takeWhile_cons_of_neg (by rw[hv];decide)];rfl
 | x::l=>by
  rw[List.cons_append,List.takeWhile_cons,List.takeWhile_cons,takeWhile_neg hv l]
theorem atV_app{l:List S_api_Version}{v:S_api_Version}{ep:Int}(h1:versB l=true)(h2:versB (l++[v])=true)(hv:ep<v.f0):atV (l++[v]) ep=atV l ep:=by
 unfold atV
 rw[if_pos h1,if_pos h2]
 have:decide (v.f0<=ep)=false:=decide_eq_false (by omega)
 exact takeWhile_neg (p:=fun v=>decide (v.f0<=ep)) this l
theorem atV_nil(ep:Int):atV [] ep=[]:=by unfold atV;split<;>rfl
theorem leavesU_app(us vs:List S_api_User)(ep:Int):leavesU (us++vs) ep=leavesU us ep++leavesU vs ep:=List.flatMap_append
theorem addU_sealed{e:Int}{us:List S_api_User}{n:ByteArray}{kd:Int}{key:ByteArray}(hu:USrt us)(hl:us.length<=64){ep:Int}(he:ep<=e):leavesU (addU e us n kd key) ep=leavesU us ep/\∀ m,atV (hist (addU e us n kd key) m) ep=atV (hist us m) ep:=by
 by_cases h:addE e us n kd key=0
 ·obtain⟨g1,g2,g3,lo,hi,h1,h2,s1,s2,ea,g⟩:=add_split hu hl h
  obtain⟨n1,n2,n3,n4,n5⟩:=next_ok g2
  have hv:atV (hist us n++[addV e kd key]) ep=atV (hist us n) ep:=atV_app n3 n2 (by show ep<e+1;omega)
  constructor
  ·have e1:leavesU (addU e us n kd key) ep=leavesU lo ep++(leafU ep (S_api_User.mk n (hist us n))++leavesU hi ep):=by
    rw[ea,leavesU_app]
    unfold leavesU
    rw[List.flatMap_cons]
    unfold leafU
    rw[hv]
   rw[e1]
   rcases g with ⟨x,hx,e2,hh⟩|⟨e2,hh⟩
   ·conv=>rhs;rw[e2,leavesU_app]
    rw[hh]
    unfold leavesU
    rw[List.flatMap_cons]
    subst hx
    rfl
   ·conv=>rhs;rw[e2,leavesU_app]
    rw[hh]
    unfold leafU
    rw[if_pos (atV_nil ep),List.nil_append]
  ·intro m
   by_cases hm:m=n
   ·subst hm
    have:hist (addU e us m kd key) m=hist us m++[addV e kd key]:=(hist_of (addU_srt hu hl) ((addU_mem hu hl h _).2 (.inl rfl))).1
    rw[this,hv]
   ·rw[(addU_other hu hl hm).1]
 ·unfold addU
  rw[if_neg h]
  exact⟨rfl,fun _=>rfl⟩
structure Since (d x:S_api_Directory):Prop where
 f:DirF x
 e:d.f0<=x.f0
 h:d.f2 <+: x.f2
 l:∀ ep,ep<=d.f0->leavesU x.f1 ep=leavesU d.f1 ep/\∀ m,atV (hist x.f1 m) ep=atV (hist d.f1 m) ep
theorem Since.refl{d:S_api_Directory}(h:DirF d):Since d d:=⟨h,Int.le_refl _,List.prefix_refl _,fun _ _=>⟨rfl,fun _=>rfl⟩⟩
theorem Since.ap{d x:S_api_Directory}{c:S_api_Command}(h:Since d x)(hE:apE x c=0):Since d (apR x c):=by
 obtain⟨hF,hle,hp⟩:=ap_ok hE
 refine⟨hF,Int.le_trans h.e hle,h.h.trans hp,fun ep hep=>?_⟩
 have hl:=h.l ep hep
 obtain⟨hx,hm,⟨h4,h5⟩|⟨h5,hi⟩|⟨k1,k2,k3⟩⟩:=apE_ok hE
 ·rw[apR_seal hE h4];exact hl
 ·rw[apR_int hE h5];exact hl
 ·rw[apR_rq hE ⟨k1,k2⟩]
  show leavesU (rqU x.f0 x.f1 x.f3 c.f0 c.f1 c.f2 c.f3 c.f4) ep=_/\∀ m,atV (hist (rqU x.f0 x.f1 x.f3 c.f0 c.f1 c.f2 c.f3 c.f4) m) ep=_
  unfold rqU
  split
  ·exact hl
  ·have:=addU_sealed (n:=c.f3) (kd:=c.f0) (key:=c.f4) hx.us hx.ul (ep:=ep) (e:=x.f0) (by have:=h.e;omega)
   exact⟨this.1.trans hl.1,fun m=>(this.2 m).trans (hl.2 m)⟩
structure Kept (d x:S_api_Directory):Prop where
 h:HsOk x
 s:DirF d->Since d x
theorem Kept.step{d x:S_api_Directory}{c:S_api_Command}(h:Kept d x):apE x c=0->Kept d (apR x c):=fun hE=>⟨h.h.ap,fun hd=>(h.s hd).ap hE⟩
section
variable {d x:S_api_Directory} {n:ByteArray} {ep:Int}
theorem prefix_getD{α:Type}{l m:List α}(h:l <+: m){i:Nat}(hi:i<l.length){a:α}:m.getD i a=l.getD i a:=by
 obtain⟨t,rfl⟩:=h
 exact getD_app hi
end
abbrev C0:S_api_Command:=S_api_Command.mk 0 0 0 ByteArray.empty ByteArray.empty 0 (List.replicate 32 0)
end Go.V
