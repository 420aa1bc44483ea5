import Derived.Test.YtgeonfbhejigjaaGreatDoorVI10Rc
set_option linter.unusedVariables false
set_option linter.unusedSimpArgs false
set_option maxRecDepth 4000
namespace Go.V
section
variable {α κ:Type} {key:α->κ} {lt:κ->κ->Bool}
structure OrdOk (lt:κ->κ->Bool):Prop where
 irr:∀ a,lt a a=false
 tr:∀ {a b c},lt a b=true->lt b c=true->lt a c=true
 tri:∀ {a b},lt a b=false->lt b a=false->a=b
def Sd(key:α->κ)(lt:κ->κ->Bool)(l:List α):Prop:=l.Pairwise fun x y=>lt (key x) (key y)=true
theorem sd_split(o:OrdOk lt)(k:κ):∀ l:List α,Sd key lt l->∃ lo hi,(∀ x∈lo,lt (key x) k=true)/\(∀ x∈hi,lt k (key x)=true)/\Sd key lt lo/\Sd key lt hi/\((∃ x,key x=k/\l=lo++x::hi)\/l=lo++hi)
 | [],_=>⟨[],[],fun _ h=>(by cases h),fun _ h=>(by cases h),.nil,.nil,.inr rfl⟩
 | x::l,h=>by
  unfold Sd at h
  rw[List.pairwise_cons] at h
  cases hx:lt (key x) k with
  | true=>
   obtain⟨lo,hi,h1,h2,s1,s2,h3⟩:=sd_split o k l h.2
   refine⟨x::lo,hi,List.forall_mem_cons.2 ⟨hx,h1⟩,h2,List.pairwise_cons.2 ⟨fun y hy=>h.1 y ?_,s1⟩,s2,?_⟩
   ·rcases h3 with ⟨z,-,rfl⟩|rfl
    ·exact List.mem_append_left _ hy
    ·exact List.mem_append_left _ hy
   ·rcases h3 with ⟨z,hz,rfl⟩|rfl
    ·exact .inl ⟨z,hz,rfl⟩
    ·exact .inr rfl
  | false=>
   cases hx2:lt k (key x) with
   | true=>
    refine⟨[],x::l,fun _ h=>(by cases h),List.forall_mem_cons.2 ⟨hx2,fun y hy=>o.tr hx2 (h.1 y hy)⟩,.nil,List.pairwise_cons.2 h,.inr rfl⟩
   | false=>
    have e:=o.tri hx hx2
    exact⟨[],l,fun _ h=>(by cases h),fun y hy=>by rw[<-e];exact h.1 y hy,.nil,h.2,.inl ⟨x,e,rfl⟩⟩
theorem sd_mid(o:OrdOk lt){k:κ}{lo hi:List α}{v:α}(h1:∀ x∈lo,lt (key x) k=true)(h2:∀ x∈hi,lt k (key x)=true)(s1:Sd key lt lo)(s2:Sd key lt hi)(hv:key v=k):Sd key lt (lo++v::hi):=by
 refine List.pairwise_append.2 ⟨s1,List.pairwise_cons.2 ⟨fun x hx=>by rw[hv];exact h2 x hx,s2⟩,fun x hx y hy=>?_⟩
 rcases List.mem_cons.1 hy with rfl|hy
 ·rw[hv];exact h1 x hx
 ·exact o.tr (h1 x hx) (h2 y hy)
theorem sd_one(o:OrdOk lt){l:List α}(h:Sd key lt l){x y:α}(hx:x∈l)(hy:y∈l)(e:key x=key y):x=y:=by
 unfold Sd at h
 obtain⟨i,hi,rfl⟩:=List.getElem_of_mem hx
 obtain⟨j,hj,rfl⟩:=List.getElem_of_mem hy
 rcases Nat.lt_trichotomy i j with g|rfl|g
 ·have:=List.pairwise_iff_getElem.1 h i j hi hj g
  rw[e,o.irr] at this;cases this
 ·rfl
 ·have:=List.pairwise_iff_getElem.1 h j i hj hi g
  rw[<-e,o.irr] at this;cases this
theorem pos_mid{p:α->Bool}{lo hi:List α}(h1:∀ x∈lo,p x=true)(h2:∀ x∈hi,p x=false):((lo++hi).takeWhile p).length=lo.length:=by
 rw[List.takeWhile_append_of_pos h1]
 cases hi with
 | nil=>simp
 | cons y hi=>rw[List.takeWhile_cons_of_neg (by rw[h2 y (by simp)];decide)];simp
theorem getD_mid{lo hi:List α}{x d:α}:(lo++x::hi).getD lo.length d=x:=by
 rw[List.getD_eq_getElem?_getD,List.getElem?_append_right (Nat.le_refl _),Nat.sub_self];rfl
theorem set_mid{lo hi:List α}{x v:α}:(lo++x::hi).set lo.length v=lo++v::hi:=by
 rw[List.set_append_right _ _ (Nat.le_refl _),Nat.sub_self];rfl
theorem insAt_mid{lo hi:List α}{v:α}:insAt ((lo.length:Nat):Int) (lo++hi) [v]=lo++v::hi:=by
 unfold insAt
 rw[Int.toNat_natCast,List.take_left,List.drop_left];simp
end
theorem ordS:OrdOk slt:=⟨slt_irrefl,slt_trans,slt_ne⟩
theorem ordI:OrdOk fun a b:Int=>decide (a<b):=⟨fun a=>decide_eq_false (Int.lt_irrefl a),fun h1 h2=>decide_eq_true (Int.lt_trans (of_decide_eq_true h1) (of_decide_eq_true h2)),fun h1 h2=>by
 have:=of_decide_eq_false h1;have:=of_decide_eq_false h2;omega⟩
abbrev uKey(u:S_api_User):ByteArray:=u.f0
abbrev sKey(s:S_api_Session):Int:=s.f0
abbrev USd(us:List S_api_User):Prop:=Sd uKey slt us
abbrev SSd(ss:List S_api_Session):Prop:=Sd sKey (fun a b=>decide (a<b)) ss
theorem SSrt_iff{ss:List S_api_Session}:SSrt ss↔SSd ss:=by
 unfold SSrt SSd Sd
 exact⟨fun h=>h.imp fun g=>decide_eq_true g,fun h=>h.imp fun g=>of_decide_eq_true g⟩
theorem u_split{us:List S_api_User}(hu:USrt us)(n:ByteArray):∃ lo hi,(∀ x∈lo,slt x.f0 n=true)/\(∀ x∈hi,slt n x.f0=true)/\USd lo/\USd hi/\uPos us n=lo.length ∧
  ((∃ x,x.f0=n/\us=lo++x::hi/\uHas us n=true/\hist us n=x.f1)\/(us=lo++hi/\uHas us n=false/\hist us n=[])):=by
 obtain⟨lo,hi,h1,h2,s1,s2,h3⟩:=sd_split (key:=uKey) ordS n us hu
 have nh:∀ x∈hi,slt x.f0 n=false:=fun x hx=>slt_asymm (h2 x hx)
 rcases h3 with ⟨x,hx,rfl⟩|rfl
 ·have hp:uPos (lo++x::hi) n=lo.length:=pos_mid h1 (List.forall_mem_cons.2 ⟨by rw[show x.f0=n from hx];exact slt_irrefl n,nh⟩)
  have hh:uHas (lo++x::hi) n=true:=by
   unfold uHas
   rw[hp,getD_mid]
   exact decide_eq_true ⟨by simp,hx⟩
  exact⟨lo,hi,h1,h2,s1,s2,hp,.inl ⟨x,hx,rfl,hh,by unfold hist;rw[if_pos hh,hp,getD_mid]⟩⟩
 ·have hp:uPos (lo++hi) n=lo.length:=pos_mid h1 nh
  have hh:uHas (lo++hi) n=false:=by
   unfold uHas
   rw[hp]
   refine decide_eq_false fun g=>?_
   cases hi with
   | nil=>have:=g.1;simp at this
   | cons y hi=>
    have e:=g.2
    rw[getD_mid] at e
    have:slt n y.f0=true:=h2 y (by simp)
    rw[e,slt_irrefl] at this;cases this
  exact⟨lo,hi,h1,h2,s1,s2,hp,.inr ⟨rfl,hh,by unfold hist;rw[if_neg (by rw[hh];decide)]⟩⟩
theorem s_split{ss:List S_api_Session}(hs:SSrt ss)(c:Int):∃ lo hi,(∀ x∈lo,x.f0<c)/\(∀ x∈hi,c<x.f0)/\SSd lo/\SSd hi/\sPos ss c=lo.length ∧
  ((∃ x,x.f0=c/\ss=lo++x::hi/\sHas ss c=true/\ss.getD (sPos ss c) S0=x)\/(ss=lo++hi/\sHas ss c=false)):=by
 obtain⟨lo,hi,h1,h2,s1,s2,h3⟩:=sd_split (key:=sKey) ordI c ss (SSrt_iff.1 hs)
 have nh:∀ x∈hi,decide (x.f0<c)=false:=fun x hx=>decide_eq_false (by have:=of_decide_eq_true (h2 x hx);have:c<x.f0:=this;omega)
 rcases h3 with ⟨x,hx,rfl⟩|rfl
 ·have hp:sPos (lo++x::hi) c=lo.length:=pos_mid h1 (List.forall_mem_cons.2 ⟨by rw[show x.f0=c from hx];exact decide_eq_false (Int.lt_irrefl c),nh⟩)
  have hh:sHas (lo++x::hi) c=true:=by
   unfold sHas
   rw[hp,getD_mid]
   exact decide_eq_true ⟨by simp,hx⟩
  exact⟨lo,hi,fun x hx=>of_decide_eq_true (h1 x hx),fun x hx=>of_decide_eq_true (h2 x hx),s1,s2,hp,.inl ⟨x,hx,rfl,hh,by rw[hp,getD_mid]⟩⟩
 ·have hp:sPos (lo++hi) c=lo.length:=pos_mid h1 nh
  have hh:sHas (lo++hi) c=false:=by
   unfold sHas
   rw[hp]
   refine decide_eq_false fun g=>?_
   cases hi with
   | nil=>have:=g.1;simp at this
   | cons y hi=>
    have e:=g.2
    rw[getD_mid] at e
    have:c<y.f0:=of_decide_eq_true (h2 y (by simp))
    omega
  exact⟨lo,hi,fun x hx=>of_decide_eq_true (h1 x hx),fun x hx=>of_decide_eq_true (h2 x hx),s1,s2,hp,.inr ⟨rfl,hh⟩⟩
theorem USrt.mid{lo hi:List S_api_User}{n:ByteArray}{v:S_api_User}(h1:∀ x∈lo,slt x.f0 n=true)(h2:∀ x∈hi,slt n x.f0=true)(s1:USd lo)(s2:USd hi)(hv:v.f0=n):USrt (lo++v::hi):=sd_mid (key:=uKey) ordS h1 h2 s1 s2 hv
theorem SSrt.mid{lo hi:List S_api_Session}{n:Int}{v:S_api_Session}(h1:∀ x∈lo,x.f0<n)(h2:∀ x∈hi,n<x.f0)(s1:SSd lo)(s2:SSd hi)(hv:v.f0=n):SSrt (lo++v::hi):=
 SSrt_iff.2 (sd_mid (key:=sKey) ordI (fun x hx=>decide_eq_true (h1 x hx)) (fun x hx=>decide_eq_true (h2 x hx)) s1 s2 hv)
theorem USrt.not_mem{lo hi:List S_api_User}{n:ByteArray}(h1:∀ x∈lo,slt x.f0 n=true)(h2:∀ x∈hi,slt n x.f0=true):∀ x,x∈lo\/x∈hi->x.f0≠n:=by
 rintro x (hx|hx) rfl
 ·have:=h1 x hx;rw[slt_irrefl] at this;cases this
 ·have:=h2 x hx;rw[slt_irrefl] at this;cases this
theorem hist_of{us:List S_api_User}(hu:USrt us){x:S_api_User}(hx:x∈us):hist us x.f0=x.f1/\uHas us x.f0=true:=by
 obtain⟨lo,hi,h1,h2,s1,s2,hp,⟨y,hy,e,hh,hl⟩|⟨e,hh,hl⟩⟩:=u_split hu x.f0
 ·have:y=x:=sd_one (key:=uKey) ordS hu (by rw[e];simp) hx hy
  subst this
  exact⟨hl,hh⟩
 ·exact absurd rfl (USrt.not_mem h1 h2 x (by rw[e] at hx;exact List.mem_append.1 hx))
theorem hist_no{us:List S_api_User}(hu:USrt us){n:ByteArray}(hx:∀ x∈us,x.f0≠n):hist us n=[]/\uHas us n=false:=by
 obtain⟨lo,hi,h1,h2,s1,s2,hp,⟨y,hy,e,hh,hl⟩|⟨e,hh,hl⟩⟩:=u_split hu n
 ·exact absurd hy (hx y (by rw[e];simp))
 ·exact⟨hl,hh⟩
theorem versGo_app{v:S_api_Version}:∀ {l:List S_api_Version} {e d:Int},versGo e d (l++[v])=(versGo e d l&&(mayV v&&(decide ((if l=[] then e else wasE l l.length)<=v.f0)&&(openK (if l=[] then d else wasK l l.length)==decide (v.f1=1)))))
 | [],e,d=>by rw[List.nil_append];unfold versGo versGo;rw[if_pos rfl,if_pos rfl,Bool.and_true,Bool.true_and]
 | x::l,e,d=>by
  rw[List.cons_append]
  unfold versGo
  have n1 (a b:Int):(if x::l=[] then a else b)=b:=if_neg (by simp)
  rw[n1,n1,versGo_app]
  have e1:wasE (x::l) (x::l).length=if l=[] then x.f0 else wasE l l.length:=by
   cases l with
   | nil=>rfl
   | cons y l=>rw[if_neg (by simp)];rfl
  have e2:wasK (x::l) (x::l).length=if l=[] then x.f1 else wasK l l.length:=by
   cases l with
   | nil=>rfl
   | cons y l=>rw[if_neg (by simp)];rfl
  rw[e1,e2,Bool.and_assoc,Bool.and_assoc,Bool.and_assoc]
  simp only[Bool.and_assoc]
theorem was_end(l:List S_api_Version):(if l=[] then (0:Int) else wasE l l.length)=wasE l l.length/\(if l=[] then (0:Int) else wasK l l.length)=wasK l l.length:=by
 cases l with
 | nil=>exact⟨rfl,rfl⟩
 | cons x l=>exact⟨if_neg (by simp),if_neg (by simp)⟩
theorem wasE_app(l:List S_api_Version)(v:S_api_Version):wasE (l++[v]) (l++[v]).length=v.f0:=by
 rw[List.length_append,List.length_singleton,wasE_succ (by simp)]
 simp
theorem next_ok{l:List S_api_Version}{v:S_api_Version}(h:nextE l v=0):nextV l v=l++[v]/\versB (l++[v])=true/\versB l=true/\wasE l l.length<=v.f0/\mayV v=true:=by
 refine⟨by unfold nextV;rw[if_pos h],?_⟩
 unfold nextE at h
 by_cases g:versB l=true/\mayV v=true/\wasE l l.length<=v.f0
 ·rw[if_pos g] at h
  have hl:l.length≠16/\(openK (wasK l l.length)=decide (v.f1=1)):=by
   by_cases g1:v.f1=1
   ·rw[if_pos g1] at h
    by_cases g2:openK (wasK l l.length)=true
    ·rw[if_pos g2] at h
     by_cases g3:l.length=16
     ·rw[if_pos g3] at h;cases h
     ·exact⟨g3,by rw[g2,decide_eq_true g1]⟩
    ·rw[if_neg g2] at h;cases h
   ·rw[if_neg g1] at h
    by_cases g2:openK (wasK l l.length)=true
    ·rw[if_pos g2] at h;cases h
    ·rw[if_neg g2] at h
     by_cases g3:l.length=16
     ·rw[if_pos g3] at h;cases h
     ·exact⟨g3,by rw[Bool.eq_false_iff.2 g2,decide_eq_false g1]⟩
  obtain⟨g1,g2,g3⟩:=g
  refine⟨?_,g1,g3,g2⟩
  have h16:=(versB_facts g1).1
  unfold versB at g1 ⊢
  rw[Bool.and_eq_true] at g1 ⊢
  refine⟨decide_eq_true (by rw[List.length_append,List.length_singleton];omega),?_⟩
  rw[versGo_app,g1.2,g2,(was_end l).1,(was_end l).2,decide_eq_true g3,hl.2]
  simp
 ·rw[if_neg g] at h;cases h
theorem nextE_code(l:List S_api_Version)(v:S_api_Version):0<=nextE l v/\nextE l v<=65535:=by
 unfold nextE
 split
 ·split
  ·split
   ·split<;>decide
   ·decide
  ·split
   ·decide
   ·split<;>decide
 ·decide
theorem addE_code(ep:Int)(us:List S_api_User)(n:ByteArray)(kd:Int)(key:ByteArray):0<=addE ep us n kd key/\addE ep us n kd key<=65535:=by
 unfold addE
 split
 ·decide
 ·split
  ·split
   ·decide
   ·split<;>decide
  ·exact nextE_code _ _
theorem add_split{ep:Int}{us:List S_api_User}{n:ByteArray}{kd:Int}{key:ByteArray}(hu:USrt us)(hl:us.length<=64)(h:addE ep us n kd key=0):ep≠200/\nextE (hist us n) (addV ep kd key)=0/\(addU ep us n kd key).length<=64/\∃ lo hi,(∀ x∈lo,slt x.f0 n=true)/\(∀ x∈hi,slt n x.f0=true)/\USd lo/\USd hi ∧
  addU ep us n kd key=lo++S_api_User.mk n (hist us n++[addV ep kd key])::hi/\((∃ x,x.f0=n/\us=lo++x::hi/\hist us n=x.f1)\/(us=lo++hi/\hist us n=[])):=by
 have hne:ep≠200:=fun g=>by unfold addE at h;rw[if_pos g] at h;cases h
 have hn:nextE (hist us n) (addV ep kd key)=0:=by
  unfold addE at h
  rw[if_neg hne] at h
  by_cases g:nextE (hist us n) (addV ep kd key)=0
  ·exact g
  ·rw[if_neg g] at h;exact h
 obtain⟨lo,hi,h1,h2,s1,s2,hp,⟨x,hx,e,hh,hx1⟩|⟨e,hh,hx1⟩⟩:=u_split hu n
 ·have ea:addU ep us n kd key=lo++S_api_User.mk n (hist us n++[addV ep kd key])::hi:=by
   unfold addU
   rw[if_pos h,if_pos hh,hp,(next_ok hn).1]
   conv=>lhs;rw[e]
   rw[set_mid]
   rw[<-e]
  refine⟨hne,hn,?_,lo,hi,h1,h2,s1,s2,ea,.inl ⟨x,hx,e,hx1⟩⟩
  rw[ea]
  rw[e] at hl
  simpa using hl
 ·have h64:us.length≠64:=by
   intro g
   unfold addE at h
   rw[if_neg hne,if_pos hn,if_neg (by rw[hh];decide),if_pos g] at h
   cases h
  have ea:addU ep us n kd key=lo++S_api_User.mk n (hist us n++[addV ep kd key])::hi:=by
   unfold addU
   rw[if_pos h,if_neg (by rw[hh];decide),hp,(next_ok hn).1]
   conv=>lhs;rw[e]
   rw[insAt_mid]
   rw[<-e]
  refine⟨hne,hn,?_,lo,hi,h1,h2,s1,s2,ea,.inr ⟨e,hx1⟩⟩
  rw[ea]
  rw[e] at hl h64
  simp only[List.length_append,List.length_cons] at hl h64 ⊢
  omega
theorem rq_split{ep:Int}{us:List S_api_User}{ss:List S_api_Session}{kd c s:Int}{n key:ByteArray}(hs:SSrt ss)(h:¬rqOld ss c s):∃ lo hi,(∀ x∈lo,x.f0<c)/\(∀ x∈hi,c<x.f0)/\SSd lo/\SSd hi ∧
  rqS ep us ss kd c s n key=lo++S_api_Session.mk c s (addE ep us n kd key) ep::hi/\((∃ x,x.f0=c/\ss=lo++x::hi)\/ss=lo++hi):=by
 obtain⟨lo,hi,h1,h2,s1,s2,hp,⟨x,hx,e,hh,hx1⟩|⟨e,hh⟩⟩:=s_split hs c
 ·refine⟨lo,hi,h1,h2,s1,s2,?_,.inl ⟨x,hx,e⟩⟩
  unfold rqS
  rw[if_neg h,if_pos hh,hp]
  conv=>lhs;rw[e]
  rw[set_mid]
 ·refine⟨lo,hi,h1,h2,s1,s2,?_,.inr e⟩
  unfold rqS
  rw[if_neg h,if_neg (by rw[hh];decide),hp]
  conv=>lhs;rw[e]
  rw[insAt_mid,set_mid]
end Go.V
