import Derived.Test.YtgeonfbhejigjaaGreatDoorVI10Q
import Derived.Test.YtgeonfbhejigjaaGreatDoorVI10N
set_option linter.unusedVariables false
set_option linter.unusedSimpArgs false
set_option maxRecDepth 4000
namespace Go.V
def uPos(us:List S_api_User)(n:ByteArray):Nat:=(us.takeWhile fun x=>slt x.f0 n).length
def uHas(us:List S_api_User)(n:ByteArray):Bool:=decide (uPos us n<us.length/\(us.getD (uPos us n) U0).f0=n)
def hist(us:List S_api_User)(n:ByteArray):List S_api_Version:=if uHas us n=true then (us.getD (uPos us n) U0).f1 else []
def sPos(ss:List S_api_Session)(c:Int):Nat:=(ss.takeWhile fun x=>decide (x.f0<c)).length
def sHas(ss:List S_api_Session)(c:Int):Bool:=decide (sPos ss c<ss.length/\(ss.getD (sPos ss c) S0).f0=c)
def USrt(us:List S_api_User):Prop:=us.Pairwise fun x y=>slt x.f0 y.f0=true
def SSrt(ss:List S_api_Session):Prop:=ss.Pairwise fun x y=>x.f0<y.f0
theorem takeWhile_le{α:Type}(p:α->Bool):∀ l:List α,(l.takeWhile p).length<=l.length
 | []=>Nat.le_refl _
 | x::l=>by
  rw[List.takeWhile_cons]
  split
  ·have:=takeWhile_le p l
   simp only[List.length_cons];omega
  ·simp
theorem uPos_le(us:List S_api_User)(n:ByteArray):uPos us n<=us.length:=takeWhile_le _ _
theorem sPos_le(ss:List S_api_Session)(c:Int):sPos ss c<=ss.length:=takeWhile_le _ _
theorem user_s(k:Nat){n:ByteArray}{ep:Int}{us:List S_api_User}{hs:List S_api_Head}{ss:List S_api_Session}(hu:USrt us)(hn:us.length<=100000){K:Int->Bool->Int->List S_api_User->List S_api_Head->List S_api_Session->Prop}(hk:100200<=k)
  (h:K ((uPos us n:Nat):Int) (uHas us n) ep us hs ss):F_directory_work_user k n ep us hs ss K:=by
 obtain⟨k,rfl⟩:∃ m,k=m+1:=⟨k-1,by omega⟩
 rw[F_directory_work_user]
 simp only[Hold_eq]
 refine bs_U k hn (fun a b hab hb g=>?_) (by omega) h
 by_cases e:a=b
 ·rw[e];exact g
 ·have:=List.pairwise_iff_getElem.1 hu a b (by omega) hb (by omega)
  rw[getD_at hb] at g
  rw[getD_at (by omega)]
  exact slt_trans this g
theorem session_s(k:Nat){c:Int}{ep:Int}{us:List S_api_User}{hs:List S_api_Head}{ss:List S_api_Session}(hs1:SSrt ss)(hn:ss.length<=100000){K:Int->Bool->Int->List S_api_User->List S_api_Head->List S_api_Session->Prop}(hk:100200<=k)
  (h:K ((sPos ss c:Nat):Int) (sHas ss c) ep us hs ss):F_directory_work_session k c ep us hs ss K:=by
 obtain⟨k,rfl⟩:∃ m,k=m+1:=⟨k-1,by omega⟩
 rw[F_directory_work_session]
 simp only[Hold_eq]
 refine bs_S k hn (fun a b hab hb g=>?_) (by omega) h
 by_cases e:a=b
 ·rw[e];exact g
 ·have:=List.pairwise_iff_getElem.1 hs1 a b (by omega) hb (by omega)
  rw[getD_at hb] at g
  rw[getD_at (by omega)]
  omega
theorem uHas_lt{us:List S_api_User}{n:ByteArray}(h:uHas us n=true):uPos us n<us.length/\(us.getD (uPos us n) U0).f0=n:=of_decide_eq_true h
theorem sHas_lt{ss:List S_api_Session}{c:Int}(h:sHas ss c=true):sPos ss c<ss.length/\(ss.getD (sPos ss c) S0).f0=c:=of_decide_eq_true h
theorem history_s(k:Nat){n:ByteArray}{ep:Int}{us:List S_api_User}{hs:List S_api_Head}{ss:List S_api_Session}(hu:USrt us)(hn:us.length<=100000){K:List S_api_Version->Int->List S_api_User->List S_api_Head->List S_api_Session->Prop}{K1:Int->List S_api_User->List S_api_Head->List S_api_Session->List S_api_Version->Prop}(hk:100300<=k)
  (h:K (hist us n) ep us hs ss) (h1:K1 ep us hs ss (hist us n)):F_directory_work_history k n ep us hs ss K K1:=by
 obtain⟨k,rfl⟩:∃ m,k=m+1:=⟨k-1,by omega⟩
 rw[F_directory_work_history]
 simp only[Hold_eq]
 unfold hist at h h1
 refine user_s k hu hn (by omega) (cond_b (fun g=>?_) (fun g=>?_))
 ·rw[if_pos g] at h
  have:=(uHas_lt g).1
  rw[Int.toNat_natCast]
  exact⟨⟨by omega,by omega⟩,h⟩
 ·rw[if_neg (by rw[g];decide)] at h1
  exact h1
def addV(ep kd:Int)(key:ByteArray):S_api_Version:=S_api_Version.mk (ep+1) kd key
def addE(ep:Int)(us:List S_api_User)(n:ByteArray)(kd:Int)(key:ByteArray):Int:=
 if ep=200 then 2 else if nextE (hist us n) (addV ep kd key)=0 then (if uHas us n=true then 0 else if us.length=64 then 2 else 0) else nextE (hist us n) (addV ep kd key)
def addU(ep:Int)(us:List S_api_User)(n:ByteArray)(kd:Int)(key:ByteArray):List S_api_User:=
 if addE ep us n kd key=0 then (if uHas us n=true then us.set (uPos us n) (S_api_User.mk n (nextV (hist us n) (addV ep kd key))) else insAt ((uPos us n:Nat):Int) us [S_api_User.mk n (nextV (hist us n) (addV ep kd key))]) else us
theorem hist_len{us:List S_api_User}(hv:∀ u∈us,u.f1.length<=100000)(n:ByteArray):(hist us n).length<=100000:=by
 unfold hist
 split
 ·rename_i g
  rw[getD_at (uHas_lt g).1]
  exact hv _ (List.getElem_mem _)
 ·simp
theorem add_s(k:Nat){kd c s:Int}{n key:ByteArray}{e:Int}{root:List Int}{ep:Int}{us:List S_api_User}{hs:List S_api_Head}{ss:List S_api_Session}(hu:USrt us)(hul:us.length<=64)(hv:∀ u∈us,u.f1.length<=100000)(he:0<=ep/\ep<=200)(hkd:1<=kd/\kd<=3)
  {R:Int->Int->List S_api_User->List S_api_Head->List S_api_Session->Prop} (hk:101000<=k) (h:R (addE ep us n kd key) ep (addU ep us n kd key) hs ss) :
  F_directory_work_add k kd c s n key e root ep us hs ss R (fun e ep hs ss us=>R e ep us hs ss):=by
 obtain⟨k,rfl⟩:∃ m,k=m+2:=⟨k-2,by omega⟩
 rw[F_directory_work_add]
 simp only[Hold_eq]
 have w1:IntKind.i64.wrap (IntKind.i64.wrap (kd-1)+1)=kd:=by rw[wrap64 (n:=kd-1) (by omega),wrap64 (by omega)];omega
 refine cond_dec (fun g=>?_) (fun g=>?_)
 ·have hE:addE ep us n kd key=2:=by unfold addE;rw[if_pos g]
  rw[addU,hE,if_neg (by decide)] at h
  exact h
 have hl:=hist_len hv n
 have key1:C_directory_work_add_5 (k+1) (nextE (hist us n) (addV ep kd key)) ep us hs ss kd c s n key e root (nextV (hist us n) (addV ep kd key)) R (fun e ep hs ss us=>R e ep us hs ss):=by
  rw[C_directory_work_add_5]
  simp only[Hold_eq]
  refine user_s k hu (by omega) (by omega) (cond_ndec (fun g2=>?_) (fun g2=>?_))
  ·have hE:addE ep us n kd key=nextE (hist us n) (addV ep kd key):=by unfold addE;rw[if_neg g,if_neg g2]
   rw[addU,hE,if_neg g2] at h
   exact h
  ·refine cond_b (fun g3=>?_) (fun g3=>?_)
   ·obtain⟨l1,l2⟩:=uHas_lt g3
    have hE:addE ep us n kd key=0:=by unfold addE;rw[if_neg g,if_pos g2,if_pos g3]
    rw[addU,hE,if_pos rfl,if_pos g3] at h
    rw[Int.toNat_natCast,l2]
    exact⟨⟨by omega,by omega⟩,h⟩
   ·have hp:=uPos_le us n
    refine cond_dec (fun g4=>?_) (fun g4=>?_)
    ·have hE:addE ep us n kd key=2:=by unfold addE;rw[if_neg g,if_pos g2,if_neg (by rw[g3];decide),if_pos (by omega)]
     rw[addU,hE,if_neg (by decide)] at h
     exact h
    ·have hE:addE ep us n kd key=0:=by unfold addE;rw[if_neg g,if_pos g2,if_neg (by rw[g3];decide),if_neg (by omega)]
     rw[addU,hE,if_pos rfl,if_neg (by rw[g3];decide)] at h
     obtain⟨k,rfl⟩:∃ m,k=m+1:=⟨k-1,by omega⟩
     rw[F_slices_Insert_api_User_api_User]
     exact⟨⟨⟨by omega,by omega⟩,rfl,by unfold room;omega⟩,h⟩
 refine history_s (k+1) hu (by omega) (by omega) ?_ ?_
 ·refine⟨⟨⟨⟨rfl,trivial,trivial,trivial,trivial⟩,trivial⟩,rfl,rfl,rfl,trivial⟩,?_⟩
  rw[w1,wrap64 (n:=ep+1) (by omega)]
  exact Next_s (k+1) (v:=addV ep kd key) hl (by omega) key1
 ·refine⟨⟨⟨⟨rfl,trivial,trivial,trivial,trivial⟩,trivial⟩,rfl,rfl,rfl,trivial⟩,?_⟩
  rw[w1,wrap64 (n:=ep+1) (by omega)]
  exact Next_s (k+1) (v:=addV ep kd key) hl (by omega) key1
def rqOld(ss:List S_api_Session)(c s:Int):Prop:=sHas ss c=true/\s<=(ss.getD (sPos ss c) S0).f1
instance (ss:List S_api_Session) (c s:Int):Decidable (rqOld ss c s):=by unfold rqOld;infer_instance
def rqE(ss:List S_api_Session)(c s:Int):Int:=if sHas ss c=true/\s<(ss.getD (sPos ss c) S0).f1 then 71 else 0
def rqU(ep:Int)(us:List S_api_User)(ss:List S_api_Session)(kd c s:Int)(n key:ByteArray):List S_api_User:=if rqOld ss c s then us else addU ep us n kd key
def rqS(ep:Int)(us:List S_api_User)(ss:List S_api_Session)(kd c s:Int)(n key:ByteArray):List S_api_Session:=
 if rqOld ss c s then ss else (if sHas ss c=true then ss else insAt ((sPos ss c:Nat):Int) ss [S_api_Session.mk c 0 0 0]).set (sPos ss c) (S_api_Session.mk c s (addE ep us n kd key) ep)
section
variable {kd c s:Int} {n key:ByteArray} {e:Int} {root:List Int} {ep:Int} {us:List S_api_User} {hs:List S_api_Head} {ss:List S_api_Session}
theorem rq9{b:List S_api_Session}{p:Nat}(hp:p<b.length)(h0:(b.getD p S0).f0=c) :
  List.set (List.set b p (S_api_Session.mk (b.getD p S0).f0 s (b.getD p S0).f2 (b.getD p S0).f3)) p (S_api_Session.mk ((List.set b p (S_api_Session.mk (b.getD p S0).f0 s (b.getD p S0).f2 (b.getD p S0).f3)).getD p S0).f0 ((List.set b p (S_api_Session.mk (b.getD p S0).f0 s (b.getD p S0).f2 (b.getD p S0).f3)).getD p S0).f1
   ((List.set b p (S_api_Session.mk (b.getD p S0).f0 s (b.getD p S0).f2 (b.getD p S0).f3)).getD p S0).f2 ep)=b.set p (S_api_Session.mk c s (b.getD p S0).f2 ep):=by
 rw[getD_set_same hp,List.set_set,h0]
theorem rq10{b:List S_api_Session}{p:Nat}{x code:Int}(hp:p<b.length) :
  List.set (b.set p (S_api_Session.mk c s x ep)) p (S_api_Session.mk ((b.set p (S_api_Session.mk c s x ep)).getD p S0).f0 ((b.set p (S_api_Session.mk c s x ep)).getD p S0).f1 code ((b.set p (S_api_Session.mk c s x ep)).getD p S0).f3)=b.set p (S_api_Session.mk c s code ep):=by
 rw[getD_set_same hp,List.set_set]
theorem request_s(k:Nat)(hu:USrt us)(hul:us.length<=64)(hv:∀ u∈us,u.f1.length<=100000)(hss:SSrt ss)(hsl:ss.length<=100)(he:0<=ep/\ep<=200)(hkd:1<=kd/\kd<=3)
  {R:Int->Int->List S_api_User->List S_api_Head->List S_api_Session->Prop} (hk:102000<=k) (h:R (rqE ss c s) ep (rqU ep us ss kd c s n key) hs (rqS ep us ss kd c s n key)) :
  F_directory_work_request k kd c s n key e root ep us hs ss R (fun e ep hs us ss=>R e ep us hs ss) R (fun e ep hs ss us=>R e ep us hs ss):=by
 obtain⟨k,rfl⟩:∃ m,k=m+6:=⟨k-6,by omega⟩
 rw[F_directory_work_request]
 simp only[Hold_eq]
 have hp:=sPos_le ss c
 refine session_s (k+5) hss (by omega) (by omega) (cond_nb (fun g=>?_) (fun g=>?_))
 ·have hno:¬rqOld ss c s:=fun h=>by have:=h.1;rw[g] at this;cases this
  have hE:rqE ss c s=0:=by unfold rqE;rw[if_neg (by rw[g];simp)]
  rw[hE,rqU,rqS,if_neg hno,if_neg hno,if_neg (by rw[g];decide)] at h
  have hl:=insAt_len (x:=S_api_Session.mk c 0 0 0) hp
  have hg:=insAt_get (x:=S_api_Session.mk c 0 0 0) (d:=S0) hp
  rw[F_slices_Insert_api_Session_api_Session]
  refine⟨⟨⟨by omega,by omega⟩,rfl,by unfold room;omega⟩,?_⟩
  rw[C_directory_work_request_8,Int.toNat_natCast]
  simp only[Hold_eq]
  refine⟨⟨by omega,by omega⟩,?_⟩
  rw[C_directory_work_request_9]
  simp only[Hold_eq]
  rw[rq9 (c:=c) (by omega) (by rw[hg])]
  rw[C_directory_work_request_10]
  simp only[Hold_eq]
  refine add_s (k+2) hu hul hv he hkd (R:=fun e ep us hs ss2=>C_directory_work_request_11 (k+2) ep us hs (List.set ss2 (sPos ss c) (S_api_Session.mk (List.getD ss2 (sPos ss c) S0).f0 (List.getD ss2 (sPos ss c) S0).f1 e (List.getD ss2 (sPos ss c) S0).f3)) R) (by omega) ?_
  show C_directory_work_request_11 (k+2) _ _ _ _ _
  rw[rq10 (by omega),C_directory_work_request_11]
  exact h
 ·obtain⟨l1,l2⟩:=sHas_lt g
  rw[Int.toNat_natCast]
  refine⟨⟨by omega,by omega⟩,cond_dec (fun g2=>?_) (fun g2=>⟨⟨by omega,by omega⟩,cond_dec (fun g3=>?_) (fun g3=>?_)⟩)⟩
  ·have ho:rqOld ss c s:=⟨g,Int.le_of_lt g2⟩
   have hE:rqE ss c s=71:=by unfold rqE;rw[if_pos ⟨g,g2⟩]
   rw[hE,rqU,rqS,if_pos ho,if_pos ho] at h
   exact h
  ·have ho:rqOld ss c s:=⟨g,Int.le_of_eq (Eq.symm g3)⟩
   have hE:rqE ss c s=0:=by unfold rqE;rw[if_neg (fun h=>g2 h.2)]
   rw[hE,rqU,rqS,if_pos ho,if_pos ho] at h
   exact h
  ·have hno:¬rqOld ss c s:=fun h=>g3 (Int.le_antisymm (Int.not_lt.1 g2) h.2)
   have hE:rqE ss c s=0:=by unfold rqE;rw[if_neg (fun h=>g2 h.2)]
   rw[hE,rqU,rqS,if_neg hno,if_neg hno,if_pos g] at h
   rw[C_directory_work_request_8_1,Int.toNat_natCast]
   simp only[Hold_eq]
   refine⟨⟨by omega,by omega⟩,?_⟩
   rw[C_directory_work_request_9_1]
   simp only[Hold_eq]
   rw[rq9 (c:=c) l1 l2]
   rw[C_directory_work_request_10_1]
   simp only[Hold_eq]
   refine add_s (k+2) hu hul hv he hkd (R:=fun e ep us hs ss2=>C_directory_work_request_11 (k+2) ep us hs (List.set ss2 (sPos ss c) (S_api_Session.mk (List.getD ss2 (sPos ss c) S0).f0 (List.getD ss2 (sPos ss c) S0).f1 e (List.getD ss2 (sPos ss c) S0).f3)) R) (by omega) ?_
   show C_directory_work_request_11 (k+2) _ _ _ _ _
   rw[rq10 l1,C_directory_work_request_11]
   exact h
end
end Go.V
