import Derived.Test.YtgeonfbhejigjaaGreatDoorVI10U
set_option linter.unusedVariables false
set_option linter.unusedSimpArgs false
set_option maxRecDepth 4000
namespace Go.V
abbrev U0:S_api_User:=S_api_User.mk ByteArray.empty ([]:List S_api_Version)
abbrev H0:S_api_Head:=S_api_Head.mk 0 z32 z32
abbrev S0:S_api_Session:=S_api_Session.mk 0 0 0 0
def headD(h:S_api_Head):List Int:=if 1<=h.f0/\h.f0<=200 then shaL (grp h.f0.toNat++h.f1++h.f2) else z32
def HeadOk(h:S_api_Head):Prop:=Dig h.f1/\Dig h.f2
theorem head_Digest_s(k:Nat){h:S_api_Head}{K:List Int->Int->Prop}(hh:HeadOk h)(hk:5000<=k)(g:∀ e,K (headD h) e):F_head_Digest k h.f0 h.f1 h.f2 K:=by
 obtain⟨k,rfl⟩:∃ m,k=m+2:=⟨k-2,by omega⟩
 rw[F_head_Digest]
 simp only[Hold_eq]
 rw[F_head_Bytes]
 simp only[Hold_eq]
 unfold headD at g
 have l1:=hh.1.1
 have l2:=hh.2.1
 refine cond_dec (fun h1=>?_) (fun h1=>cond_dec (fun h2=>?_) (fun h2=>?_))
 ·rw[if_neg (by omega)] at g
  exact cond_ndec (fun _=>g _) (fun e=>by cases e)
 ·rw[if_neg (by omega)] at g
  exact cond_ndec (fun _=>g _) (fun e=>by cases e)
 ·rw[if_pos (by omega)] at g
  obtain⟨n,hn⟩:=Int.eq_ofNat_of_zero_le (by omega:0<=h.f0)
  rw[hn,Int.toNat_natCast] at g
  rw[hn]
  have lg:=(grp_len 4 n (by have:(128:Nat) ^ 5=34359738368:=rfl;omega)).1
  refine PutCount_s n k [] (by omega) (by omega) (by simp) ?_
  rw[List.nil_append]
  refine PutDigest_s k _ _ (by omega) hh.1 (by omega) (PutDigest_s k _ _ (by omega) hh.2 (by rw[List.length_append];omega) ?_)
  refine cond_ndec (fun e=>absurd trivial e) (fun _=>?_)
  exact sha_Sum_s (k+1) (by rw[List.length_append,List.length_append];omega) (by rw[List.length_append,List.length_append];omega) (g 0)
def prevL(l:List S_api_Head)(j:Nat):List Int:=if j=0 then z32 else headD (l.getD (j-1) H0)
theorem prev_s(k:Nat){l:List S_api_Head}{j:Nat}{K:List Int->Prop}(hl:∀ h∈l,HeadOk h)(hj:j<=l.length)(hn:l.length<=100000)(hk:5010<=k)(g:K (prevL l j)):F_directory_prev k (l.take j) K:=by
 obtain⟨k,rfl⟩:∃ m,k=m+1:=⟨k-1,by omega⟩
 rw[F_directory_prev]
 simp only[Hold_eq]
 have e:(l.take j).length=j:=by rw[List.length_take];omega
 rw[e]
 unfold prevL at g
 refine cond_dec (fun h1=>?_) (fun h1=>?_)
 ·rw[if_pos (by omega)] at g;exact g
 ·rw[if_neg (by omega)] at g
  have e2:IntKind.i64.wrap ((j:Int)-1)=((j-1:Nat):Int):=by rw[wrap64 (by omega)];omega
  rw[e2,Int.toNat_natCast]
  have h2:j-1<(l.take j).length:=by omega
  have h3:j-1<l.length:=by omega
  rw[getD_at h2,List.getElem_take]
  rw[getD_at h3] at g
  exact⟨by omega,head_Digest_s k (hl _ (List.getElem_mem h3)) (by omega) fun _=>g⟩
def headsGo(l:List S_api_Head):Nat->Nat->Bool
 | 0,_=>true
 | m+1,j=>(decide ((l.getD j H0).f0=((j+1:Nat):Int))&&decide ((l.getD j H0).f2=prevL l j))&&headsGo l m (j+1)
def headsB(l:List S_api_Head):Bool:=headsGo l l.length 0
def sessOk(was e:Int)(s:S_api_Session):Bool:=decide (was<s.f0)&&(decide (s.f0<=4)&&((decide (1<=s.f1)&&decide (s.f1<=1000000))&&((decide (0<=s.f2)&&decide (s.f2<=65535))&&(decide (0<=s.f3)&&decide (s.f3<=e)))))
def sessGo(e:Int):Int->List S_api_Session->Bool
 | _,[]=>true
 | was,s::l=>sessOk was e s&&sessGo e s.f0 l
def wasC(l:List S_api_Session)(j:Nat):Int:=if j=0 then 0 else (l.getD (j-1) S0).f0
theorem wasC_succ{l:List S_api_Session}{j:Nat}(h:j<l.length):wasC l (j+1)=l[j].f0:=by unfold wasC;rw[if_neg (by omega),Nat.add_sub_cancel,getD_at h]
def userOk(was:ByteArray)(e:Int)(u:S_api_User):Bool:=slt was u.f0&&(nameB u.f0&&(decide (0<u.f1.length)&&(versB u.f1&&decide (wasE u.f1 u.f1.length<=e+1))))
def usersGo(e:Int):ByteArray->List S_api_User->Bool
 | _,[]=>true
 | was,u::l=>userOk was e u&&usersGo e u.f0 l
def wasN(l:List S_api_User)(j:Nat):ByteArray:=if j=0 then str0 else (l.getD (j-1) U0).f0
theorem wasN_succ{l:List S_api_User}{j:Nat}(h:j<l.length):wasN l (j+1)=l[j].f0:=by unfold wasN;rw[if_neg (by omega),Nat.add_sub_cancel,getD_at h]
theorem versGo_last:∀ (l:List S_api_Version) (e d:Int),versGo e d l=true->∀ j,j<l.length->1<=(l.getD j (S_api_Version.mk 0 0 .empty)).f0/\(l.getD j (S_api_Version.mk 0 0 .empty)).f0<=200
 | [],_,_,_,j,hj=>by simp at hj
 | v::l,e,d,h,j,hj=>by
  rw[versGo,Bool.and_eq_true,Bool.and_eq_true] at h
  cases j with
  | zero=>
   have:=h.1.1
   unfold mayV at this
   rw[Bool.and_eq_true,Bool.and_eq_true] at this
   exact⟨of_decide_eq_true this.1.1,of_decide_eq_true this.1.2⟩
  | succ j=>exact versGo_last l _ _ h.2 j (by simpa using hj)
theorem wasE_end{l:List S_api_Version}(h:0<l.length):wasE l l.length=(l.getD (l.length-1) (S_api_Version.mk 0 0 .empty)).f0:=by unfold wasE;rw[if_neg (by omega)]
theorem versB_last{l:List S_api_Version}(h:versB l=true)(h0:0<l.length):1<=wasE l l.length/\wasE l l.length<=200:=by
 unfold versB at h
 rw[Bool.and_eq_true] at h
 rw[wasE_end h0]
 exact versGo_last l 0 0 h.2 _ (by omega)
def dirB(e:Int)(us:List S_api_User)(hs:List S_api_Head)(ss:List S_api_Session):Bool:=
 (decide (0<=e)&&decide (e<=200))&&(decide (us.length<=64)&&(decide ((hs.length:Int)<=e)&&(decide (ss.length<=4)&&(usersGo e str0 us&&(headsB hs&&sessGo e 0 ss)))))
end Go.V
