import Derived.Test.YtgeonfbhejigjaaGreatDoorVI10Z
set_option linter.unusedVariables false
set_option linter.unusedSimpArgs false
set_option maxRecDepth 4000
namespace Go.V
theorem cloneU_s(k:Nat){l:List S_api_User}{K:List S_api_User->Prop}(hn:l.length<=1000000)(hk:1<=k)(h:K l):F_slices_Clone_api_User_api_User k l K:=by
 obtain⟨k,rfl⟩:∃ m,k=m+1:=⟨k-1,by omega⟩
 rw[F_slices_Clone_api_User_api_User]
 intro b hb
 refine cond_b (fun e=>?_) (fun e=>?_)
 ·have:=hb e
  subst this
  exact h
 ·exact⟨by unfold room;simp only[List.length_nil];omega,by rw[List.nil_append];exact h⟩
theorem cloneV_s(k:Nat){l:List S_api_Version}{K:List S_api_Version->Prop}(hn:l.length<=1000000)(hk:1<=k)(h:K l):F_slices_Clone_api_Version_api_Version k l K:=by
 obtain⟨k,rfl⟩:∃ m,k=m+1:=⟨k-1,by omega⟩
 rw[F_slices_Clone_api_Version_api_Version]
 intro b hb
 refine cond_b (fun e=>?_) (fun e=>?_)
 ·have:=hb e
  subst this
  exact h
 ·exact⟨by unfold room;simp only[List.length_nil];omega,by rw[List.nil_append];exact h⟩
theorem cloneH_s(k:Nat){l:List S_api_Head}{K:List S_api_Head->Prop}(hn:l.length<=1000000)(hk:1<=k)(h:K l):F_slices_Clone_api_Head_api_Head k l K:=by
 obtain⟨k,rfl⟩:∃ m,k=m+1:=⟨k-1,by omega⟩
 rw[F_slices_Clone_api_Head_api_Head]
 intro b hb
 refine cond_b (fun e=>?_) (fun e=>?_)
 ·have:=hb e
  subst this
  exact h
 ·exact⟨by unfold room;simp only[List.length_nil];omega,by rw[List.nil_append];exact h⟩
theorem cloneS_s(k:Nat){l:List S_api_Session}{K:List S_api_Session->Prop}(hn:l.length<=1000000)(hk:1<=k)(h:K l):F_slices_Clone_api_Session_api_Session k l K:=by
 obtain⟨k,rfl⟩:∃ m,k=m+1:=⟨k-1,by omega⟩
 rw[F_slices_Clone_api_Session_api_Session]
 intro b hb
 refine cond_b (fun e=>?_) (fun e=>?_)
 ·have:=hb e
  subst this
  exact h
 ·exact⟨by unfold room;simp only[List.length_nil];omega,by rw[List.nil_append];exact h⟩
theorem begin_loop{e:Int}{us:List S_api_User}{hs:List S_api_Head}{ss:List S_api_Session}(hu:us.length<=64)(hv:∀ u∈us,u.f1.length<=100000)(hh:hs.length<=100000)(hn:ss.length<=100000)
  {K:Int->List S_api_User->List S_api_Head->List S_api_Session->Prop} (h:K e us hs ss):∀ (m j k:Nat),j+m=us.length->m+2<=k->C_directory_begin_3 k (us.length:Int) (j:Int) e hs ss us K:=by
 intro m
 induction m with
 | zero=>
  intro j k hj hk
  obtain⟨k,rfl⟩:∃ m,k=m+1:=⟨k-1,by omega⟩
  rw[C_directory_begin_3]
  simp only[Hold_eq]
  exact cond_dec (fun e=>by omega) (fun _=>cloneH_s k (by omega) (by omega) (cloneS_s k (by omega) (by omega) h))
 | succ m ih=>
  intro j k hj hk
  obtain⟨k,rfl⟩:∃ m,k=m+1:=⟨k-1,by omega⟩
  have hjl:j<us.length:=by omega
  rw[C_directory_begin_3]
  simp only[Hold_eq]
  rw[Int.toNat_natCast,getD_at hjl,step64 j (by omega)]
  refine cond_dec (fun _=>⟨⟨by omega,by omega⟩,cloneV_s k (by have:=hv us[j] (List.getElem_mem hjl);omega) (by omega) ⟨⟨by omega,by omega⟩,?_⟩⟩) (fun e=>by omega)
  rw[show us.set j (S_api_User.mk us[j].f0 us[j].f1)=us from List.set_getElem_self hjl]
  exact ih (j+1) k (by omega) (by omega)
theorem begin_s(k:Nat){e:Int}{us:List S_api_User}{hs:List S_api_Head}{ss:List S_api_Session}(hu:us.length<=64)(hv:∀ u∈us,u.f1.length<=100000)(hh:hs.length<=100000)(hn:ss.length<=100000)
  {K:Int->List S_api_User->List S_api_Head->List S_api_Session->Prop} (hk:100<=k) (h:K e us hs ss):F_directory_begin k e us hs ss K:=by
 obtain⟨k,rfl⟩:∃ m,k=m+1:=⟨k-1,by omega⟩
 rw[F_directory_begin]
 simp only[Hold_eq]
 exact cloneU_s k (by omega) (by omega) (begin_loop hu hv hh hn h us.length 0 k (by omega) (by omega))
def atV(l:List S_api_Version)(ep:Int):List S_api_Version:=if versB l=true then l.takeWhile fun v=>decide (v.f0<=ep) else []
theorem takeWhile_all{α:Type}{p:α->Bool}:∀ {l:List α},(∀ x∈l,p x=true)->l.takeWhile p=l
 | [],_=>rfl
 | x::l,h=>by rw[List.takeWhile_cons_of_pos (h x (by simp)),takeWhile_all fun y hy=>h y (List.mem_cons_of_mem _ hy)]
theorem versIndex_loop{l:List S_api_Version}{ep:Int}(hn:l.length<=16){K:Int->Int->Prop}(h1:l.takeWhile (fun v=>decide (v.f0<=ep))=l->K (-1) ep)(h2:∀ j:Nat,j<=l.length->l.takeWhile (fun v=>decide (v.f0<=ep))=l.take j->K (j:Int) ep) :
  ∀ (m j k:Nat),j+m=l.length->m+2<=k->(∀ v∈l.take j,v.f0<=ep)->C_slices_IndexFunc_api_Version_api_Version_2 k l (l.length:Int) (j:Int) ep K:=by
 intro m
 induction m with
 | zero=>
  intro j k hj hk h
  obtain⟨k,rfl⟩:∃ m,k=m+1:=⟨k-1,by omega⟩
  rw[C_slices_IndexFunc_api_Version_api_Version_2]
  simp only[Hold_eq]
  rw[List.take_of_length_le (by omega)] at h
  refine cond_dec (fun e=>by omega) (fun _=>h1 ?_)
  exact takeWhile_all fun v hv=>decide_eq_true (h v hv)
 | succ m ih=>
  intro j k hj hk h
  obtain⟨k,rfl⟩:∃ m,k=m+2:=⟨k-2,by omega⟩
  have hjl:j<l.length:=by omega
  rw[C_slices_IndexFunc_api_Version_api_Version_2]
  simp only[Hold_eq]
  rw[Int.toNat_natCast,getD_at hjl,step64 j (by omega)]
  refine cond_dec (fun _=>⟨⟨by omega,by omega⟩,?_⟩) (fun e=>by omega)
  rw[F_version_At_1]
  refine cond_dec (fun g=>h2 j (by omega) ?_) (fun g=>ih (j+1) (k+1) (by omega) (by omega) ?_)
  ·conv=>lhs;rw[<-List.take_append_drop j l]
   rw[List.takeWhile_append_of_pos fun v hv=>decide_eq_true (h v hv),drop_cons hjl,List.takeWhile_cons_of_neg (by simp;omega),List.append_nil]
  ·rw[List.take_succ_eq_append_getElem hjl]
   intro v hv
   rcases List.mem_append.1 hv with hv|hv
   ·exact h v hv
   ·obtain rfl:=List.mem_singleton.1 hv;omega
theorem At_s2(k:Nat){l:List S_api_Version}{ep:Int}{K:List S_api_Version->Prop}(hk:200<=k)(h:K (atV l ep)):F_version_At k l ep K:=by
 obtain⟨k,rfl⟩:∃ m,k=m+2:=⟨k-2,by omega⟩
 rw[F_version_At]
 simp only[Hold_eq]
 unfold atV at h
 refine version_Check_s (k+1) (by omega) ?_
 cases hb:versB l with
 | false=>rw[hb,if_neg (by decide)] at h;exact h
 | true=>
  rw[hb,if_pos rfl] at h
  have hn:l.length<=16:=by
   unfold versB at hb
   rw[Bool.and_eq_true] at hb
   exact of_decide_eq_true hb.1
  show cond (!decide ((0:Int)=0)) _ _
  rw[decide_eq_true rfl,Bool.not_true,cond_false,F_slices_IndexFunc_api_Version_api_Version]
  simp only[Hold_eq]
  refine versIndex_loop hn (fun e=>?_) (fun j hj e=>?_) l.length 0 k (by omega) (by omega) (by simp)
  ·refine cond_dec (fun _=>⟨⟨by omega,by omega⟩,?_⟩) (fun e=>absurd (by decide) e)
   rw[Int.toNat_natCast,List.take_length]
   exact cloneV_s (k+1) (by omega) (by omega) (by rw[e] at h;exact h)
  ·refine cond_dec (fun e=>by omega) (fun _=>⟨⟨by omega,by omega⟩,?_⟩)
   rw[Int.toNat_natCast]
   exact cloneV_s (k+1) (by rw[List.length_take];omega) (by omega) (by rw[e] at h;exact h)
def keyBytes(s:ByteArray):List Int:=grp s.size++bytesTo s
def verBytes(v:S_api_Version):List Int:=grp v.f0.toNat++(grp v.f1.toNat++keyBytes v.f2)
def bytesV(l:List S_api_Version):List Int:=grp l.length++(l.map verBytes).flatten
def verD(l:List S_api_Version):List Int:=if versB l=true then shaL (bytesV l) else z32
theorem mayV_all:∀ {l:List S_api_Version} {e d:Int},versGo e d l=true->∀ v∈l,mayV v=true
 | [],e,d,h,v,hv=>by cases hv
 | x::l,e,d,h,v,hv=>by
  unfold versGo at h
  simp only[Bool.and_eq_true] at h
  rcases List.mem_cons.1 hv with rfl|hv
  ·exact h.1.1
  ·exact mayV_all h.2 v hv
theorem mayV_facts{v:S_api_Version}(h:mayV v=true):(1<=v.f0/\v.f0<=200)/\(1<=v.f1/\v.f1<=3)/\v.f2.size<=64:=by
 unfold mayV at h
 cases hc:(decide (v.f1=1)||decide (v.f1=2)) with
 | true=>
  rw[hc] at h
  simp only[Bool.and_eq_true,decide_eq_true_eq,cond_true,Bool.or_eq_true] at h hc
  omega
 | false=>
  rw[hc] at h
  simp only[Bool.and_eq_true,decide_eq_true_eq,cond_false] at h
  omega
theorem bytesTo_len(s:ByteArray):(bytesTo s).length=s.size:=by unfold bytesTo;rw[List.length_map,Array.length_toList];rfl
theorem bytesTo_B8(s:ByteArray):B8 (bytesTo s):=by
 intro x hx
 unfold bytesTo at hx
 obtain⟨b,-,rfl⟩:=List.mem_map.1 hx
 have:=b.toNat_lt
 omega
theorem grp_len200{n:Nat}(h:n<=200):(grp n).length<=2:=by have:=(grp_len 1 n (by omega)).1;omega
theorem verBytes_len{v:S_api_Version}(h:mayV v=true):(verBytes v).length<=70/\B8 (verBytes v):=by
 obtain⟨h1,h2,h3⟩:=mayV_facts h
 have g1:=grp_len200 (n:=v.f0.toNat) (by omega)
 have g2:=grp_len200 (n:=v.f1.toNat) (by omega)
 have g3:=grp_len200 (n:=v.f2.size) (by omega)
 unfold verBytes keyBytes
 refine⟨?_,(grp_B8 _).append ((grp_B8 _).append ((grp_B8 _).append ?_))⟩
 ·simp only[List.length_append,bytesTo_len];omega
 ·exact bytesTo_B8 _
theorem count_s(k n:Nat){b:List Int}{K:List Int->List Int->Prop}(hn:n<=200)(hk:1000<=k)(hb:b.length<=1000000)(h:K b (b++grp n)):F_version_laid_count k (n:Int) b K:=by
 obtain⟨k,rfl⟩:∃ m,k=m+1:=⟨k-1,by omega⟩
 rw[F_version_laid_count]
 simp only[Hold_eq]
 exact PutCount_s n k b (by omega) (by omega) (by omega) h
theorem PutBytes_s(k:Nat){b:List Int}{s:ByteArray}{K:List Int->Int->Prop}(hs:s.size<=64)(hk:1000<=k)(hb:b.length<=1000000)(h:∀ e,K (b++keyBytes s) e):F_octet_PutBytes k b s K:=by
 obtain⟨k,rfl⟩:∃ m,k=m+1:=⟨k-1,by omega⟩
 rw[F_octet_PutBytes]
 simp only[Hold_eq]
 refine cond_dec (fun e=>by omega) (fun _=>PutCount_s s.size k b (by omega) (by omega) (by omega) ⟨?_,?_⟩)
 ·have:=grp_len200 (n:=s.size) (by omega)
  unfold room
  rw[List.length_append,bytesTo_len]
  omega
 ·rw[List.append_assoc];exact h _
theorem Put_loop{l:List S_api_Version}(hl:∀ v∈l,mayV v=true)(hn:l.length<=16){K:List Int->Int->Prop}:∀ (m j k:Nat) (acc:List Int),j+m=l.length->m+2000<=k->acc.length+70*m<=100000->K (acc++((l.drop j).map verBytes).flatten) 0 →
  C_version_Put_8 k l (l.length:Int) (j:Int) acc K:=by
 intro m
 induction m with
 | zero=>
  intro j k acc hj hk ha h
  obtain⟨k,rfl⟩:∃ m,k=m+1:=⟨k-1,by omega⟩
  rw[C_version_Put_8]
  simp only[Hold_eq]
  rw[List.drop_of_length_le (by omega),List.map_nil,List.flatten_nil,List.append_nil] at h
  exact cond_dec (fun e=>by omega) (fun _=>h)
 | succ m ih=>
  intro j k acc hj hk ha h
  obtain⟨k,rfl⟩:∃ m,k=m+1:=⟨k-1,by omega⟩
  have hjl:j<l.length:=by omega
  have hm:=hl l[j] (List.getElem_mem hjl)
  obtain⟨h1,h2,h3⟩:=mayV_facts hm
  have hvl:=(verBytes_len hm).1
  rw[C_version_Put_8]
  simp only[Hold_eq]
  rw[Int.toNat_natCast,getD_at hjl,step64 j (by omega)]
  refine cond_dec (fun _=>⟨⟨by omega,by omega⟩,?_⟩) (fun e=>by omega)
  have e1:l[j].f0=((l[j].f0.toNat:Nat):Int):=by omega
  have e2:l[j].f1=((l[j].f1.toNat:Nat):Int):=by omega
  have g1:=grp_len200 (n:=l[j].f0.toNat) (by omega)
  have g2:=grp_len200 (n:=l[j].f1.toNat) (by omega)
  rw[e1,e2]
  refine count_s k _ (by omega) (by omega) (by omega) (count_s k _ (by omega) (by omega) (by rw[List.length_append];omega) (PutBytes_s k h3 (by omega) (by rw[List.length_append,List.length_append];omega) fun e=>?_))
  have e3:acc++grp l[j].f0.toNat++grp l[j].f1.toNat++keyBytes l[j].f2=acc++verBytes l[j]:=by unfold verBytes;simp only[List.append_assoc]
  rw[e3]
  refine ih (j+1) k _ (by omega) (by omega) (by rw[List.length_append];omega) ?_
  rw[drop_cons hjl,List.map_cons,List.flatten_cons] at h
  rw[List.append_assoc]
  exact h
theorem flat_le{l:List S_api_Version}(hl:∀ v∈l,mayV v=true):((l.map verBytes).flatten).length<=70*l.length:=by
 induction l with
 | nil=>simp
 | cons v l ih=>
  rw[List.map_cons,List.flatten_cons,List.length_append,List.length_cons]
  have:=(verBytes_len (hl v (by simp))).1
  have:=ih fun x hx=>hl x (List.mem_cons_of_mem _ hx)
  omega
theorem versB_facts{l:List S_api_Version}(h:versB l=true):l.length<=16/\∀ v∈l,mayV v=true:=by
 unfold versB at h
 rw[Bool.and_eq_true] at h
 exact⟨of_decide_eq_true h.1,mayV_all h.2⟩
theorem bytesV_len{l:List S_api_Version}(h:versB l=true):(bytesV l).length<=1200:=by
 obtain⟨h1,h2⟩:=versB_facts h
 have:=flat_le h2
 have:=grp_len200 (n:=l.length) (by omega)
 unfold bytesV
 rw[List.length_append];omega
theorem version_Digest_s(k:Nat){l:List S_api_Version}{K:List Int->Int->Prop}(hk:6000<=k)(h:∀ e,K (verD l) e):F_version_Digest k l K:=by
 obtain⟨k,rfl⟩:∃ m,k=m+2:=⟨k-2,by omega⟩
 rw[F_version_Digest]
 simp only[Hold_eq]
 rw[F_version_Put]
 simp only[Hold_eq]
 refine version_Check_s k (by omega) ?_
 unfold verD at h
 cases hb:versB l with
 | false=>
  rw[hb,if_neg (by decide)] at h
  exact h _
 | true=>
  rw[hb,if_pos rfl] at h
  obtain⟨h1,h2⟩:=versB_facts hb
  have hl:=bytesV_len hb
  show cond (!decide ((0:Int)=0)) _ _
  rw[decide_eq_true rfl,Bool.not_true,cond_false]
  have:=flat_le h2
  refine count_s k l.length (by omega) (by omega) (by simp) (Put_loop h2 h1 l.length 0 k _ (by omega) (by omega) ?_ ?_)
  ·have:=grp_len200 (n:=l.length) (by omega)
   rw[List.nil_append];omega
  ·show cond (!decide ((0:Int)=0)) _ _
   rw[decide_eq_true rfl,Bool.not_true,cond_false,List.nil_append,List.drop_zero]
   exact sha_Sum_s (k+1) (m:=bytesV l) (by omega) (by omega) (h _)
def pathL(s:ByteArray):List Int:=shaL (bytesTo s)
theorem path_Of_s(k:Nat){s:ByteArray}{K:List Int->Prop}(hs:s.size<=100000)(hk:110000<=k)(h:K (pathL s)):F_path_Of k s K:=by
 obtain⟨k,rfl⟩:∃ m,k=m+1:=⟨k-1,by omega⟩
 rw[F_path_Of]
 simp only[Hold_eq]
 exact⟨by unfold maxStr;omega,sha_Sum_s k (by rw[bytesTo_len];omega) (by rw[bytesTo_len];omega) h⟩
def nextE(l:List S_api_Version)(v:S_api_Version):Int:=
 if versB l=true/\mayV v=true/\wasE l l.length<=v.f0 then
  if v.f1=1 then (if openK (wasK l l.length)=true then (if l.length=16 then 2 else 0) else 51)
  else (if openK (wasK l l.length)=true then 52 else if l.length=16 then 2 else 0)
 else 50
def nextV(l:List S_api_Version)(v:S_api_Version):List S_api_Version:=if nextE l v=0 then l++[v] else []
theorem next8_s(k:Nat){l:List S_api_Version}{v:S_api_Version}{K:List S_api_Version->Int->Prop}(hn:l.length<=16)(hk:3<=k)(h:if l.length=16 then K [] 2 else K (l++[v]) 0):C_version_Next_8 k l v.f0 v.f1 v.f2 K:=by
 obtain⟨k,rfl⟩:∃ m,k=m+1:=⟨k-1,by omega⟩
 rw[C_version_Next_8]
 simp only[Hold_eq]
 refine cond_dec (fun e=>?_) (fun e=>?_)
 ·rw[if_pos (by omega)] at h;exact h
 ·rw[if_neg (by omega)] at h
  exact cloneV_s k (by omega) (by omega) ⟨by unfold room;simp only[List.length_cons,List.length_nil];omega,h⟩
theorem Next_s(k:Nat){l:List S_api_Version}{v:S_api_Version}{K:List S_api_Version->Int->Prop}(hn:l.length<=100000)(hk:200<=k)(h:K (nextV l v) (nextE l v)):F_version_Next k l v.f0 v.f1 v.f2 K:=by
 obtain⟨k,rfl⟩:∃ m,k=m+1:=⟨k-1,by omega⟩
 rw[F_version_Next]
 simp only[Hold_eq]
 have bad:∀ e:Int,nextE l v=e->e≠0->K [] e:=by
  intro e he h0
  rw[nextV,he,if_neg h0] at h
  exact h
 have hl:=fun K h=>last_s (K:=K) k (l:=l) (j:=l.length) (Nat.le_refl _) hn (by omega) h
 rw[List.take_length] at hl
 refine hl _ fun key=>version_Check_s k (by omega) ?_
 cases hb:versB l with
 | false=>exact bad 50 (by unfold nextE;rw[if_neg (by rw[hb];simp)]) (by decide)
 | true=>
  have hn16:=(versB_facts hb).1
  show cond (!decide ((0:Int)=0)) _ _
  rw[decide_eq_true rfl,Bool.not_true,cond_false]
  refine version_may_s k (by omega) (cond_nb (fun hm=>?_) (fun hm=>?_))
  ·exact bad 50 (by unfold nextE;rw[if_neg (by rw[hm];simp)]) (by decide)
  refine cond_dec (fun he=>?_) (fun he=>?_)
  ·exact bad 50 (by unfold nextE;rw[if_neg (fun g=>by have:=g.2.2;omega)]) (by decide)
  ·have hg:versB l=true/\mayV v=true/\wasE l l.length<=v.f0:=⟨hb,hm,by omega⟩
   have fin:nextE l v=(if l.length=16 then 2 else 0)->C_version_Next_8 k l v.f0 v.f1 v.f2 K:=by
    intro g
    refine next8_s k hn16 (by omega) ?_
    by_cases h16:l.length=16
    ·rw[if_pos h16] at g ⊢;exact bad 2 g (by decide)
    ·rw[if_neg h16] at g ⊢
     rw[nextV,g,if_pos rfl] at h;exact h
   refine cond_dec (fun h1=>?_) (fun h1=>?_)
   ·refine open_s k (by omega) (cond_nb (fun ho=>?_) (fun ho=>?_))
    ·exact bad 51 (by unfold nextE;rw[if_pos hg,if_pos h1,if_neg (by rw[ho];decide)]) (by decide)
    ·exact cond_ndec (fun g=>absurd h1 g) (fun _=>fin (by unfold nextE;rw[if_pos hg,if_pos h1,if_pos ho]))
   ·refine cond_ndec (fun _=>?_) (fun g=>absurd g h1)
    refine open_s k (by omega) (cond_b (fun ho=>?_) (fun ho=>?_))
    ·exact bad 52 (by unfold nextE;rw[if_pos hg,if_neg h1,if_pos ho]) (by decide)
    ·exact fin (by unfold nextE;rw[if_pos hg,if_neg h1,if_neg (by rw[ho];decide)])
end Go.V
