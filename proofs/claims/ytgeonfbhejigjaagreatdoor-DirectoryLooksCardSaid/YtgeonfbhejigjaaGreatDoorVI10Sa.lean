import Derived.Test.YtgeonfbhejigjaaGreatDoorVI10Rj
set_option linter.unusedVariables false
set_option linter.unusedSimpArgs false
set_option maxRecDepth 8000
namespace Go.V
theorem r01_Groups_s:∀ (n k:Nat) {K:List Int->Prop},n<4294967296->n+1<=k->K (grp n)->F_r01_Groups k (n:Int) K:=by
 intro n
 induction n using Nat.strongRecOn with
 | _ n ih=>
  intro k K hn hk h
  obtain⟨k,rfl⟩:∃ m,k=m+1:=⟨k-1,by omega⟩
  simp only[F_r01_Groups,Hold_eq]
  refine cond_dec (fun h1=>?_) (fun h1=>?_)
  ·rw[grp_small (by omega)] at h
   rw[wrap8 (by omega)]
   exact h
  ·rw[grp_big (by omega)] at h
   refine⟨by decide,by decide,?_⟩
   rw[grp_div,wrap64 (by omega),grp_mod,wrap64 (by omega),wrap8 (by omega)]
   refine ih (n / 128) (by omega) k (by omega) (by omega) ⟨?_,?_⟩
   ·have:=grp_len 4 (n / 128) (by have:(128:Nat) ^ 5=34359738368:=rfl;omega)
    unfold room
    simp
    omega
   ·simpa using h
theorem r10_within_s(k:Nat){n a b:Int}{K:Bool->Prop}(hk:1<=k)(h:K (decide (a<=n)&&decide (n<=b))):F_r10_within k n a b K:=by
 obtain⟨k,rfl⟩:∃ m,k=m+1:=⟨k-1,by omega⟩
 rw[F_r10_within]
 refine cond_dec (fun h1=>?_) (fun h1=>?_)
 ·rw[decide_eq_true h1,Bool.true_and] at h;exact h
 ·rw[decide_eq_false h1,Bool.false_and] at h;exact h
theorem r10_Name_s(k:Nat){s:ByteArray}{K:Bool->Prop}(hk:1<=k)(h:K (nameB s)):F_r10_Name k s K:=by
 obtain⟨k,rfl⟩:∃ m,k=m+1:=⟨k-1,by omega⟩
 rw[F_r10_Name]
 unfold nameB at h
 refine cond_dec (fun h1=>?_) (fun h1=>?_)
 ·rw[decide_eq_true (by omega),Bool.true_and] at h
  rw[show (32:Int)=((32:Nat):Int) from rfl,nat_le];exact h
 ·rw[decide_eq_false (by omega),Bool.false_and] at h;exact h
theorem r07_May_s(k:Nat){v:S_api_Version}{K:Bool->Prop}(hk:1<=k)(h:K (mayV v)):F_r07_May k v.f0 v.f1 v.f2 K:=by
 obtain⟨k,rfl⟩:∃ m,k=m+1:=⟨k-1,by omega⟩
 rw[F_r07_May]
 unfold mayV at h
 have key:(decide (v.f1=1)||decide (v.f1=2))=true->K (cond (decide (v.f1=1)||decide (v.f1=2)) (decide (1<=v.f2.size)&&decide (v.f2.size<=64)) (decide (v.f1=3)&&decide (v.f2.size=0))) →
   cond (decide ((1:Int)<=((ByteArray.size v.f2:Nat):Int))) (K (decide (((ByteArray.size v.f2:Nat):Int)<=(64:Int)))) (K false):=by
  intro hd h
  rw[hd,cond_true] at h
  refine cond_dec (fun h1=>?_) (fun h1=>?_)
  ·rw[decide_eq_true (by omega),Bool.true_and] at h
   rw[show (64:Int)=((64:Nat):Int) from rfl,nat_le];exact h
  ·rw[decide_eq_false (by omega),Bool.false_and] at h;exact h
 refine cond_dec (fun h1=>?_) (fun h1=>cond_dec (fun h2=>?_) (fun h2=>?_))
 ·rw[decide_eq_false (by omega),Bool.false_and,Bool.false_and] at h;exact h
 ·rw[decide_eq_false (by omega:¬v.f0<=200),Bool.and_false,Bool.false_and] at h;exact h
 ·rw[decide_eq_true (by omega:1<=v.f0),decide_eq_true (by omega:v.f0<=200),Bool.true_and,Bool.true_and] at h
  refine cond_dec (fun h3=>cond_dec (fun h4=>key (by simp[h3]) h) (fun h4=>absurd h3 h4)) (fun h3=>cond_dec (fun h4=>key (by simp[h4]) h) (fun h4=>?_))
  rw[decide_eq_false h3,decide_eq_false h4,Bool.or_false,cond_false] at h
  refine cond_dec (fun h5=>?_) (fun h5=>?_)
  ·rw[decide_eq_true h5,Bool.true_and,<-seq_str0] at h;exact h
  ·rw[decide_eq_false h5,Bool.false_and] at h;exact h
theorem follows_s(k:Nat){d:Int}{v:S_api_Version}{K:Bool->Prop}(hv:mayV v=true)(hk:1<=k)(h:K (openK d==decide (v.f1=1))):F_r07_follows k d v.f1 K:=by
 obtain⟨k,rfl⟩:∃ m,k=m+1:=⟨k-1,by omega⟩
 rw[F_r07_follows]
 unfold openK at h
 have h3:v.f1=1\/v.f1=2\/v.f1=3:=by
  unfold mayV at hv
  rw[Bool.and_eq_true] at hv
  have:=hv.2
  by_cases g1:v.f1=1
  ·exact .inl g1
  ·by_cases g2:v.f1=2
   ·exact .inr (.inl g2)
   ·rw[decide_eq_false g1,decide_eq_false g2,Bool.or_false,cond_false,Bool.and_eq_true] at this
    exact .inr (.inr (of_decide_eq_true this.1))
 refine cond_dec (fun h1=>?_) (fun h1=>cond_dec (fun h2=>?_) (fun h2=>?_))
 ·rw[decide_eq_true h1,Bool.true_or] at h;simpa using h
 ·rw[decide_eq_true h2,Bool.or_true] at h;simpa using h
 ·rw[decide_eq_false h1,decide_eq_false h2,Bool.or_false] at h
  rcases h3 with g|g|g<;>rw[g] at h ⊢ <;> exact h
theorem Is_loop{l:List S_api_Version}(hn:l.length<=100000):∀ (m j k:Nat) (e d:Int) (key:ByteArray) {K:Bool->Prop},j+m=l.length->m+10<=k->K (versGo e d (l.drop j)&&decide (l.length<=16))->C_r07_Is_3 k l (j:Int) e d key K:=by
 intro m
 induction m with
 | zero=>
  intro j k e d key K hj hk h
  obtain⟨k,rfl⟩:∃ m,k=m+1:=⟨k-1,by omega⟩
  rw[C_r07_Is_3]
  rw[List.drop_of_length_le (by omega),versGo,Bool.true_and] at h
  rw[show (16:Int)=((16:Nat):Int) from rfl,nat_le]
  exact cond_dec (fun h1=>by omega) (fun h1=>h)
 | succ m ih=>
  intro j k e d key K hj hk h
  obtain⟨k,rfl⟩:∃ m,k=m+1:=⟨k-1,by omega⟩
  rw[C_r07_Is_3]
  simp only[Hold_eq]
  have hj1:j<l.length:=by omega
  refine cond_dec (fun h1=>?_) (fun h1=>by omega)
  rw[Int.toNat_natCast,getD_at hj1,step64 j (by omega)]
  rw[drop_cons hj1,versGo] at h
  refine⟨by omega,r07_May_s k (by omega) (cond_nb (fun h2=>?_) (fun h2=>⟨by omega,cond_dec (fun h3=>?_) (fun h3=>⟨by omega,follows_s k h2 (by omega) (cond_nb (fun h4=>?_) (fun h4=>⟨by omega,?_⟩))⟩)⟩))⟩
  ·rw[h2,Bool.false_and,Bool.false_and,Bool.false_and] at h;exact h
  ·rw[decide_eq_false (by omega:¬e<=l[j].f0),Bool.false_and,Bool.and_false,Bool.false_and,Bool.false_and] at h;exact h
  ·rw[h4,Bool.and_false,Bool.and_false,Bool.false_and,Bool.false_and] at h;exact h
  ·rw[h2,h4,decide_eq_true (by omega:e<=l[j].f0),Bool.true_and,Bool.true_and,Bool.true_and] at h
   exact ih (j+1) k _ _ _ (by omega) (by omega) h
theorem r07_Is_s(k:Nat){l:List S_api_Version}{K:Bool->Prop}(hn:l.length<=100000)(hk:l.length+20<=k)(h:K (versB l)):F_r07_Is k l K:=by
 obtain⟨k,rfl⟩:∃ m,k=m+1:=⟨k-1,by omega⟩
 rw[F_r07_Is]
 simp only[Hold_eq]
 refine Is_loop hn l.length 0 k _ _ _ (by omega) (by omega) ?_
 unfold versB at h
 rw[Bool.and_comm] at h
 exact h
theorem r09_Digest_s(k:Nat){h:S_api_Head}{K:List Int->Int->Prop}(hh:HeadOk h)(hk:5000<=k)(g:∀ e,K (headD h) e):F_r09_Digest k h.f0 h.f1 h.f2 K:=by
 obtain⟨k,rfl⟩:∃ m,k=m+3:=⟨k-3,by omega⟩
 rw[F_r09_Digest]
 simp only[Hold_eq]
 rw[F_r09_Bytes]
 simp only[Hold_eq]
 rw[F_r09_May]
 unfold headD at g
 have l1:=hh.1.1
 have l2:=hh.2.1
 have bad:¬(1<=h.f0/\h.f0<=200)->cond (!false) (cond (!decide ((80:Int)=0)) (K z32 80) (F_r02_Sum (k+2) [] fun r6=>K r6 0)) (F_r01_Groups (k+1) h.f0 fun _=>False):=by
  intro h1
  rw[if_neg h1] at g
  exact g 80
 refine cond_dec (fun h1=>?_) (fun h1=>?_)
 ·by_cases h2:h.f0<=200
  ·rw[decide_eq_true h2,Bool.not_true,cond_false]
   rw[if_pos ⟨h1,h2⟩] at g
   obtain⟨n,hn⟩:=Int.eq_ofNat_of_zero_le (by omega:0<=h.f0)
   rw[hn,Int.toNat_natCast] at g
   rw[hn]
   have lg:=(grp_len 4 n (by have:(128:Nat) ^ 5=34359738368:=rfl;omega)).1
   have e1:cut h.f1 (Int.toNat 0) (Int.toNat (32-0))=h.f1:=cut_all _ (by rw[l1];decide)
   have e2:cut h.f2 (Int.toNat 0) (Int.toNat (32-0))=h.f2:=cut_all _ (by rw[l2];decide)
   rw[e1,e2]
   refine r01_Groups_s n (k+1) (by omega) (by omega) ?_
   refine⟨by decide,by unfold room;omega,by decide,by unfold room;rw[List.length_append];omega,?_⟩
   refine cond_ndec (fun e=>absurd trivial e) (fun _=>?_)
   exact r02_Sum_s (k+2) ((B8.append (grp_B8 n) hh.1.2).append hh.2.2) (by rw[List.length_append,List.length_append];omega) (by rw[List.length_append,List.length_append];omega) (g 0)
  ·rw[if_neg (by omega)] at g
   rw[decide_eq_false h2]
   exact g 80
 ·rw[if_neg (by omega)] at g
  exact g 80
theorem r10_Prev_s(k:Nat){l:List S_api_Head}{j:Nat}{K:List Int->Prop}(hl:∀ h∈l,HeadOk h)(hj:j<=l.length)(hn:l.length<=100000)(hk:5010<=k)(g:K (prevL l j)):F_r10_Prev k (l.take j) K:=by
 obtain⟨k,rfl⟩:∃ m,k=m+1:=⟨k-1,by omega⟩
 rw[F_r10_Prev]
 simp only[Hold_eq]
 have e:(l.take j).length=j:=by rw[List.length_take];omega
 rw[e]
 unfold prevL at g
 refine cond_dec (fun h1=>?_) (fun h1=>?_)
 ·rw[if_pos (by omega)] at g;exact g
 ·rw[if_neg (by omega)] at g
  have e2:IntKind.i64.wrap ((j:Int)-1)=((j-1:Nat):Int):=by rw[wrap64 (by omega)];omega
  rw[e2,Int.toNat_natCast]
  have h2:j-1<(l.take j).length:=by omega
  have h3:j-1<l.length:=by omega
  rw[getD_at h2,List.getElem_take]
  rw[getD_at h3] at g
  exact⟨by omega,r09_Digest_s k (hl _ (List.getElem_mem h3)) (by omega) fun _=>g⟩
theorem r10_heads_loop{l:List S_api_Head}(hl:∀ h∈l,HeadOk h)(hn:l.length<=100000):∀ (m j k:Nat) {K:Bool->Prop},j+m=l.length->m+5020<=k->K (headsGo l m j)->C_r10_heads_4 k l (j:Int) K:=by
 intro m
 induction m with
 | zero=>
  intro j k K hj hk h
  obtain⟨k,rfl⟩:∃ m,k=m+1:=⟨k-1,by omega⟩
  rw[C_r10_heads_4]
  exact cond_dec (fun h1=>by omega) (fun h1=>h)
 | succ m ih=>
  intro j k K hj hk h
  obtain⟨k,rfl⟩:∃ m,k=m+1:=⟨k-1,by omega⟩
  rw[C_r10_heads_4]
  simp only[Hold_eq]
  have hj1:j<l.length:=by omega
  refine cond_dec (fun h1=>?_) (fun h1=>by omega)
  rw[Int.toNat_natCast,getD_at hj1,step64 j (by omega)]
  rw[headsGo,getD_at hj1] at h
  refine⟨by omega,cond_ndec (fun h2=>?_) (fun h2=>⟨by omega,by omega,r10_Prev_s k hl (by omega) hn (by omega) (cond_ndec (fun h3=>?_) (fun h3=>?_))⟩)⟩
  ·rw[decide_eq_false h2,Bool.false_and,Bool.false_and] at h;exact h
  ·rw[decide_eq_false h3,Bool.and_false,Bool.false_and] at h;exact h
  ·rw[decide_eq_true h2,decide_eq_true h3,Bool.true_and,Bool.true_and] at h
   exact ih (j+1) k (by omega) (by omega) h
theorem r10_heads_s(k:Nat){l:List S_api_Head}{e:Int}{K:Bool->Prop}(hl:∀ h∈l,HeadOk h)(hn:l.length<=100000)(hk:l.length+5030<=k)(h:K (decide ((l.length:Int)<=e)&&headsB l)):F_r10_heads k l e K:=by
 obtain⟨k,rfl⟩:∃ m,k=m+1:=⟨k-1,by omega⟩
 rw[F_r10_heads]
 simp only[Hold_eq]
 refine cond_dec (fun h1=>?_) (fun h1=>?_)
 ·rw[decide_eq_false (by omega),Bool.false_and] at h;exact h
 ·rw[decide_eq_true (by omega),Bool.true_and] at h
  exact r10_heads_loop hl hn l.length 0 k (by omega) (by omega) h
theorem right_loop{e:Int}{us:List S_api_User}{hs:List S_api_Head}{l:List S_api_Session}(hn:l.length<=100000):∀ (m j k:Nat) {K:Bool->Prop},j+m=l.length->m+20<=k->0<=wasC l j->K (sessGo e (wasC l j) (l.drop j))->C_r10_Right_4 k (j:Int) e us hs l K:=by
 intro m
 induction m with
 | zero=>
  intro j k K hj hk hw h
  obtain⟨k,rfl⟩:∃ m,k=m+1:=⟨k-1,by omega⟩
  rw[C_r10_Right_4]
  rw[List.drop_of_length_le (by omega)] at h
  exact cond_dec (fun h1=>by omega) (fun h1=>h)
 | succ m ih=>
  intro j k K hj hk hw h
  obtain⟨k,rfl⟩:∃ m,k=m+1:=⟨k-1,by omega⟩
  rw[C_r10_Right_4]
  simp only[Hold_eq]
  have hj1:j<l.length:=by omega
  refine cond_dec (fun h1=>?_) (fun h1=>by omega)
  rw[Int.toNat_natCast,getD_at hj1,step64 j (by omega)]
  rw[drop_cons hj1,sessGo] at h
  have rest:wasC l j<l[j].f0->F_r10_within k l[j].f0 (1:Int) (4:Int) (fun r17=>cond (!r17) (K false) (F_r10_within k l[j].f1 (1:Int) (1000000:Int) (fun r18=>cond (!r18) (K false) (F_r10_within k l[j].f2 (0:Int) (65535:Int) (fun r19=>cond (!r19) (K false) (F_r10_within k l[j].f3 (0:Int) e (fun r20=>cond (!r20) (K false) (C_r10_Right_4 k ((j+1:Nat):Int) e us hs l K)))))))):=by
   intro hlt
   unfold sessOk at h
   rw[decide_eq_true hlt,Bool.true_and] at h
   refine r10_within_s k (by omega) (cond_nb (fun g1=>?_) (fun g1=>r10_within_s k (by omega) (cond_nb (fun g2=>?_) (fun g2=>r10_within_s k (by omega) (cond_nb (fun g3=>?_) (fun g3=>r10_within_s k (by omega) (cond_nb (fun g4=>?_) (fun g4=>?_))))))))
   ·rw[decide_eq_true (by omega:1<=l[j].f0),Bool.true_and] at g1
    rw[g1,Bool.false_and,Bool.false_and] at h;exact h
   ·rw[g2,Bool.false_and,Bool.and_false,Bool.false_and] at h;exact h
   ·rw[g3,Bool.false_and,Bool.and_false,Bool.and_false,Bool.false_and] at h;exact h
   ·rw[g4,Bool.and_false,Bool.and_false,Bool.and_false,Bool.false_and] at h;exact h
   ·rw[decide_eq_true (by omega:1<=l[j].f0),Bool.true_and] at g1
    rw[g1,g2,g3,g4,Bool.true_and,Bool.true_and,Bool.true_and,Bool.true_and] at h
    exact ih (j+1) k (by omega) (by omega) (by rw[wasC_succ hj1];omega) (by rw[wasC_succ hj1];exact h)
  refine⟨by omega,cond_dec (fun h2=>?_) (fun h2=>?_)⟩
  ·have e2:IntKind.i64.wrap ((j:Int)-1)=((j-1:Nat):Int):=by rw[wrap64 (by omega)];omega
   have e3:wasC l j=(l.getD (j-1) S0).f0:=by unfold wasC;rw[if_neg (by omega)]
   rw[e2,Int.toNat_natCast]
   refine⟨by omega,?_⟩
   rw[show (S_api_Session.mk (0:Int) (0:Int) (0:Int) (0:Int))=S0 from rfl,<-e3]
   refine cond_dec (fun h3=>?_) (fun h3=>rest (by omega))
   unfold sessOk at h
   rw[decide_eq_false (by omega),Bool.false_and,Bool.false_and] at h;exact h
  ·by_cases h3:wasC l j<l[j].f0
   ·exact rest h3
   ·have e3:wasC l j=0:=by unfold wasC;rw[if_pos (by omega)]
    refine r10_within_s k (by omega) ?_
    rw[decide_eq_false (by omega:¬(1:Int)<=l[j].f0),Bool.false_and,Bool.not_false,cond_true]
    unfold sessOk at h
    rw[decide_eq_false h3,Bool.false_and,Bool.false_and] at h;exact h
theorem users_loop{l:List S_api_User}{e:Int}(hn:l.length<=64)(hv:∀ u∈l,u.f1.length<=100000):∀ (m j k:Nat) {K:Bool->Prop},j+m=l.length->m+100100<=k->K (usersGo e (wasN l j) (l.drop j))->C_r10_users_4 k l e (j:Int) K:=by
 intro m
 induction m with
 | zero=>
  intro j k K hj hk h
  obtain⟨k,rfl⟩:∃ m,k=m+1:=⟨k-1,by omega⟩
  rw[C_r10_users_4]
  rw[List.drop_of_length_le (by omega)] at h
  exact cond_dec (fun h1=>by omega) (fun h1=>h)
 | succ m ih=>
  intro j k K hj hk h
  obtain⟨k,rfl⟩:∃ m,k=m+1:=⟨k-1,by omega⟩
  rw[C_r10_users_4]
  simp only[Hold_eq]
  have hj1:j<l.length:=by omega
  have hv1:=hv _ (List.getElem_mem hj1)
  refine cond_dec (fun h1=>?_) (fun h1=>by omega)
  rw[Int.toNat_natCast,getD_at hj1,step64 j (by omega)]
  rw[drop_cons hj1,usersGo] at h
  have rest:slt (wasN l j) l[j].f0=true\/nameB l[j].f0=false->F_r10_Name k l[j].f0 (fun r8=>cond (!r8) (K false) (cond (decide (((List.length l[j].f1:Nat):Int)=(0:Int))) (K false) (F_r07_Is k l[j].f1 (fun r9=>cond (!r9) (K false)
    ((0<=(IntKind.i64.wrap (((List.length l[j].f1:Nat):Int)-(1:Int)))/\(IntKind.i64.wrap (((List.length l[j].f1:Nat):Int)-(1:Int)))<((List.length l[j].f1:Nat):Int)) ∧
     cond (decide (e<(IntKind.i64.wrap ((List.getD l[j].f1 (Int.toNat (IntKind.i64.wrap (((List.length l[j].f1:Nat):Int)-(1:Int)))) (S_api_Version.mk (0:Int) (0:Int) ByteArray.empty)).f0-(1:Int))))) (K false) (C_r10_users_4 k l e ((j+1:Nat):Int) K)))))):=by
   intro hor
   refine r10_Name_s k (by omega) (cond_nb (fun g1=>?_) (fun g1=>cond_dec (fun g2=>?_) (fun g2=>r07_Is_s k (by omega) (by omega) (cond_nb (fun g3=>?_) (fun g3=>?_)))))
   ·unfold userOk at h
    rw[g1,Bool.false_and,Bool.and_false,Bool.false_and] at h;exact h
   ·unfold userOk at h
    rw[decide_eq_false (by omega:¬0<l[j].f1.length),Bool.false_and,Bool.and_false,Bool.and_false,Bool.false_and] at h;exact h
   ·unfold userOk at h
    rw[g3,Bool.false_and,Bool.and_false,Bool.and_false,Bool.and_false,Bool.false_and] at h;exact h
   ·have h0:0<l[j].f1.length:=by omega
    have hs:slt (wasN l j) l[j].f0=true:=by
     rcases hor with g|g
     ·exact g
     ·rw[g] at g1;cases g1
    have hb:=versB_last g3 h0
    have e2:IntKind.i64.wrap ((l[j].f1.length:Int)-1)=((l[j].f1.length-1:Nat):Int):=by rw[wrap64 (by omega)];omega
    rw[e2,Int.toNat_natCast]
    rw[wasE_end h0] at hb
    have e3:IntKind.i64.wrap ((l[j].f1.getD (l[j].f1.length-1) (S_api_Version.mk 0 0 .empty)).f0-1)=(l[j].f1.getD (l[j].f1.length-1) (S_api_Version.mk 0 0 .empty)).f0-1:=wrap64 (by omega)
    rw[e3]
    unfold userOk at h
    rw[hs,g1,g3,decide_eq_true h0,Bool.true_and,Bool.true_and,Bool.true_and,Bool.true_and,wasE_end h0] at h
    refine⟨by omega,cond_dec (fun g4=>?_) (fun g4=>?_)⟩
    ·rw[decide_eq_false (by omega),Bool.false_and] at h;exact h
    ·rw[decide_eq_true (by omega),Bool.true_and] at h
     exact ih (j+1) k (by omega) (by omega) (by rw[wasN_succ hj1];exact h)
  refine⟨by omega,cond_dec (fun h2=>?_) (fun h2=>?_)⟩
  ·have e2:IntKind.i64.wrap ((j:Int)-1)=((j-1:Nat):Int):=by rw[wrap64 (by omega)];omega
   have e3:wasN l j=(l.getD (j-1) U0).f0:=by unfold wasN;rw[if_neg (by omega)]
   rw[e2,Int.toNat_natCast]
   refine⟨by omega,by omega,?_⟩
   rw[show (S_api_User.mk ByteArray.empty ([]:List S_api_Version))=U0 from rfl,<-e3]
   refine cond_nb (fun h3=>?_) (fun h3=>⟨by omega,rest (.inl h3)⟩)
   unfold userOk at h
   rw[h3,Bool.false_and,Bool.false_and] at h;exact h
  ·have e3:wasN l j=str0:=by unfold wasN;rw[if_pos (by omega)]
   refine⟨by omega,rest ?_⟩
   rw[e3,slt_str0]
   by_cases g:l[j].f0.size=0
   ·right;unfold nameB;rw[g];rfl
   ·left;exact decide_eq_true g
theorem r10_users_s(k:Nat){l:List S_api_User}{e:Int}{K:Bool->Prop}(hv:∀ u∈l,u.f1.length<=100000)(hk:100200<=k)(h:K (decide (l.length<=64)&&usersGo e str0 l)):F_r10_users k l e K:=by
 obtain⟨k,rfl⟩:∃ m,k=m+1:=⟨k-1,by omega⟩
 rw[F_r10_users]
 simp only[Hold_eq]
 refine cond_dec (fun h1=>?_) (fun h1=>?_)
 ·rw[decide_eq_false (by omega),Bool.false_and] at h;exact h
 ·rw[decide_eq_true (by omega),Bool.true_and] at h
  exact users_loop (by omega) hv l.length 0 k (by omega) (by omega) h
theorem Right_s(k:Nat){e:Int}{us:List S_api_User}{hs:List S_api_Head}{ss:List S_api_Session}{K:Bool->Prop}(hv:∀ u∈us,u.f1.length<=100000)(hh:∀ h∈hs,HeadOk h)(hn:hs.length<=100000)(hns:ss.length<=100000)(hk:200000<=k)(h:K (dirB e us hs ss)):F_r10_Right k e us hs ss K:=by
 obtain⟨k,rfl⟩:∃ m,k=m+1:=⟨k-1,by omega⟩
 rw[F_r10_Right]
 simp only[Hold_eq]
 unfold dirB at h
 refine r10_within_s k (by omega) (cond_nb (fun g1=>?_) (fun g1=>cond_dec (fun g2=>?_) (fun g2=>r10_users_s k hv (by omega) (cond_nb (fun g3=>?_) (fun g3=>r10_heads_s k hh hn (by omega) (cond_nb (fun g4=>?_) (fun g4=>?_)))))))
 ·rw[g1,Bool.false_and] at h;exact h
 ·rw[decide_eq_false (by omega:¬ss.length<=4),Bool.false_and,Bool.and_false,Bool.and_false,Bool.and_false] at h;exact h
 ·rw[Bool.and_eq_false_iff] at g3
  rcases g3 with g|g<;>rw[g] at h<;>simpa using h
 ·rw[Bool.and_eq_false_iff] at g4
  rcases g4 with g|g<;>rw[g] at h<;>simpa using h
 ·rw[Bool.and_eq_true] at g3 g4
  rw[g1,g3.1,g3.2,g4.1,g4.2,decide_eq_true (by omega:ss.length<=4)] at h
  simp only[Bool.true_and] at h
  exact right_loop hns ss.length 0 k (by omega) (by omega) (by unfold wasC;simp) h
section
variable {e:Int} {us:List S_api_User} {hs:List S_api_Head} {ss:List S_api_Session}
theorem own_loop(sm:Small us hs ss){z1:Int}{z2:List S_api_User}{z3:List S_api_Head}{z4:List S_api_Session}:∀ (m j k:Nat) {K:Int->List S_api_User->List S_api_Head->List S_api_Session->Prop},j+m=us.length->m+5<=k->K e us hs ss →
  C_r08_OwnDirectory_3 k (j:Int) e us hs ss z1 e z2 z3 z4 (us.take j) [] [] K:=by
 have su:=sm.u
 have sh:=sm.h
 have s3:=sm.s
 intro m
 induction m with
 | zero=>
  intro j k K hj hk h
  obtain⟨k,rfl⟩:∃ m,k=m+1:=⟨k-1,by omega⟩
  rw[C_r08_OwnDirectory_3]
  refine cond_dec (fun h1=>by omega) (fun h1=>⟨by unfold room;simp only[List.length_nil];omega,by unfold room;simp only[List.length_nil];omega,?_⟩)
  rw[List.take_of_length_le (by omega)]
  exact h
 | succ m ih=>
  intro j k K hj hk h
  obtain⟨k,rfl⟩:∃ m,k=m+1:=⟨k-1,by omega⟩
  rw[C_r08_OwnDirectory_3]
  simp only[Hold_eq]
  have hj1:j<us.length:=by omega
  have hv:=sm.v _ (List.getElem_mem hj1)
  rw[Int.toNat_natCast,getD_at hj1,step64 j (by omega)]
  refine cond_dec (fun h1=>⟨by omega,by unfold room;omega,by omega,by unfold room;simp only[List.length_take,List.length_cons,List.length_nil];omega,?_⟩) (fun h1=>by omega)
  have:us.take j++[S_api_User.mk us[j].f0 us[j].f1]=us.take (j+1):=by rw[List.take_succ_eq_append_getElem hj1]
  rw[this]
  exact ih (j+1) k (by omega) (by omega) h
theorem own_s(sm:Small us hs ss)(k:Nat){K:Int->List S_api_User->List S_api_Head->List S_api_Session->Prop}(hk:5100<=k)(h:K e us hs ss):F_r08_OwnDirectory k e us hs ss K:=by
 obtain⟨k,rfl⟩:∃ m,k=m+1:=⟨k-1,by omega⟩
 have su:=sm.u
 rw[F_r08_OwnDirectory]
 simp only[Hold_eq]
 exact own_loop sm us.length 0 k (by omega) (by omega) h
end
instance (h:S_api_Head):Decidable (MayH h):=inferInstanceAs (Decidable (_/\_))
end Go.V
