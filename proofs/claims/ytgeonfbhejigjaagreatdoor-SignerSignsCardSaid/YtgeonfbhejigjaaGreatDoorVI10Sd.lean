import Derived.Test.YtgeonfbhejigjaaGreatDoorVI10Sc
set_option linter.unusedVariables false
set_option linter.unusedSimpArgs false
set_option maxRecDepth 8000
namespace Go.V
theorem Small.din2{d:S_api_Directory}(h:Small d.f1 d.f2 d.f3)(hh:HsOk d):DIn d:=⟨fun u hu=>by have:=h.v u hu;omega,hh,by have:=h.h;omega,by have:=h.s;omega⟩
theorem RU_lt{l:List S_api_Signed}(h:RU l l.length):∀ (n i:Nat),i+n<l.length->0<n->(l.getD i G0).f0.f0<(l.getD (i+n) G0).f0.f0:=by
 intro n
 induction n with
 | zero=>intro i _ h;omega
 | succ n ih=>
  intro i hi _
  have h1:=h (i+(n+1)) (by omega) hi
  rw[show i+(n+1)-1=i+n by omega] at h1
  by_cases e:n=0
  ·subst e;exact h1
  ·have:=ih i (by omega) (by omega);omega
theorem rises_loop{l:List S_api_Signed}(hn:l.length<=100000){K:Bool->Prop}(h:K (decide (RU l l.length))):∀ (m j k:Nat),1<=j->l.length<=j+m->m+1<=k->j<=100001->RU l j->C_r19_rises_2 k l (j:Int) K:=by
 intro m
 induction m with
 | zero=>
  intro j k h1 hj hk hj2 hr
  obtain⟨k,rfl⟩:∃ m,k=m+1:=⟨k-1,by omega⟩
  rw[C_r19_rises_2]
  rw[decide_eq_true (show RU l l.length from fun i a b=>hr i a (by omega))] at h
  exact cond_dec (fun x=>by omega) (fun _=>h)
 | succ m ih=>
  intro j k h1 hj hk hj2 hr
  obtain⟨k,rfl⟩:∃ m,k=m+1:=⟨k-1,by omega⟩
  rw[C_r19_rises_2]
  simp only[Hold_eq]
  have e1:IntKind.i64.wrap ((j:Int)-1)=((j-1:Nat):Int):=by rw[wrap64 (by omega)];omega
  rw[e1,Int.toNat_natCast,Int.toNat_natCast,step64 j (by omega)]
  refine cond_dec (fun hjl=>⟨⟨by omega,by omega⟩,⟨by omega,by omega⟩,cond_dec (fun g=>?_) (fun g=>?_)⟩) (fun x=>?_)
  ·rw[decide_eq_false (fun x:RU l l.length=>by
    have:=x j (by omega) (by omega)
    exact absurd this (Int.not_lt.2 g))] at h
   exact h
  ·exact ih (j+1) k (by omega) (by omega) (by omega) (by omega) (RU_succ.2 ⟨hr,.inr (Int.not_le.1 g)⟩)
  ·rw[decide_eq_true (show RU l l.length from fun i a b=>hr i a (by omega))] at h
   exact h
theorem rises_s(k:Nat){l:List S_api_Signed}(hn:l.length<=100000){K:Bool->Prop}(hk:100100<=k)(h:K (decide (RU l l.length))):F_r19_rises k l K:=by
 obtain⟨k,rfl⟩:∃ m,k=m+1:=⟨k-1,by omega⟩
 rw[F_r19_rises]
 simp only[Hold_eq]
 exact rises_loop hn h l.length 1 k (by omega) (by omega) (by omega) (by omega) (fun i a b=>by omega)
section
variable {l:List S_api_Signed} {x:S_api_Signed} {ep:Int} {K:KS}
theorem past_loop(hn:l.length<=100000){a:Int}{a1 a2 a3:List Int}(h:K 0 z32 z32 z32 false 160):∀ (m j k:Nat),j+m=l.length->2*m+2<=k->(∀ i,j<=i->i<l.length->ep<(l.getD i G0).f0.f0) →
  C_r19_Sign_11 k l ep true (j:Int) a a1 a2 a3 0 z32 z32 z32 x.f0.f0 x.f0.f1 x.f0.f2 x.f1 K:=by
 intro m
 induction m with
 | zero=>
  intro j k hj hk g
  obtain⟨k,rfl⟩:∃ m,k=m+1:=⟨k-1,by omega⟩
  rw[C_r19_Sign_11]
  exact cond_dec (fun x=>by omega) (fun _=>h)
 | succ m ih=>
  intro j k hj hk g
  obtain⟨k,rfl⟩:∃ m,k=m+2:=⟨k-2,by omega⟩
  rw[C_r19_Sign_11]
  simp only[Hold_eq]
  have hjl:j<l.length:=by omega
  have gj:=g j (Nat.le_refl _) hjl
  refine cond_dec (fun _=>⟨⟨by omega,by omega⟩,?_⟩) (fun e=>by omega)
  rw[Int.toNat_natCast]
  refine cond_dec (fun e=>?_) (fun _=>?_)
  ·have e:(l.getD j G0).f0.f0=ep:=e
   omega
  ·rw[cond_true,C_r19_Sign_12]
   simp only[Hold_eq]
   rw[step64 j (by omega)]
   exact ih (j+1) k (by omega) (by omega) (fun i a b=>g i (by omega) b)
theorem seek_loop(hn:l.length<=100000)(hr:RU l l.length){a:Int}{a1 a2 a3:List Int}:∀ (m j k:Nat),j+m=l.length->2*m+2<=k->sK K (sgo ep x (l.drop j)) →
  C_r19_Sign_11 k l ep false (j:Int) a a1 a2 a3 0 z32 z32 z32 x.f0.f0 x.f0.f1 x.f0.f2 x.f1 K:=by
 intro m
 induction m with
 | zero=>
  intro j k hj hk h
  obtain⟨k,rfl⟩:∃ m,k=m+1:=⟨k-1,by omega⟩
  rw[C_r19_Sign_11]
  rw[List.drop_of_length_le (by omega)] at h
  exact cond_dec (fun x=>by omega) (fun _=>h)
 | succ m ih=>
  intro j k hj hk h
  obtain⟨k,rfl⟩:∃ m,k=m+2:=⟨k-2,by omega⟩
  rw[C_r19_Sign_11]
  simp only[Hold_eq]
  have hjl:j<l.length:=by omega
  refine cond_dec (fun _=>⟨⟨by omega,by omega⟩,?_⟩) (fun e=>by omega)
  rw[Int.toNat_natCast,getD_at hjl]
  rw[drop_cons hjl,sgo] at h
  refine cond_dec (fun e=>⟨⟨by omega,by omega⟩,cond_nb (fun g=>?_) (fun g=>?_)⟩) (fun e=>?_)
  ·rw[if_neg (by omega),if_neg (by omega),if_neg (by rw[show eqS l[j] x=false from g];decide)] at h
   exact h
  ·rw[if_neg (by omega),if_neg (by omega),if_pos (show eqS l[j] x=true from g)] at h
   exact h
  ·rw[cond_false]
   refine⟨⟨by omega,by omega⟩,?_⟩
   rw[C_r19_Sign_12]
   simp only[Hold_eq]
   rw[step64 j (by omega)]
   by_cases g:ep<l[j].f0.f0
   ·rw[if_neg (by omega),if_pos g] at h
    rw[decide_eq_true g]
    refine past_loop hn h m (j+1) k (by omega) (by omega) fun i a b=>?_
    have:=RU_lt hr (i-j) j (by omega) (by omega)
    rw[show j+(i-j)=i by omega,getD_at hjl] at this
    omega
   ·rw[if_pos (by omega)] at h
    rw[decide_eq_false g]
    exact ih (j+1) k (by omega) (by omega) h
end
theorem rSign_s(k:Nat){d:S_api_Directory}{l:List S_api_Signed}{ep:Int}{key:ByteArray}(hd:DIn d)(hl:l.length<=5000){K:KS}(hk:1000000<=k)(h:sK K (sgn key d l ep)):F_r19_Sign k key d.f0 d.f1 d.f2 d.f3 l ep K:=by
 obtain⟨k,rfl⟩:∃ m,k=m+1:=⟨k-1,by omega⟩
 rw[F_r19_Sign]
 simp only[Hold_eq]
 unfold sgn at h
 have hn:=hd.hn
 refine Right_s k hd.v hd.h hd.hn hd.sn (by omega) (cond_nb (fun g=>?_) (fun g=>r09_Key_s k (by omega) (cond_nb (fun g1=>?_) (fun g1=>cond_dec (fun g2=>?_) (fun g2=>cond_dec (fun g3=>?_) (fun g3=>rises_s k (by omega) (by omega) (cond_nb (fun g4=>?_) (fun g4=>?_))))))))
 ·rw[if_neg (fun x=>by have:dirOk d=false:=g;rw[this] at x;cases x)] at h;exact h
 ·rw[if_pos (show dirOk d=true from g),if_neg (by rw[g1];decide)] at h;exact h
 ·rw[if_pos (show dirOk d=true from g),if_pos g1,if_neg (fun x=>by have:=x.1;omega)] at h;exact h
 ·rw[if_pos (show dirOk d=true from g),if_pos g1,if_neg (fun x=>by have:=x.2.1;omega)] at h;exact h
 ·rw[if_pos (show dirOk d=true from g),if_pos g1,if_neg (fun x=>by rw[decide_eq_true x.2.2] at g4;cases g4)] at h;exact h
 ·rw[if_pos (show dirOk d=true from g),if_pos g1,if_pos ⟨by omega,by omega,of_decide_eq_true g4⟩] at h
  have e1:IntKind.i64.wrap (ep-1)=ep-1:=wrap64 (by omega)
  have e2:(ep-1).toNat=ep.toNat-1:=by omega
  rw[e1,e2]
  have hi:ep.toNat-1<d.f2.length:=by omega
  refine⟨⟨by omega,by omega⟩,?_⟩
  unfold sgnX at h
  rw[getD_at hi] at h ⊢
  refine r09_Sign_s k (hd.h _ (List.getElem_mem hi)) (by omega) fun e=>?_
  exact seek_loop (by omega) (of_decide_eq_true g4) l.length 0 k (by omega) (by omega) (by rw[List.drop_zero];exact h)
theorem SSigns_s(k:Nat){d:S_api_Directory}{l:List S_api_Signed}{ep:Int}{key:ByteArray}(hh:HsOk d)(hk:5000000<=k):F_l19_SignerSigns k key d.f0 d.f1 d.f2 d.f3 l ep (fun b=>b=true):=by
 obtain⟨k,rfl⟩:∃ m,k=m+1:=⟨k-1,by omega⟩
 rw[F_l19_SignerSigns]
 simp only[Hold_eq]
 refine large19_s k (by omega) fun b hb=>cond_b (fun _=>(by first|rfl|trivial|decide)) (fun g=>?_)
 obtain⟨sm,hl,-⟩:=hb g
 have hd:DIn d:=Small.din2 sm hh
 refine own_s sm k (by omega) ⟨by unfold room;omega,Sign_s k hd (by omega) (by omega) ?_⟩
 unfold sK
 refine rSign_s k hd (by omega) (by omega) ?_
 unfold sK
 refine signs_s k (by omega) ?_
 rw[cond_true]
 refine cond_b (fun _=>cond_b (fun _=>cond_dec (fun _=>?_) (fun x=>absurd rfl x)) (fun x=>by simp at x)) (fun x=>by simp at x)
 refine same_s sm k (by omega) ?_
 rw[cond_true]
 exact r19_Same_s k (by omega) (by omega) rfl
theorem wf_dig{m:Nat}{d:List Int}(h:wf PE (m+2) (.arr 5 32 d)):Dig d:=⟨h.1,fun x hx=>h.2 x hx⟩
theorem wf_head{m:Nat}{x:S_api_Head}(h:wf PE (m+4) (PE.enc 45 x)):HeadOk x:=by
 have h:∀ a∈[A.int (U:=PU) .i64 x.f0,.arr 5 32 x.f1,.arr 5 32 x.f2],wf PE (m+3) a:=h
 exact⟨wf_dig (m:=m+1) (h _ (by simp)),wf_dig (m:=m+1) (h _ (by simp))⟩
theorem wf_heads{m:Nat}{x:S_api_Directory}(h:wf PE (m+6) (PE.enc 26 x)):HsOk x:=by
 have h:∀ a∈[A.int (U:=PU) .i64 x.f0,.ro false 40 x.f1,.ro false 45 x.f2,.ro false 47 x.f3],wf PE (m+5) a:=h
 have h0:wf PE (m+5) (.ro false 45 x.f2):=h _ (by simp)
 exact fun y hy=>wf_head (m:=m) (h0.2 y hy)
theorem law_SignerSigns(x0:ByteArray)(x1:S_api_Directory)(x2:List S_api_Signed)(x3:Int)(hw:∀ m,∀ a∈[PE.enc 9 x0,PE.enc 26 x1,PE.enc 65 x2,PE.enc 3 x3],wf PE m a) :
  ∃ k,F_l19_SignerSigns k x0 x1.f0 x1.f1 x1.f2 x1.f3 x2 x3 (fun b=>b=true):=
 ⟨_,SSigns_s _ (wf_heads (m:=0) (hw 6 _ (by simp))) (Nat.le_refl _)⟩
end Go.V
