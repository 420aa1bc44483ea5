import Derived.Test.YtgeonfbhejigjaaGreatDoorVI10P
import Derived.Test.YtgeonfbhejigjaaGreatDoorVI10C
set_option linter.unusedVariables false
set_option linter.unusedSimpArgs false
set_option maxRecDepth 4000
namespace Go.V
theorem Index_loop{l:List S_api_Leaf}(hl:LDig l)(hn:l.length<=4096){n:Nat}(hi:n<256){K:Int->Int->Prop}(h1:(∀ x∈l,bitN x.f0 n≠1)->K (-1) n)(h2:∀ r:Int,0<=r->K r n) :
  ∀ (m j k:Nat),j+m=l.length->m+10<=k->(∀ x∈l.take j,bitN x.f0 n≠1)->C_slices_IndexFunc_api_Leaf_api_Leaf_2 k l (l.length:Int) (j:Int) (n:Int) K:=by
 intro m
 induction m with
 | zero=>
  intro j k hj hk h
  obtain⟨k,rfl⟩:∃ m,k=m+1:=⟨k-1,by omega⟩
  rw[C_slices_IndexFunc_api_Leaf_api_Leaf_2]
  simp only[Hold_eq]
  rw[List.take_of_length_le (by omega)] at h
  exact cond_dec (fun e=>by omega) (fun e=>h1 h)
 | succ m ih=>
  intro j k hj hk h
  obtain⟨k,rfl⟩:∃ m,k=m+1:=⟨k-1,by omega⟩
  have hjl:j<l.length:=by omega
  rw[C_slices_IndexFunc_api_Leaf_api_Leaf_2]
  simp only[Hold_eq]
  refine cond_dec (fun e=>⟨⟨by omega,by omega⟩,?_⟩) (fun e=>by omega)
  rw[Int.toNat_natCast,getD_at hjl,step64 j (by omega)]
  obtain⟨k,rfl⟩:∃ m,k=m+1:=⟨k-1,by omega⟩
  rw[F_proof_at_1]
  simp only[Hold_eq]
  refine pright_s k (hl _ (List.getElem_mem hjl)).1 hi (by omega) (cond_dec (fun g=>h2 _ (by omega)) (fun g=>?_))
  refine ih (j+1) (k+1) (by omega) (by omega) ?_
  rw[List.take_succ_eq_append_getElem hjl]
  intro x hx
  rcases List.mem_append.1 hx with hx|hx
  ·exact h x hx
  ·obtain rfl:=List.mem_singleton.1 hx;exact g
theorem Index_s(k:Nat){l:List S_api_Leaf}(hl:LDig l)(hn:l.length<=4096){n:Nat}(hi:n<256){K:Int->Int->Prop}(hk:4200<=k)(h1:(∀ x∈l,bitN x.f0 n≠1)->K (-1) n)(h2:∀ r:Int,0<=r->K r n) :
  F_slices_IndexFunc_api_Leaf_api_Leaf k l (n:Int) K:=by
 obtain⟨k,rfl⟩:∃ m,k=m+1:=⟨k-1,by omega⟩
 rw[F_slices_IndexFunc_api_Leaf_api_Leaf]
 simp only[Hold_eq]
 exact Index_loop hl hn hi h1 h2 l.length 0 k (by omega) (by omega) (by simp)
theorem half_step{l:List S_api_Leaf}{j:Nat}(hj:j<l.length)(n b:Nat):halfL (l.take (j+1)) n b=halfL (l.take j) n b++(if bitN l[j].f0 n=b then [l[j]] else []):=by
 rw[List.take_succ_eq_append_getElem hj]
 unfold halfL
 rw[List.filter_append,List.filter_cons]
 by_cases g:bitN l[j].f0 n=b<;>simp[g]
theorem half_le(l:List S_api_Leaf)(j n b:Nat):(halfL (l.take j) n b).length<=l.length:=
 Nat.le_trans (List.length_filter_le _ _) (by rw[List.length_take];omega)
theorem half_none{l:List S_api_Leaf}{n:Nat}(h:∀ x∈l,bitN x.f0 n≠1):halfL l n 1=[]/\halfL l n 0=l:=by
 refine⟨List.filter_eq_nil_iff.2 fun x hx=>by simpa using h x hx,List.filter_eq_self.2 fun x hx=>?_⟩
 exact decide_eq_true ((Nat.mod_two_eq_zero_or_one ((x.f0.getD (n / 8) 0).toNat / 2 ^ (7-n % 8))).resolve_right (h x hx))
theorem digT_one(w:Int)(m n:Nat)(x:S_api_Leaf):digT w (bld w m n [x])=rootL w [x]:=by rw[rootL,bld_one,bld_one]
theorem digT_none(w:Int)(m n:Nat):digT w (bld w m n [])=digT w .nil:=by rw[bld_nil]
theorem split_loop{w:Int}{l:List S_api_Leaf}(hl:LDig l)(hn:l.length<=4096){n:Nat}(hi:n<256){z:List Int}{N:Nat}{K:List Int->Prop}
  (h:∀ k,N<=k->F_proof_at k w (halfL l n 0) ((n+1:Nat):Int) fun a=>F_proof_at k w (halfL l n 1) ((n+1:Nat):Int) fun b=>F_smt_Node k w a b K) :
  ∀ (m j k:Nat),j+m=l.length->2*m+N+10<=k->C_proof_at_11 k w l (l.length:Int) (j:Int) (n:Int) z (halfL (l.take j) n 0) (halfL (l.take j) n 1) K:=by
 intro m
 induction m with
 | zero=>
  intro j k hj hk
  obtain⟨k,rfl⟩:∃ m,k=m+1:=⟨k-1,by omega⟩
  rw[C_proof_at_11]
  simp only[Hold_eq]
  rw[List.take_of_length_le (by omega),step64 n (by omega)]
  exact cond_dec (fun e=>by omega) (fun e=>h k (by omega))
 | succ m ih=>
  intro j k hj hk
  obtain⟨k,rfl⟩:∃ m,k=m+2:=⟨k-2,by omega⟩
  have hjl:j<l.length:=by omega
  rw[C_proof_at_11]
  simp only[Hold_eq]
  refine cond_dec (fun e=>⟨⟨by omega,by omega⟩,?_⟩) (fun e=>by omega)
  rw[Int.toNat_natCast,getD_at hjl]
  have next:=ih (j+1) k (by omega) (by omega)
  rw[half_step hjl,half_step hjl] at next
  have b0:=half_le l j n 0
  have b1:=half_le l j n 1
  have four:∀ a b,C_proof_at_11 k w l (l.length:Int) ((j+1:Nat):Int) (n:Int) z a b K->C_proof_at_16 (k+1) w l (l.length:Int) (j:Int) (n:Int) z a b K:=by
   intro a b ha
   rw[C_proof_at_16]
   simp only[Hold_eq]
   rw[step64 j (by omega)]
   exact ha
  refine pright_s (k+1) (hl _ (List.getElem_mem hjl)).1 hi (by omega) (cond_dec (fun g=>?_) (fun g=>?_))
  ·rw[if_neg (by omega),if_pos g,List.append_nil] at next
   exact⟨by unfold room;simp only[List.length_cons,List.length_nil];omega,four _ _ next⟩
  ·have g0:=(bit01 _ _).resolve_right g
   rw[if_pos g0,if_neg g,List.append_nil] at next
   exact⟨by unfold room;simp only[List.length_cons,List.length_nil];omega,four _ _ next⟩
theorem at_s{w:Int}(hw:0<=w/\w<=32):∀ (m n k:Nat) {q:List Int} {l:List S_api_Leaf} {K:List Int->Prop},m+n=256->OkL n q l->l.length<=4096->9000*m+7000<=k->K (digT w (bld w m n l))->F_proof_at k w l (n:Int) K:=by
 intro m
 induction m with
 | zero=>
  intro n k q l K hn hl hln hk h
  obtain⟨k,rfl⟩:∃ m,k=m+1:=⟨k-1,by omega⟩
  obtain rfl:n=256:=by omega
  rw[F_proof_at]
  simp only[Hold_eq]
  match l,hl,hl.len,h with
  | [],_,_,h=>exact cond_dec (fun _=>Empty_i k hw (by omega) h) (fun e=>absurd rfl e)
  | [y],hl,_,h=>
   refine cond_dec (fun e=>by simp at e) (fun _=>cond_dec (fun _=>⟨by simp,?_⟩) (fun e=>absurd rfl e))
   rw[digT_one] at h
   exact Leaf_i k hw (hl.dig y (by simp)).1 (hl.dig y (by simp)).2 (by omega) h
  | _::_::_,_,hh,_=>simp at hh
 | succ m ih=>
  intro n k q l K hn hl hln hk h
  obtain⟨k,rfl⟩:∃ m,k=m+1:=⟨k-1,by omega⟩
  rw[F_proof_at]
  simp only[Hold_eq]
  match l,hl,hln,h with
  | [],_,_,h=>
   rw[digT_none] at h
   exact cond_dec (fun _=>Empty_i k hw (by omega) h) (fun e=>absurd rfl e)
  | [y],hl,_,h=>
   refine cond_dec (fun e=>by simp at e) (fun _=>cond_dec (fun _=>⟨by simp,?_⟩) (fun e=>absurd rfl e))
   rw[digT_one] at h
   exact Leaf_i k hw (hl.dig y (by simp)).1 (hl.dig y (by simp)).2 (by omega) h
  | x::y::l,hl,hln,h=>
   rw[dig_two hn hl (by simp)] at h
   generalize hL:x::y::l=L at *
   have hLl:2<=L.length:=by rw[<-hL];simp
   obtain⟨q0,h0⟩:=hl.half' 0
   obtain⟨q1,h1⟩:=hl.half' 1
   have len:=half_len L n
   refine cond_dec (fun e=>by omega) (fun _=>cond_dec (fun e=>by omega) (fun _=>?_))
   refine Index_s k hl.dig hln (by omega) (by omega) (fun g=>?_) (fun r hr=>?_)
   ·refine cond_dec (fun _=>?_) (fun e=>absurd (by decide) e)
    obtain⟨e1,e0⟩:=half_none g
    rw[e1,digT_none,e0] at h
    rw[e0] at h0
    rw[step64 n (by omega)]
    exact ih (n+1) k (by omega) h0 hln (by omega) (Empty_i k hw (by omega) (Node_i k hw (digT_dig hw _) (digT_dig hw _) (by omega) h))
   ·refine cond_dec (fun e=>by omega) (fun _=>?_)
    obtain⟨N,hN⟩:∃ N,N=9000*m+7000:=⟨_,rfl⟩
    refine split_loop hl.dig hln (by omega) (N:=N) (fun k hk=>?_) L.length 0 k (by omega) (by omega)
    exact ih (n+1) k (by omega) h0 (by omega) (by omega) (ih (n+1) k (by omega) h1 (by omega) (by omega) (Node_i k hw (digT_dig hw _) (digT_dig hw _) (by omega) h))
def sibs(w:Int)(p:List Int):Nat->Nat->List S_api_Leaf->List (List Int)
 | 0,_,_=>[]
 | m+1,n,l=>if 1<l.length then digT w (bld w m (n+1) (halfL l n (1-bitN p n)))::sibs w p m (n+1) (halfL l n (bitN p n)) else []
def nearL(p:List Int):Nat->Nat->List S_api_Leaf->List S_api_Leaf
 | 0,_,l=>l
 | m+1,n,l=>if 1<l.length then nearL p m (n+1) (halfL l n (bitN p n)) else l
def mHas(p:List Int):List S_api_Leaf->Bool
 | []=>false
 | y::_=>decide (y.f0=p)
def mVal(p:List Int):List S_api_Leaf->List Int
 | []=>z32
 | y::_=>if y.f0=p then y.f1 else z32
def mOth(p:List Int):List S_api_Leaf->Bool
 | []=>false
 | y::_=>!decide (y.f0=p)
def mOp(p:List Int):List S_api_Leaf->List Int
 | []=>z32
 | y::_=>if y.f0=p then z32 else y.f0
def mOv(p:List Int):List S_api_Leaf->List Int
 | []=>z32
 | y::_=>if y.f0=p then z32 else y.f1
theorem makesplit_loop{w:Int}{l:List S_api_Leaf}(hl:LDig l)(hn:l.length<=4096){n:Nat}(hi:n<256){p:List Int}(hp:Dig p){r23 r25 r26:List Int}{r22 r24:Bool}{S:List (List Int)}{N:Nat}
  {K:Bool->List Int->List (List Int)->Bool->List Int->List Int->Int->Prop}
  (h:∀ k,N<=k->F_proof_at k w (halfL l n (1-bitN p n)) ((n+1:Nat):Int) fun a=>room (S.length+[a].length) 32/\C_proof_Make_6 k w ((n+1:Nat):Int) p r22 r23 r24 r25 r26 (halfL l n (bitN p n)) (S++[a]) K) :
  ∀ (m j k:Nat),j+m=l.length->2*m+N+10<=k->C_proof_Make_10 k w (n:Int) (l.length:Int) (j:Int) p r22 r23 r24 r25 r26 (halfL (l.take j) n (1-bitN p n)) (halfL (l.take j) n (bitN p n)) l S K:=by
 intro m
 induction m with
 | zero=>
  intro j k hj hk
  obtain⟨k,rfl⟩:∃ m,k=m+1:=⟨k-1,by omega⟩
  rw[C_proof_Make_10]
  simp only[Hold_eq]
  rw[List.take_of_length_le (by omega),step64 n (by omega)]
  exact cond_dec (fun e=>by omega) (fun e=>h k (by omega))
 | succ m ih=>
  intro j k hj hk
  obtain⟨k,rfl⟩:∃ m,k=m+2:=⟨k-2,by omega⟩
  have hjl:j<l.length:=by omega
  rw[C_proof_Make_10]
  simp only[Hold_eq]
  refine cond_dec (fun e=>⟨⟨by omega,by omega⟩,?_⟩) (fun e=>by omega)
  rw[Int.toNat_natCast,getD_at hjl]
  have next:=ih (j+1) k (by omega) (by omega)
  rw[half_step hjl,half_step hjl] at next
  have b0:=half_le l j n (1-bitN p n)
  have b1:=half_le l j n (bitN p n)
  have four:∀ a b,C_proof_Make_10 k w (n:Int) (l.length:Int) ((j+1:Nat):Int) p r22 r23 r24 r25 r26 a b l S K->C_proof_Make_15 (k+1) w (n:Int) (l.length:Int) (j:Int) p r22 r23 r24 r25 r26 a b l S K:=by
   intro a b ha
   rw[C_proof_Make_15]
   simp only[Hold_eq]
   rw[step64 j (by omega)]
   exact ha
  have c0:=bit01 l[j].f0 n
  have c1:=bit01 p n
  refine pright_s (k+1) (hl _ (List.getElem_mem hjl)).1 hi (by omega) (pright_s (k+1) hp hi (by omega) (cond_b (fun g=>?_) (fun g=>?_)))
  ·have g:bitN l[j].f0 n=bitN p n:=by
    have:=beq_iff_eq.1 g
    rw[decide_eq_decide] at this
    omega
   rw[if_neg (by omega),if_pos g,List.append_nil] at next
   exact⟨by unfold room;simp only[List.length_cons,List.length_nil];omega,four _ _ next⟩
  ·have g:bitN l[j].f0 n≠bitN p n:=by
    intro e
    rw[e,beq_self_eq_true] at g
    cases g
   rw[if_pos (by omega),if_neg g,List.append_nil] at next
   exact⟨by unfold room;simp only[List.length_cons,List.length_nil];omega,four _ _ next⟩
theorem Make_end(k:Nat){w:Int}{n:Int}{p:List Int}{l:List S_api_Leaf}{S:List (List Int)}{K:Bool->List Int->List (List Int)->Bool->List Int->List Int->Int->Prop}(hl:l.length<=1)(hk:2<=k)
  (h:K (mHas p l) (mVal p l) S (mOth p l) (mOp p l) (mOv p l) 0):C_proof_Make_6 k w n p false z32 false z32 z32 l S K:=by
 obtain⟨k,rfl⟩:∃ m,k=m+2:=⟨k-2,by omega⟩
 rw[C_proof_Make_6]
 simp only[Hold_eq]
 refine cond_dec (fun e=>by omega) (fun _=>?_)
 match l,hl,h with
 | [],_,h=>
  refine cond_dec (fun _=>?_) (fun e=>absurd rfl e)
  rw[C_proof_Make_22]
  exact h
 | [y],_,h=>
  refine cond_dec (fun e=>by simp at e) (fun _=>⟨by simp,?_⟩)
  simp only[mHas,mVal,mOth,mOp,mOv] at h
  refine cond_dec (fun g=>⟨by simp,?_⟩) (fun g=>⟨by simp,by simp,?_⟩)
  ·have g:y.f0=p:=g
   simp only[if_pos g,decide_eq_true g,Bool.not_true] at h
   rw[C_proof_Make_22]
   exact h
  ·have g:¬y.f0=p:=g
   simp only[if_neg g,decide_eq_false g,Bool.not_false] at h
   rw[C_proof_Make_22]
   exact h
 | _::_::_,hl,_=>simp at hl
theorem nearL_le{p:List Int}{m n:Nat}{l:List S_api_Leaf}(h:l.length<=1):nearL p m n l=l:=by
 cases m with
 | zero=>rfl
 | succ m=>rw[nearL,if_neg (by omega)]
theorem sibs_le{w:Int}{p:List Int}{m n:Nat}{l:List S_api_Leaf}(h:l.length<=1):sibs w p m n l=[]:=by
 cases m with
 | zero=>rfl
 | succ m=>rw[sibs,if_neg (by omega)]
theorem Make_loop{w:Int}(hw:0<=w/\w<=32){p:List Int}(hp:Dig p):∀ (m n k:Nat) {l:List S_api_Leaf} {S:List (List Int)} {K:Bool->List Int->List (List Int)->Bool->List Int->List Int->Int->Prop},
  m+n=256->OkL n p l->l.length<=4096->S.length=n->20000*m+3000000<=k →
  K (mHas p (nearL p m n l)) (mVal p (nearL p m n l)) (S++sibs w p m n l) (mOth p (nearL p m n l)) (mOp p (nearL p m n l)) (mOv p (nearL p m n l)) 0->C_proof_Make_6 k w (n:Int) p false z32 false z32 z32 l S K:=by
 intro m
 induction m with
 | zero=>
  intro n k l S K hn hl hln hS hk h
  obtain rfl:n=256:=by omega
  rw[sibs,List.append_nil] at h
  exact Make_end k hl.len (by omega) h
 | succ m ih=>
  intro n k l S K hn hl hln hS hk h
  by_cases h2:1<l.length
  ·obtain⟨k,rfl⟩:∃ m,k=m+1:=⟨k-1,by omega⟩
   rw[nearL,sibs,if_pos h2,if_pos h2] at h
   rw[C_proof_Make_6]
   simp only[Hold_eq]
   refine cond_dec (fun _=>?_) (fun e=>by omega)
   obtain⟨q',hq'⟩:=hl.half' (1-bitN p n)
   have b0:(halfL l n (1-bitN p n)).length<=l.length:=List.length_filter_le _ _
   have b1:(halfL l n (bitN p n)).length<=l.length:=List.length_filter_le _ _
   obtain⟨N,hN⟩:∃ N,N=20000*m+3000000:=⟨_,rfl⟩
   refine makesplit_loop hl.dig hln (by omega) hp (N:=N) (fun k hk=>?_) l.length 0 k (by omega) (by omega)
   refine at_s hw m (n+1) k (by omega) hq' (by omega) (by omega) ⟨by unfold room;simp only[List.length_cons,List.length_nil];omega,?_⟩
   refine ih (n+1) k (by omega) (hl.half rfl) (by omega) (by simp;omega) (by omega) ?_
   rw[List.append_assoc]
   exact h
  ·rw[nearL_le (by omega),sibs_le (by omega),List.append_nil] at h
   exact Make_end k (by omega) (by omega) h
theorem Clone_s(k:Nat){l:List S_api_Leaf}{K:List S_api_Leaf->Prop}(hn:l.length<=4096)(hk:1<=k)(h:K l):F_slices_Clone_api_Leaf_api_Leaf k l K:=by
 obtain⟨k,rfl⟩:∃ m,k=m+1:=⟨k-1,by omega⟩
 rw[F_slices_Clone_api_Leaf_api_Leaf]
 intro b hb
 refine cond_b (fun e=>?_) (fun e=>?_)
 ·have:=hb e
  subst this
  exact h
 ·refine⟨by unfold room;simp;omega,?_⟩
  rw[List.nil_append]
  exact h
theorem rootE_ok{w:Int}{l:List S_api_Leaf}(h:rootE w l=0):(0<=w/\w<=32)/\l.length<=4096/\Dst l:=by
 unfold rootE at h
 by_cases h1:0<=w/\w<=32
 ·rw[if_neg (not_not_intro h1)] at h
  by_cases h2:4096<l.length
  ·rw[if_pos h2] at h;cases h
  ·rw[if_neg h2] at h
   by_cases h3:Dst l
   ·exact⟨h1,by omega,h3⟩
   ·rw[if_pos h3] at h;cases h
 ·rw[if_pos h1] at h;cases h
abbrev endN(p:List Int)(l:List S_api_Leaf):List S_api_Leaf:=nearL p 256 0 l
abbrev sibL(w:Int)(p:List Int)(l:List S_api_Leaf):List (List Int):=sibs w p 256 0 l
theorem Make_s(k:Nat){w:Int}{l:List S_api_Leaf}{p:List Int}{K:Bool->List Int->List (List Int)->Bool->List Int->List Int->Int->Prop}(hl:LDig l)(hp:Dig p)(hk:9000000<=k)
  (h0:rootE w l≠0->K false z32 [] false z32 z32 (rootE w l))
  (h1:rootE w l=0->K (mHas p (endN p l)) (mVal p (endN p l)) (sibL w p l) (mOth p (endN p l)) (mOp p (endN p l)) (mOv p (endN p l)) 0):F_proof_Make k w l p K:=by
 obtain⟨k,rfl⟩:∃ m,k=m+1:=⟨k-1,by omega⟩
 rw[F_proof_Make]
 simp only[Hold_eq]
 refine Root_s k hl (by omega) (cond_ndec (fun e=>h0 e) (fun e=>?_))
 obtain⟨hw,hn,hd⟩:=rootE_ok e
 refine Clone_s k hn (by omega) (Make_loop hw hp 256 0 k (by omega) (.of hl hd p) hn rfl (by omega) ?_)
 exact h1 e
end Go.V
