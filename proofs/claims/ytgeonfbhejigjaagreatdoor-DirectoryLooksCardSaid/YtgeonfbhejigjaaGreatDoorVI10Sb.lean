import Derived.Test.YtgeonfbhejigjaaGreatDoorVI10Sa
set_option linter.unusedVariables false
set_option linter.unusedSimpArgs false
set_option maxRecDepth 8000
namespace Go.V
theorem r05_Width_s(k:Nat){w:Int}{K:Bool->Prop}(hk:1<=k)(h:K (decide (0<=w/\w<=32))):F_r05_Width k w K:=by
 obtain⟨k,rfl⟩:∃ m,k=m+1:=⟨k-1,by omega⟩
 rw[F_r05_Width]
 refine cond_dec (fun h1=>?_) (fun h1=>?_)
 ·simpa[h1] using h
 ·simpa[h1] using h
theorem r05_Short_loop{W:Nat}{z d:List Int}(hW:W<=32)(hd:d.length=32):∀ (m j k:Nat) (a:List Int) {K:List Int->Int->Prop},j+m=W->m+1<=k->a=d.take j++List.replicate (32-j) 0->K (d.take W++List.replicate (32-W) 0) 0 →
  C_r05_Short_6 k (W:Int) (j:Int) z a d K:=by
 intro m
 induction m with
 | zero=>
  intro j k a K hj hk ha h
  obtain⟨k,rfl⟩:∃ m,k=m+1:=⟨k-1,by omega⟩
  rw[C_r05_Short_6]
  refine cond_dec (fun h1=>by omega) (fun h1=>?_)
  obtain rfl:j=W:=by omega
  rw[ha];exact h
 | succ m ih=>
  intro j k a K hj hk ha h
  obtain⟨k,rfl⟩:∃ m,k=m+1:=⟨k-1,by omega⟩
  rw[C_r05_Short_6]
  simp only[Hold_eq]
  refine cond_dec (fun h1=>?_) (fun h1=>by omega)
  have hj2:j<d.length:=by omega
  rw[step64 j (by omega),Int.toNat_natCast,getD_at hj2]
  refine⟨by omega,by omega,ih (j+1) k _ (by omega) (by omega) ?_ h⟩
  rw[ha]
  have e1:(d.take j).length=j:=by rw[List.length_take];omega
  rw[List.set_append_right _ _ (by omega),e1,Nat.sub_self,show 32-j=(32-(j+1))+1 by omega,List.replicate_succ,List.set_cons_zero]
  rw[List.take_succ_eq_append_getElem hj2,List.append_assoc]
  rfl
theorem r05_Short_s(k:Nat){W:Nat}{m:List Int}{K:List Int->Int->Prop}(hW:W<=32)(hb:B8 m)(hm:m.length<=1000000000)(hk:m.length+3010<=k)(h:K (shortL W m) 0):F_r05_Short k (W:Int) m K:=by
 obtain⟨k,rfl⟩:∃ m,k=m+1:=⟨k-1,by omega⟩
 rw[F_r05_Short]
 simp only[Hold_eq]
 refine r05_Width_s k (by omega) ?_
 rw[decide_eq_true (by omega),Bool.not_true,cond_false]
 exact r02_Sum_s k hb hm (by omega) (r05_Short_loop hW (shaL_dig m).1 W 0 k _ (by omega) (by omega) rfl h)
theorem weight_loop{i:Nat}:∀ (m j k:Nat) {K:Int->Prop},j+m=i % 8->m+1<=k->K ((2 ^ (7-i % 8):Nat):Int)->C_r04_weight_3 k (i:Int) ((2 ^ (7-j):Nat):Int) (j:Int) K:=by
 intro m
 induction m with
 | zero=>
  intro j k K hj hk h
  obtain⟨k,rfl⟩:∃ m,k=m+1:=⟨k-1,by omega⟩
  rw[C_r04_weight_3]
  refine⟨by decide,?_⟩
  rw[tmod8]
  refine cond_dec (fun h1=>by omega) (fun h1=>?_)
  rw[show j=i % 8 by omega];exact h
 | succ m ih=>
  intro j k K hj hk h
  obtain⟨k,rfl⟩:∃ m,k=m+1:=⟨k-1,by omega⟩
  rw[C_r04_weight_3]
  simp only[Hold_eq]
  refine⟨by decide,?_⟩
  rw[tmod8]
  refine cond_dec (fun h1=>?_) (fun h1=>by omega)
  refine⟨by decide,?_⟩
  have hp:2 ^ (7-j)<=2 ^ 7:=Nat.pow_le_pow_right (by decide) (by omega)
  rw[step64 j (by omega),tdiv2,show 2 ^ (7-j) / 2=2 ^ (7-(j+1)) by
   rw[show 7-j=(7-(j+1))+1 by omega,Nat.pow_succ];omega]
  have hp2:2 ^ (7-(j+1))<=2 ^ 7:=Nat.pow_le_pow_right (by decide) (by omega)
  have e:IntKind.i64.wrap ((2 ^ (7-(j+1)):Nat):Int)=((2 ^ (7-(j+1)):Nat):Int):=by
   generalize 2 ^ (7-(j+1))=y at hp2 ⊢
   exact wrap64 (by omega)
  rw[e]
  exact ih (j+1) k (by omega) (by omega) h
theorem At_s(k:Nat){p:List Int}{i:Nat}{K:Int->Prop}(hp:Dig p)(hi:i<256)(hk:12<=k)(h:K (bitN p i)):F_r04_At k p (i:Int) K:=by
 obtain⟨k,rfl⟩:∃ m,k=m+2:=⟨k-2,by omega⟩
 rw[F_r04_At]
 simp only[Hold_eq]
 rw[tdiv8,wrap64 (by omega),F_r04_weight,Int.toNat_natCast]
 simp only[Hold_eq]
 have hj:i / 8<p.length:=by rw[hp.1];omega
 have hx:=hp.2 p[i / 8] (List.getElem_mem hj)
 refine⟨by decide,by omega,weight_loop (i % 8) 0 k (by omega) (by omega) ?_⟩
 have hp2:0<2 ^ (7-i % 8):=Nat.two_pow_pos _
 refine⟨by generalize 2 ^ (7-i % 8)=y at hp2 ⊢;omega,by decide,?_⟩
 rw[getD_at hj,wrap64 (n:=p[i / 8]) (by omega)]
 have e:bitN p i=p[i / 8].toNat / 2 ^ (7-i % 8) % 2:=by unfold bitN;rw[getD_at hj]
 obtain⟨x,hx2⟩:=Int.eq_ofNat_of_zero_le hx.1
 rw[hx2] at e hx ⊢
 rw[Int.toNat_natCast] at e
 have e2:Int.tdiv (x:Int) ((2 ^ (7-i % 8):Nat):Int)=((x / 2 ^ (7-i % 8):Nat):Int):=by rfl
 have hle:x / 2 ^ (7-i % 8)<=x:=Nat.div_le_self _ _
 rw[e2]
 generalize x / 2 ^ (7-i % 8)=y at hle e ⊢
 rw[wrap64 (n:=(y:Int)) (by omega),tmod2,<-e]
 exact h
theorem Twice_in{l:List S_api_Leaf}(hn:l.length<=4096){j:Nat}(hj:j<l.length){K:Bool->Prop}{N:Nat}(h1:¬Dst l->K true)(h0:(∀ i,i<j->¬l[j].f0=(l.getD i zlf).f0)->∀ k,N<=k->C_r05_Twice_2 k l ((j+1:Nat):Int) K) :
  ∀ (m i k:Nat),i+m=j->N+m+2<=k->(∀ t,t<i->¬l[j].f0=(l.getD t zlf).f0)->C_r05_Twice_5 k l (j:Int) (i:Int) K:=by
 intro m
 induction m with
 | zero=>
  intro i k hi hk hh
  obtain⟨k,rfl⟩:∃ m,k=m+1:=⟨k-1,by omega⟩
  rw[C_r05_Twice_5]
  simp only[Hold_eq]
  refine cond_dec (fun e=>by omega) (fun e=>?_)
  rw[step64 j (by omega)]
  obtain rfl:i=j:=by omega
  exact h0 hh k (by omega)
 | succ m ih=>
  intro i k hi hk hh
  obtain⟨k,rfl⟩:∃ m,k=m+1:=⟨k-1,by omega⟩
  have hil:i<l.length:=by omega
  rw[C_r05_Twice_5]
  simp only[Hold_eq]
  refine cond_dec (fun e=>?_) (fun e=>by omega)
  rw[step64 i (by omega),Int.toNat_natCast,Int.toNat_natCast,getD_at hj,getD_at hil]
  refine⟨⟨by omega,by omega⟩,⟨by omega,by omega⟩,cond_dec (fun g=>h1 fun hd=>?_) (fun g=>?_)⟩
  ·exact List.pairwise_iff_getElem.1 hd i j hil hj (by omega) g.symm
  ·refine ih (i+1) k (by omega) (by omega) fun t ht=>?_
   by_cases h:t=i
   ·subst h;rw[getD_at hil];exact g
   ·exact hh t (by omega)
theorem Twice_loop{l:List S_api_Leaf}(hn:l.length<=4096){K:Bool->Prop}(h:K (decide (¬Dst l))):∀ (m j k:Nat),j+m=l.length->5000*m+1<=k->Dst (l.take j)->C_r05_Twice_2 k l (j:Int) K:=by
 intro m
 induction m with
 | zero=>
  intro j k hj hk hd
  obtain⟨k,rfl⟩:∃ m,k=m+1:=⟨k-1,by omega⟩
  rw[C_r05_Twice_2]
  simp only[Hold_eq]
  rw[List.take_of_length_le (by omega)] at hd
  rw[decide_eq_false (not_not_intro hd)] at h
  exact cond_dec (fun e=>by omega) (fun e=>h)
 | succ m ih=>
  intro j k hj hk hd
  obtain⟨k,rfl⟩:∃ m,k=m+1:=⟨k-1,by omega⟩
  have hjl:j<l.length:=by omega
  rw[C_r05_Twice_2]
  simp only[Hold_eq]
  refine cond_dec (fun e=>?_) (fun e=>by omega)
  refine Twice_in hn hjl (N:=5000*m+1) (fun g=>?_) (fun g k hk=>?_) j 0 k (by omega) (by omega) (fun t ht=>by omega)
  ·rw[decide_eq_true g] at h;exact h
  ·refine ih (j+1) k (by omega) hk ?_
   rw[List.take_succ_eq_append_getElem hjl]
   unfold Dst at hd ⊢
   rw[List.pairwise_append]
   refine⟨hd,List.pairwise_singleton _ _,fun a ha b hb=>?_⟩
   obtain rfl:=List.mem_singleton.1 hb
   obtain⟨i,hi,rfl⟩:=List.mem_take_iff_getElem.1 ha
   exact fun e=>g i (by omega) (by rw[getD_at (by omega)];exact e.symm)
theorem Twice_s(k:Nat){l:List S_api_Leaf}(hn:l.length<=4096){K:Bool->Prop}(hk:5000*l.length+10<=k)(h:K (decide (¬Dst l))):F_r05_Twice k l K:=by
 obtain⟨k,rfl⟩:∃ m,k=m+1:=⟨k-1,by omega⟩
 rw[F_r05_Twice]
 simp only[Hold_eq]
 exact Twice_loop hn h l.length 0 k (by omega) (by omega) (by simp[Dst])
def shortX(w:Int)(m:List Int):List Int:=if 0<=w/\w<=32 then shortL w.toNat m else List.replicate 32 0
theorem r05_Short_x(k:Nat){w:Int}{m:List Int}{K:List Int->Int->Prop}(hb:B8 m)(hm:m.length<=1000000000)(hk:m.length+3010<=k)(h:K (shortX w m) (if 0<=w/\w<=32 then 0 else 1)):F_r05_Short k w m K:=by
 by_cases hw:0<=w/\w<=32
 ·rw[if_pos hw] at h
  unfold shortX at h
  rw[if_pos hw] at h
  obtain⟨W,rfl⟩:=Int.eq_ofNat_of_zero_le hw.1
  exact r05_Short_s k (by omega) hb hm hk h
 ·rw[if_neg hw] at h
  unfold shortX at h
  rw[if_neg hw] at h
  obtain⟨k,rfl⟩:∃ m,k=m+1:=⟨k-1,by omega⟩
  rw[F_r05_Short]
  simp only[Hold_eq]
  refine r05_Width_s k (by omega) ?_
  rw[decide_eq_false hw,Bool.not_false,cond_true]
  exact h
theorem r05_Empty_s(k:Nat){w:Int}{K:List Int->Prop}(hk:3100<=k)(h:K (shortX w [2])):F_r05_Empty k w K:=by
 obtain⟨k,rfl⟩:∃ m,k=m+1:=⟨k-1,by omega⟩
 rw[F_r05_Empty]
 simp only[Hold_eq]
 exact r05_Short_x k (B8.cons (by decide) B8.nil) (by simp) (by simp;omega) h
theorem r05_Leaf_s(k:Nat){w:Int}{p v:List Int}{K:List Int->Prop}(hp:Dig p)(hv:Dig v)(hk:3100<=k)(h:K (shortX w (0::(p++v)))):F_r05_Leaf k w p v K:=by
 obtain⟨k,rfl⟩:∃ m,k=m+2:=⟨k-2,by omega⟩
 rw[F_r05_Leaf]
 simp only[Hold_eq]
 rw[F_r05_LeafBytes,show cut p (Int.toNat 0) (Int.toNat (32-0))=p from cut_all _ (by rw[hp.1];decide),show cut v (Int.toNat 0) (Int.toNat (32-0))=v from cut_all _ (by rw[hv.1];decide)]
 refine⟨by decide,by unfold room;rw[hp.1];decide,by decide,by unfold room;rw[List.length_append,hp.1,hv.1];decide,?_⟩
 have hl:=leafB_B8 hp hv
 exact r05_Short_x (k+1) (m:=leafB p v) hl.1 (by rw[hl.2];decide) (by rw[hl.2];omega) h
theorem r05_Node_s(k:Nat){w:Int}{p v:List Int}{K:List Int->Prop}(hp:Dig p)(hv:Dig v)(hk:3100<=k)(h:K (shortX w (1::(p++v)))):F_r05_Node k w p v K:=by
 obtain⟨k,rfl⟩:∃ m,k=m+2:=⟨k-2,by omega⟩
 rw[F_r05_Node]
 simp only[Hold_eq]
 rw[F_r05_NodeBytes,show cut p (Int.toNat 0) (Int.toNat (32-0))=p from cut_all _ (by rw[hp.1];decide),show cut v (Int.toNat 0) (Int.toNat (32-0))=v from cut_all _ (by rw[hv.1];decide)]
 refine⟨by decide,by unfold room;rw[hp.1];decide,by decide,by unfold room;rw[List.length_append,hp.1,hv.1];decide,?_⟩
 have hl:=nodeB_B8 hp hv
 exact r05_Short_x (k+1) (m:=nodeB p v) hl.1 (by rw[hl.2];decide) (by rw[hl.2];omega) h
theorem Half_loop{l:List S_api_Leaf}(hl:LDig l)(hn:l.length<=4096){n b:Nat}(hi:n<256){K:List S_api_Leaf->Prop}(h:K (halfL l n b)):∀ (m j k:Nat),j+m=l.length->2*m+20<=k->C_r05_Half_3 k l (n:Int) (b:Int) (j:Int) (halfL (l.take j) n b) K:=by
 intro m
 induction m with
 | zero=>
  intro j k hj hk
  obtain⟨k,rfl⟩:∃ m,k=m+1:=⟨k-1,by omega⟩
  rw[C_r05_Half_3]
  simp only[Hold_eq]
  refine cond_dec (fun e=>by omega) (fun e=>?_)
  rw[List.take_of_length_le (by omega)]
  exact h
 | succ m ih=>
  intro j k hj hk
  obtain⟨k,rfl⟩:∃ m,k=m+2:=⟨k-2,by omega⟩
  have hjl:j<l.length:=by omega
  rw[C_r05_Half_3]
  simp only[Hold_eq]
  refine cond_dec (fun e=>?_) (fun e=>by omega)
  rw[Int.toNat_natCast,getD_at hjl]
  have next:=ih (j+1) k (by omega) (by omega)
  have hs:halfL (l.take (j+1)) n b=halfL (l.take j) n b++(if bitN l[j].f0 n=b then [l[j]] else []):=by
   rw[List.take_succ_eq_append_getElem hjl]
   unfold halfL
   rw[List.filter_append,List.filter_cons]
   by_cases g:bitN l[j].f0 n=b<;>simp[g]
  have hlen:(halfL (l.take j) n b).length<=4096:=Nat.le_trans (List.length_filter_le _ _) (by rw[List.length_take];omega)
  have four:∀ a,C_r05_Half_3 k l (n:Int) (b:Int) ((j+1:Nat):Int) a K->C_r05_Half_4 (k+1) l (n:Int) (b:Int) (j:Int) a K:=by
   intro a ha
   rw[C_r05_Half_4]
   simp only[Hold_eq]
   rw[step64 j (by omega)]
   exact ha
  refine⟨⟨by omega,by omega⟩,At_s (k+1) (hl _ (List.getElem_mem hjl)).1 hi (by omega) (cond_dec (fun g=>?_) (fun g=>?_))⟩
  ·rw[hs,if_pos (by omega)] at next
   exact⟨⟨by omega,by omega⟩,by unfold room;simp only[List.length_cons,List.length_nil];omega,four _ next⟩
  ·rw[hs,if_neg (by omega),List.append_nil] at next
   exact four _ next
theorem Half_s(k:Nat){l:List S_api_Leaf}(hl:LDig l)(hn:l.length<=4096){n:Nat}(b:Nat)(hi:n<256){K:List S_api_Leaf->Prop}(hk:9000<=k)(h:K (halfL l n b)):F_r05_Half k l (n:Int) (b:Int) K:=by
 obtain⟨k,rfl⟩:∃ m,k=m+1:=⟨k-1,by omega⟩
 rw[F_r05_Half]
 simp only[Hold_eq]
 exact Half_loop hl hn hi h l.length 0 k (by omega) (by omega)
theorem shortX_eq{w:Int}(hw:0<=w/\w<=32)(m:List Int):shortX w m=shortL w.toNat m:=if_pos hw
theorem Digest_s{w:Int}(hw:0<=w/\w<=32):∀ (m n k:Nat) {q:List Int} {l:List S_api_Leaf} {K:List Int->Prop},m+n=256->OkL n q l->l.length<=4096->10000+m<=k->K (digT w (bld w m n l))->F_r05_Digest k w l (n:Int) K:=by
 intro m n k
 induction m generalizing n k with
 | zero=>
  intro q l K hn hl hln hk h
  obtain⟨k,rfl⟩:∃ m,k=m+1:=⟨k-1,by omega⟩
  obtain rfl:n=256:=by omega
  rw[F_r05_Digest]
  simp only[Hold_eq]
  match l,hl,hl.len,h with
  | [],_,_,h=>
   refine cond_dec (fun _=>r05_Empty_s k (by omega) ?_) (fun e=>absurd rfl e)
   rw[shortX_eq hw];exact h
  | [y],hl,_,h=>
   refine cond_dec (fun e=>by simp at e) (fun _=>cond_dec (fun _=>⟨by simp,?_⟩) (fun e=>absurd rfl e))
   refine r05_Leaf_s k (hl.dig y (by simp)).1 (hl.dig y (by simp)).2 (by omega) ?_
   rw[shortX_eq hw];exact h
  | _::_::_,_,hh,_=>simp at hh
 | succ m ih=>
  intro q l K hn hl hln hk h
  obtain⟨k,rfl⟩:∃ m,k=m+1:=⟨k-1,by omega⟩
  rw[F_r05_Digest]
  simp only[Hold_eq]
  match l,hl,hln,h with
  | [],_,_,h=>
   refine cond_dec (fun _=>r05_Empty_s k (by omega) ?_) (fun e=>absurd rfl e)
   rw[shortX_eq hw];exact h
  | [y],hl,_,h=>
   refine cond_dec (fun e=>by simp at e) (fun _=>cond_dec (fun _=>⟨by simp,?_⟩) (fun e=>absurd rfl e))
   refine r05_Leaf_s k (hl.dig y (by simp)).1 (hl.dig y (by simp)).2 (by omega) ?_
   rw[shortX_eq hw];exact h
  | x::y::l,hl,hln,h=>
   rw[dig_two hn hl (by simp)] at h
   generalize hL:x::y::l=L at *
   have hLl:2<=L.length:=by rw[<-hL];simp
   obtain⟨q0,h0⟩:=hl.half' 0
   obtain⟨q1,h1⟩:=hl.half' 1
   have len:=half_len L n
   refine cond_dec (fun e=>by omega) (fun _=>cond_dec (fun e=>by omega) (fun _=>?_))
   rw[step64 n (by omega)]
   refine Half_s k hl.dig hln 0 (by omega) (by omega) (ih (n+1) k (by omega) h0 (by omega) (by omega) ?_)
   refine Half_s k hl.dig hln 1 (by omega) (by omega) (ih (n+1) k (by omega) h1 (by omega) (by omega) ?_)
   refine r05_Node_s k (digT_dig hw _) (digT_dig hw _) (by omega) ?_
   rw[shortX_eq hw]
   exact h
theorem r05_Root_s(k:Nat){w:Int}{l:List S_api_Leaf}{K:List Int->Int->Prop}(hl:LDig l)(hk:5000*l.length+20000<=k)(h:K (rootR w l) (rootE w l)):F_r05_Root k w l K:=by
 obtain⟨k,rfl⟩:∃ m,k=m+1:=⟨k-1,by omega⟩
 rw[F_r05_Root]
 simp only[Hold_eq]
 refine r05_Width_s k (by omega) (cond_ndec (fun hw=>?_) (fun hw=>?_))
 ·unfold rootR at h
  rw[show rootE w l=1 by unfold rootE;rw[if_pos hw],if_neg (by decide)] at h
  exact h
 by_cases h1:4096<l.length
 ·rw[decide_eq_true (by omega),cond_true]
  unfold rootR at h
  rw[show rootE w l=2 by unfold rootE;rw[if_neg (not_not_intro hw),if_pos h1],if_neg (by decide)] at h
  exact h
 rw[decide_eq_false (by omega),cond_false]
 refine Twice_s k (by omega) (by omega) (cond_dec (fun h2=>?_) (fun h2=>?_))
 ·unfold rootR at h
  rw[show rootE w l=30 by unfold rootE;rw[if_neg (not_not_intro hw),if_neg h1,if_pos h2],if_neg (by decide)] at h
  exact h
 ·have e:rootE w l=0:=by unfold rootE;rw[if_neg (not_not_intro hw),if_neg h1,if_neg h2]
  unfold rootR at h
  rw[e,if_pos rfl] at h
  exact Digest_s hw 256 0 k rfl (.of hl (Decidable.not_not.1 h2) []) (by omega) (by omega) h
theorem sib_two{w:Int}{p:List Int}{m n:Nat}{l:List S_api_Leaf}(h:1<l.length):sibs w p (m+1) n l=digT w (bld w m (n+1) (halfL l n (1-bitN p n)))::sibs w p m (n+1) (halfL l n (bitN p n)):=by rw[sibs,if_pos h]
theorem near_two{p:List Int}{m n:Nat}{l:List S_api_Leaf}(h:1<l.length):nearL p (m+1) n l=nearL p m (n+1) (halfL l n (bitN p n)):=by rw[nearL,if_pos h]
theorem bA:bitN lfA.f0 0=0:=by decide +kernel
theorem bB:bitN lfB.f0 0=1:=by decide +kernel
theorem hA:halfL [lfA,lfB] 0 (bitN z32 0)=[lfA]:=by
 rw[show bitN z32 0=0 from by decide +kernel]
 unfold halfL
 rw[List.filter_cons,if_pos (decide_eq_true bA),List.filter_cons,if_neg (by rw[bB];decide)];rfl
theorem hB2:halfL [lfA,lfB] 0 (1-bitN z32 0)=[lfB]:=by
 rw[show bitN z32 0=0 from by decide +kernel]
 unfold halfL
 rw[List.filter_cons,if_neg (by rw[bA];decide),List.filter_cons,if_pos (decide_eq_true bB)];rfl
theorem nearL_len{p:List Int}:∀ (m n:Nat) {l:List S_api_Leaf},m+n=256->OkL n p l->(nearL p m n l).length<=1:=by
 intro m
 induction m with
 | zero=>
  intro n l hn hl
  obtain rfl:n=256:=by omega
  exact hl.len
 | succ m ih=>
  intro n l hn hl
  by_cases h2:1<l.length
  ·rw[near_two h2];exact ih (n+1) (by omega) (hl.half rfl)
  ·rw[nearL_le (by omega)];omega
theorem sibs_le256(w:Int){p:List Int}:∀ (m n:Nat) {l:List S_api_Leaf},(sibs w p m n l).length<=m:=by
 intro m
 induction m with
 | zero=>intro n l;exact Nat.le_refl _
 | succ m ih=>
  intro n l
  rw[sibs]
  split
  ·have:=ih (n+1) (l:=halfL l n (bitN p n))
   rw[List.length_cons];omega
  ·exact Nat.zero_le _
theorem pget_near{p:List Int}:∀ (m n:Nat) {l:List S_api_Leaf},getL (nearL p m n l) p=getL l p:=by
 intro m
 induction m with
 | zero=>intro n l;rfl
 | succ m ih=>
  intro n l
  rw[nearL]
  split
  ·rw[ih (n+1),half_get rfl]
  ·rfl
theorem mHas_get{p:List Int}{l:List S_api_Leaf}(h:l.length<=1):mHas p l=(getL l p).isSome/\mVal p l=(getL l p).getD z32:=by
 match l,h with
 | [],_=>exact⟨rfl,rfl⟩
 | [y],_=>
  unfold mHas mVal getL
  by_cases e:y.f0=p
  ·rw[List.find?_cons_of_pos (by simpa using e)]
   simp[e]
  ·rw[List.find?_cons_of_neg (by simpa using e)]
   simp[e]
 | _::_::_,h=>simp at h
theorem rGet_loop{l:List S_api_Leaf}(hn:l.length<=4096){p:List Int}{K:List Int->Bool->Prop}:∀ (m j k:Nat),j+m=l.length->m+1<=k->K ((getL (l.drop j) p).getD z32) (getL (l.drop j) p).isSome->C_r05_Get_2 k l (j:Int) p z32 K:=by
 intro m
 induction m with
 | zero=>
  intro j k hj hk h
  obtain⟨k,rfl⟩:∃ m,k=m+1:=⟨k-1,by omega⟩
  rw[C_r05_Get_2]
  simp only[Hold_eq]
  rw[List.drop_of_length_le (by omega)] at h
  exact cond_dec (fun e=>by omega) (fun e=>h)
 | succ m ih=>
  intro j k hj hk h
  obtain⟨k,rfl⟩:∃ m,k=m+1:=⟨k-1,by omega⟩
  have hjl:j<l.length:=by omega
  rw[C_r05_Get_2]
  simp only[Hold_eq]
  rw[Int.toNat_natCast,getD_at hjl,step64 j (by omega)]
  rw[drop_cons hjl] at h
  unfold getL at h ih
  refine cond_dec (fun e=>⟨⟨by omega,by omega⟩,cond_dec (fun g=>?_) (fun g=>?_)⟩) (fun e=>by omega)
  ·rw[List.find?_cons_of_pos (by simpa using g)] at h
   exact⟨⟨by omega,by omega⟩,h⟩
  ·rw[List.find?_cons_of_neg (by simpa using g)] at h
   exact ih (j+1) k (by omega) (by omega) h
theorem rGet_s(k:Nat){l:List S_api_Leaf}(hn:l.length<=4096){p:List Int}{K:List Int->Bool->Prop}(hk:5000<=k)(h:K ((getL l p).getD z32) (getL l p).isSome):F_r05_Get k l p K:=by
 obtain⟨k,rfl⟩:∃ m,k=m+1:=⟨k-1,by omega⟩
 rw[F_r05_Get]
 simp only[Hold_eq]
 exact rGet_loop hn l.length 0 k (by omega) (by omega) h
abbrev KM:=Bool->List Int->List (List Int)->Bool->List Int->List Int->Int->Prop
theorem rmake_end(k:Nat){p:List Int}{l:List S_api_Leaf}(hl:l.length<=1){b:Bool}{v z:List Int}{zz S:List (List Int)}{K:KM}(hk:4<=k)(e1:b=mHas p l)(e2:v=mVal p l)
  (h:K (mHas p l) (mVal p l) S (mOth p l) (mOp p l) (mOv p l) 0):C_r06_Make_15 k b false z32 false z32 z32 b v false z32 z32 l zz S K/\C_r06_Make_15_1 k b l false z32 false z32 z32 b v false z32 z32 zz S K:=by
 obtain⟨k,rfl⟩:∃ m,k=m+4:=⟨k-4,by omega⟩
 subst e1 e2
 match l,hl,h with
 | [],_,h=>
  constructor
  ·rw[C_r06_Make_15];simp only[Hold_eq]
   refine cond_nb (fun _=>cond_dec (fun e=>by simp at e) (fun _=>?_)) (fun g=>by cases g)
   rw[C_r06_Make_19];exact h
  ·rw[C_r06_Make_15_1];simp only[Hold_eq]
   refine cond_nb (fun _=>cond_dec (fun e=>by simp at e) (fun _=>?_)) (fun g=>by cases g)
   rw[C_r06_Make_19];exact h
 | [y],_,h=>
  simp only[mHas,mVal,mOth,mOp,mOv] at h ⊢
  by_cases g:y.f0=p
  ·simp only[if_pos g,decide_eq_true g,Bool.not_true] at h ⊢
   constructor
   ·rw[C_r06_Make_15];simp only[Hold_eq,Bool.not_true,cond_false]
    rw[C_r06_Make_19];exact h
   ·rw[C_r06_Make_15_1];simp only[Hold_eq,Bool.not_true,cond_false]
    rw[C_r06_Make_19];exact h
  ·simp only[if_neg g,decide_eq_false g,Bool.not_false] at h ⊢
   constructor
   ·rw[C_r06_Make_15];simp only[Hold_eq,Bool.not_false,cond_true]
    refine cond_dec (fun _=>?_) (fun e=>absurd rfl e)
    rw[C_r06_Make_17];simp only[Hold_eq]
    refine⟨by simp,?_⟩
    rw[C_r06_Make_18];simp only[Hold_eq]
    refine⟨by simp,?_⟩
    rw[C_r06_Make_19];exact h
   ·rw[C_r06_Make_15_1];simp only[Hold_eq,Bool.not_false,cond_true]
    refine cond_dec (fun _=>?_) (fun e=>absurd rfl e)
    rw[C_r06_Make_17_1];simp only[Hold_eq]
    refine⟨by simp,?_⟩
    rw[C_r06_Make_18_1];simp only[Hold_eq]
    refine⟨by simp,?_⟩
    rw[C_r06_Make_19];exact h
 | _::_::_,hl,_=>simp at hl
theorem flip01(p:List Int)(n:Nat):IntKind.i64.wrap ((1:Int)-((bitN p n:Nat):Int))=((1-bitN p n:Nat):Int):=by
 rcases bit01 p n with h|h<;>rw[h]<;>rfl
theorem rmake_loop{w:Int}(hw:0<=w/\w<=32){p:List Int}(hp:Dig p){b:Bool}{v:List Int}:∀ (m n k:Nat) {l:List S_api_Leaf} {zz S:List (List Int)} {K:KM},
  m+n=256->OkL n p l->l.length<=4096->S.length=n->20*m+3000000<=k->b=mHas p (nearL p m n l)->v=mVal p (nearL p m n l) →
  K (mHas p (nearL p m n l)) (mVal p (nearL p m n l)) (S++sibs w p m n l) (mOth p (nearL p m n l)) (mOp p (nearL p m n l)) (mOv p (nearL p m n l)) 0 →
  C_r06_Make_9_1 k w b (n:Int) p false z32 false z32 z32 b v false z32 z32 l zz S K/\C_r06_Make_9 k w b l (n:Int) p false z32 false z32 z32 b v false z32 z32 zz S K:=by
 intro m
 induction m with
 | zero=>
  intro n k l zz S K hn hl hln hS hk e1 e2 h
  obtain rfl:n=256:=by omega
  obtain⟨k,rfl⟩:∃ m,k=m+1:=⟨k-1,by omega⟩
  rw[sibs,List.append_nil] at h
  have hle:=hl.len
  have he:=rmake_end k (z:=z32) (zz:=zz) hle (by omega) e1 e2 h
  constructor
  ·rw[C_r06_Make_9_1];simp only[Hold_eq]
   exact cond_dec (fun e=>by omega) (fun _=>he.1)
  ·rw[C_r06_Make_9];simp only[Hold_eq]
   exact cond_dec (fun e=>by omega) (fun _=>he.2)
 | succ m ih=>
  intro n k l zz S K hn hl hln hS hk e1 e2 h
  by_cases h2:1<l.length
  ·rw[near_two h2] at e1 e2 h
   rw[sib_two h2] at h
   obtain⟨k,rfl⟩:∃ m,k=m+4:=⟨k-4,by omega⟩
   have b0:(halfL l n (1-bitN p n)).length<=l.length:=List.length_filter_le _ _
   have b1:(halfL l n (bitN p n)).length<=l.length:=List.length_filter_le _ _
   obtain⟨q',hq'⟩:=hl.half' (1-bitN p n)
   have next:=fun zz=>(ih (n+1) k (zz:=zz) (S:=S++[digT w (bld w m (n+1) (halfL l n (1-bitN p n)))]) (K:=K) (by omega) (hl.half rfl) (by omega) (by simp;omega) (by omega) e1 e2 (by rw[List.append_assoc];exact h)).1
   have hr:room (S.length+[digT w (bld w m (n+1) (halfL l n (1-bitN p n)))].length) 32:=by unfold room;simp only[List.length_cons,List.length_nil];omega
   constructor
   ·rw[C_r06_Make_9_1];simp only[Hold_eq]
    refine cond_dec (fun _=>?_) (fun e=>by omega)
    rw[C_r06_Make_11_1];simp only[Hold_eq]
    refine At_s (k+2) hp (by omega) (by omega) ?_
    rw[C_r06_Make_12_1];simp only[Hold_eq]
    rw[flip01]
    refine Half_s (k+1) hl.dig hln _ (by omega) (by omega) ?_
    rw[C_r06_Make_13_1];simp only[Hold_eq]
    rw[step64 n (by omega)]
    refine Digest_s hw m (n+1) k (by omega) hq' (by omega) (by omega) ⟨hr,?_⟩
    exact Half_s k hl.dig hln _ (by omega) (by omega) (next _)
   ·rw[C_r06_Make_9];simp only[Hold_eq]
    refine cond_dec (fun _=>?_) (fun e=>by omega)
    rw[C_r06_Make_11];simp only[Hold_eq]
    refine At_s (k+2) hp (by omega) (by omega) ?_
    rw[C_r06_Make_12];simp only[Hold_eq]
    rw[flip01]
    refine Half_s (k+1) hl.dig hln _ (by omega) (by omega) ?_
    rw[C_r06_Make_13];simp only[Hold_eq]
    rw[step64 n (by omega)]
    refine Digest_s hw m (n+1) k (by omega) hq' (by omega) (by omega) ⟨hr,?_⟩
    exact Half_s k hl.dig hln _ (by omega) (by omega) (next _)
  ·obtain⟨k,rfl⟩:∃ m,k=m+1:=⟨k-1,by omega⟩
   rw[nearL_le (by omega)] at e1 e2 h
   rw[sibs_le (by omega),List.append_nil] at h
   have he:=rmake_end k (z:=z32) (zz:=zz) (by omega:l.length<=1) (by omega) e1 e2 h
   constructor
   ·rw[C_r06_Make_9_1];simp only[Hold_eq]
    exact cond_dec (fun e=>by omega) (fun _=>he.1)
   ·rw[C_r06_Make_9];simp only[Hold_eq]
    exact cond_dec (fun e=>by omega) (fun _=>he.2)
theorem rMake_s(k:Nat){w:Int}{l:List S_api_Leaf}{p:List Int}{K:KM}(hl:LDig l)(hp:Dig p)(hk:30000000<=k)
  (h0:rootE w l≠0->K false z32 [] false z32 z32 (rootE w l))
  (h1:rootE w l=0->K (mHas p (endN p l)) (mVal p (endN p l)) (sibL w p l) (mOth p (endN p l)) (mOp p (endN p l)) (mOv p (endN p l)) 0) (hln:l.length<=200):F_r06_Make k w l p K:=by
 obtain⟨k,rfl⟩:∃ m,k=m+1:=⟨k-1,by omega⟩
 rw[F_r06_Make]
 simp only[Hold_eq]
 refine r05_Root_s k hl (by omega) (cond_ndec (fun e=>h0 e) (fun e=>?_))
 obtain⟨hw,hn,hd⟩:=rootE_ok e
 refine rGet_s k hn (by omega) ?_
 have hle:=nearL_len 256 0 rfl (.of hl hd p)
 obtain⟨g1,g2⟩:=mHas_get (p:=p) hle
 rw[pget_near] at g1 g2
 exact (rmake_loop hw hp 256 0 k (S:=[]) rfl (.of hl hd p) (by omega) rfl (by omega) g1.symm g2.symm (h1 e)).2
theorem rSame_loop{l:List (List Int)}{a:Bool}{b c:List Int}{d:Bool}{e f:List Int}{K:Bool->Prop}(hn:l.length<=4096)(h:K true):∀ (m j k:Nat),j+m=l.length->m+1<=k->C_r06_Same_4 k (j:Int) l a b c l d e f K:=by
 intro m
 induction m with
 | zero=>
  intro j k hj hk
  obtain⟨k,rfl⟩:∃ m,k=m+1:=⟨k-1,by omega⟩
  rw[C_r06_Same_4]
  simp only[Hold_eq]
  exact cond_dec (fun e=>by omega) (fun e=>h)
 | succ m ih=>
  intro j k hj hk
  obtain⟨k,rfl⟩:∃ m,k=m+1:=⟨k-1,by omega⟩
  rw[C_r06_Same_4]
  simp only[Hold_eq]
  rw[step64 j (by omega)]
  exact cond_dec (fun e=>⟨⟨by omega,by omega⟩,⟨by omega,by omega⟩,cond_ndec (fun g=>absurd (by trivial) g) (fun _=>ih (j+1) k (by omega) (by omega))⟩) (fun e=>by omega)
theorem rSame_s(k:Nat){l:List (List Int)}{a:Bool}{b c:List Int}{K:Bool->Prop}(hn:l.length<=4096)(hk:5000<=k)(h:K true):F_r06_Same k l a b c l a b c K:=by
 obtain⟨k,rfl⟩:∃ m,k=m+1:=⟨k-1,by omega⟩
 rw[F_r06_Same]
 simp only[Hold_eq]
 rw[beq_self_eq_true,Bool.not_true,cond_false]
 refine cond_ndec (fun g=>absurd (by trivial) g) (fun _=>cond_ndec (fun g=>absurd (by trivial) g) (fun _=>cond_ndec (fun g=>absurd (by trivial) g) (fun _=>?_)))
 exact rSame_loop hn h l.length 0 k (by omega) (by omega)
end Go.V
