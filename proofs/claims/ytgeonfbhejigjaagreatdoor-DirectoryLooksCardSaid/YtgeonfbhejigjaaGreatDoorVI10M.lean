import Derived.Test.YtgeonfbhejigjaaGreatDoorVI10S
import Derived.Test.YtgeonfbhejigjaaGreatDoorVI10K
set_option linter.unusedVariables false
set_option linter.unusedSimpArgs false
set_option maxRecDepth 4000
namespace Go.V
theorem inner_s(k:Nat){x:KT S_api_Leaf}{K:Bool->Prop}(hk:1<=k)(h:K (innerT x)):F_smt_knot_inner k x K:=by
 obtain⟨k,rfl⟩:∃ m,k=m+1:=⟨k-1,by omega⟩
 rw[F_smt_knot_inner]
 unfold innerT at h
 cases h1:x.isNil with
 | true=>rw[h1] at h;exact h
 | false=>
  rw[h1] at h
  refine⟨rfl,rfl,?_⟩
  cases h2:x.lt.isNil with
  | false=>rw[h2] at h;exact h
  | true=>rw[h2] at h;exact⟨rfl,rfl,by simpa using h⟩
theorem bit01(p:List Int)(n:Nat):bitN p n=0\/bitN p n=1:=Nat.mod_two_eq_zero_or_one _
theorem with9_s(k:Nat){n:Nat}{x:S_api_Leaf}{g:Int}{dl pz vz:List Int}{L R:KT S_api_Leaf}{K:KT S_api_Leaf->Prop}(hp:Dig x.f0)(hn:n<256)(hk:3<=k)
  (h1:bitN x.f0 n=1->F_smt_knot_with k R x.f0 x.f1 ((n+1:Nat):Int) fun r=>K (.node g ⟨pz,vz⟩ L r))
  (h0:bitN x.f0 n=0->F_smt_knot_with k L x.f0 x.f1 ((n+1:Nat):Int) fun r=>K (.node g ⟨pz,vz⟩ r R)):C_smt_knot_with_9 (k+1) n x.f0 x.f1 g dl pz vz L R K:=by
 rw[C_smt_knot_with_9]
 simp only[Hold_eq]
 refine right_s k hp hn hk ?_
 rw[step64 n (by omega)]
 refine cond_dec (fun h=>h1 h) (fun h=>h0 ?_)
 exact (bit01 _ _).resolve_right h
theorem with_s(w:Int):∀ (m n k:Nat) {l:List S_api_Leaf} {x:S_api_Leaf} {K:KT S_api_Leaf->Prop},m+n=256->OkL n x.f0 l->Dig x.f0/\Dig x.f1->5*m+20<=k->K (bld w m n (insL l x)) →
  F_smt_knot_with k (bld w m n l) x.f0 x.f1 (n:Int) K:=by
 intro m
 induction m with
 | zero=>
  intro n k l x K hn hl hx hk h
  obtain⟨k,rfl⟩:∃ m,k=m+2:=⟨k-2,by omega⟩
  rw[F_smt_knot_with]
  simp only[Hold_eq]
  obtain rfl:n=256:=by omega
  match l,hl,hl.len,h with
  | [],_,_,h=>exact⟨w,h⟩
  | [y],hl,_,h=>
   have e:y.f0=x.f0:=bits_eq (hl.dig y (by simp)).1 hx.1 (hl.agr y (by simp))
   rw[bld_one]
   rw[show (KT.node w y .nil .nil:KT S_api_Leaf).isNil=false from rfl,cond_false]
   refine inner_s (k+1) (by omega) ?_
   refine⟨rfl,rfl,rfl,?_⟩
   rw[decide_eq_true (show (KT.lf _ (KT.node w y .nil .nil)).f0=x.f0 from e)]
   refine⟨w,?_⟩
   have:insL [y] x=[x]:=by simp[insL,remL,e]
   rw[this,bld_one] at h
   exact h
  | _::_::_,_,hh,_=>simp at hh
 | succ m ih=>
  intro n k l x K hn hl hx hk h
  have down:∀ (k:Nat) {dl:List Int} {K:KT S_api_Leaf->Prop},5*m+20<=k->K (.node w zlf (bld w m (n+1) (halfL (insL l x) n 0)) (bld w m (n+1) (halfL (insL l x) n 1))) →
    C_smt_knot_with_9 (k+1) n x.f0 x.f1 w dl (List.replicate 32 0) (List.replicate 32 0) (bld w m (n+1) (halfL l n 0)) (bld w m (n+1) (halfL l n 1)) K:=by
   intro k dl K hk h
   refine with9_s k hx.1 (by omega) (by omega) (fun e=>?_) (fun e=>?_)
   ·refine ih (n+1) k (by omega) (hl.half e) hx hk ?_
    rw[half_ins_same l e,half_ins_other l (by omega:bitN x.f0 n≠0)] at h
    exact h
   ·refine ih (n+1) k (by omega) (hl.half e) hx hk ?_
    rw[half_ins_same l e,half_ins_other l (by omega:bitN x.f0 n≠1)] at h
    exact h
  obtain⟨k,rfl⟩:∃ m,k=m+4:=⟨k-4,by omega⟩
  rw[F_smt_knot_with]
  simp only[Hold_eq]
  match l,hl,h,down with
  | [],_,h,_=>exact⟨w,h⟩
  | [y],hl,h,down=>
   rw[bld_one]
   rw[show (KT.node w y .nil .nil:KT S_api_Leaf).isNil=false from rfl,cond_false]
   refine inner_s (k+3) (by omega) ?_
   refine⟨rfl,rfl,rfl,?_⟩
   refine cond_dec (fun e=>?_) (fun e=>?_)
   ·have:insL [y] x=[x]:=by simp[insL,remL,(show y.f0=x.f0 from e)]
    rw[this,bld_one] at h
    exact⟨w,h⟩
   ·have e:y.f0≠x.f0:=e
    rw[C_smt_knot_with_3]
    simp only[Hold_eq]
    refine inner_s (k+2) (by omega) ?_
    refine⟨rfl,rfl,w,w,?_⟩
    show F_smt_right (k+2) y.f0 n _
    refine right_s (k+2) (hl.dig y (by simp)).1 (by omega) (by omega) ?_
    have h2:insL [y] x=[y,x]:=by simp[insL,remL,e]
    rw[bld_two w m n (by rw[h2];simp)] at h
    have dn:=fun dl=>down k (dl:=dl) (K:=K) (by omega) h
    refine cond_dec (fun b=>?_) (fun b=>?_)
    ·rw[C_smt_knot_with_8]
     simp only[Hold_eq]
     refine⟨w,?_⟩
     have:=dn (List.replicate 32 0)
     rw[show halfL [y] n 0=[] by simp[halfL,b],show halfL [y] n 1=[y] by simp[halfL,b],bld_nil,bld_one] at this
     exact this
    ·rw[C_smt_knot_with_8]
     simp only[Hold_eq]
     refine⟨w,?_⟩
     have b:=(bit01 _ _).resolve_right b
     have:=dn (List.replicate 32 0)
     rw[show halfL [y] n 1=[] by simp[halfL,b],show halfL [y] n 0=[y] by simp[halfL,b],bld_nil,bld_one] at this
     exact this
  | y::z::l,hl,h,down=>
   have hi:=bld_inner w (m+1) n hn hl
   rw[decide_eq_true (by simp:2<=(y::z::l).length)] at hi
   have ht:2<=(insL (y::z::l) x).length:=by
    unfold insL
    have:=(rem_len (p:=x.f0) hl.dst).1
    simp only[List.length_append,List.length_cons,List.length_nil] at this ⊢
    omega
   rw[bld_two w m n ht] at h
   have hn0:(bld w (m+1) n (y::z::l)).isNil=false:=by rw[bld_isNil w (m+1) n hn hl];rfl
   rw[hn0,cond_false]
   refine inner_s (k+3) (by omega) ?_
   rw[hi]
   show C_smt_knot_with_3 (k+2+1) _ _ _ _ _
   rw[C_smt_knot_with_3]
   simp only[Hold_eq]
   refine inner_s (k+2) (by omega) ?_
   rw[hi]
   show C_smt_knot_with_8_1 (k+1+1) _ _ _ _ _
   rw[C_smt_knot_with_8_1]
   simp only[Hold_eq]
   refine⟨hn0,hn0,hn0,hn0,w,?_⟩
   rw[bld_two w m n (by simp)]
   exact down k (by omega) h
theorem OkL.rem{n:Nat}{q p:List Int}{l:List S_api_Leaf}(h:OkL n q l):OkL n q (remL l p):=
 ⟨h.dig.rem p,fun x hx=>h.agr x (List.mem_filter.1 hx).1,h.dst.rem p⟩
theorem get_loop(w:Int){r7 r8:Int}{r9:KT S_api_Leaf}{p:List Int}(hp:Dig p):∀ (m n k:Nat) {l:List S_api_Leaf} {K:List Int->Bool->Int->Int->KT S_api_Leaf->Prop},m+n=256->OkL n p l->m+10<=k →
  K ((getL l p).getD (List.replicate 32 0)) (getL l p).isSome r7 r8 r9->C_smt_Tree_Get_5 k (bld w m n l) (n:Int) r7 r8 r9 p (List.replicate 32 0) K:=by
 have leafc:∀ (k:Nat) {l:List S_api_Leaf} {n:Nat} {K:List Int->Bool->Int->Int->KT S_api_Leaf->Prop},4<=k->l.length<=1->K ((getL l p).getD (List.replicate 32 0)) (getL l p).isSome r7 r8 r9 →
   ∀ m,C_smt_Tree_Get_5 k (bld w m n l) (n:Int) r7 r8 r9 p (List.replicate 32 0) K:=by
  intro k l n K hk hl h m
  obtain⟨k,rfl⟩:∃ m,k=m+3:=⟨k-3,by omega⟩
  rw[C_smt_Tree_Get_5]
  simp only[Hold_eq]
  match l,hl,h with
  | [],_,h=>
   rw[bld_nil]
   refine inner_s (k+2) (by omega) ?_
   simp only[show innerT (KT.nil:KT S_api_Leaf)=false from rfl,show (KT.nil:KT S_api_Leaf).isNil=true from rfl,cond_false,cond_true]
   rw[C_smt_Tree_Get_11]
   exact h
  | [y],_,h=>
   rw[bld_one]
   refine inner_s (k+2) (by omega) ?_
   refine⟨rfl,rfl,rfl,?_⟩
   refine cond_ndec (fun e=>?_) (fun e=>?_)
   ·have:getL [y] p=none:=by unfold getL;rw[List.find?_cons_of_neg (by simpa using (show y.f0≠p from e))];rfl
    rw[this] at h
    rw[C_smt_Tree_Get_11]
    exact h
   ·have:getL [y] p=some y.f1:=by unfold getL;rw[List.find?_cons_of_pos (by simpa using (show y.f0=p from e))];rfl
    rw[this] at h
    exact⟨rfl,rfl,rfl,h⟩
  | _::_::_,hl,_=>simp at hl
 intro m
 induction m with
 | zero=>
  intro n k l K hn hl hk h
  obtain rfl:n=256:=by omega
  exact leafc k (by omega) hl.len h 0
 | succ m ih=>
  intro n k l K hn hl hk h
  by_cases h2:2<=l.length
  ·obtain⟨k,rfl⟩:∃ m,k=m+1:=⟨k-1,by omega⟩
   have hi:=bld_inner w (m+1) n hn hl
   rw[decide_eq_true h2] at hi
   rw[C_smt_Tree_Get_5]
   simp only[Hold_eq]
   refine inner_s k (by omega) ?_
   rw[hi,cond_true]
   refine right_s (i:=n) k hp (by omega) (by omega) ?_
   rw[step64 n (by omega),bld_two w m n h2]
   refine cond_dec (fun e=>⟨rfl,rfl,?_⟩) (fun e=>⟨rfl,rfl,?_⟩)
   ·refine ih (n+1) k (by omega) (hl.half e) (by omega) ?_
    rw[half_get e];exact h
   ·have e:=(bit01 _ _).resolve_right e
    refine ih (n+1) k (by omega) (hl.half e) (by omega) ?_
    rw[half_get e];exact h
  ·exact leafc k (by omega) (by omega) h (m+1)
theorem Get_s(k:Nat){w r7 r8:Int}{p:List Int}{l:List S_api_Leaf}{K:List Int->Bool->Int->Int->KT S_api_Leaf->Prop}(hl:LDig l)(hd:Dst l)(hp:Dig p)(hk:300<=k)
  (h:K ((getL l p).getD (List.replicate 32 0)) (getL l p).isSome r7 r8 (bld w 256 0 l)):F_smt_Tree_Get k p r7 r8 (bld w 256 0 l) K:=by
 obtain⟨k,rfl⟩:∃ m,k=m+1:=⟨k-1,by omega⟩
 rw[F_smt_Tree_Get]
 simp only[Hold_eq]
 exact get_loop w hp 256 0 k (by omega) (.of hl hd p) (by omega) h
theorem Root1_s(k:Nat){w n:Int}{l:List S_api_Leaf}{K:List Int->Int->Int->KT S_api_Leaf->Prop}(hw:0<=w/\w<=32)(hl:LDig l)(hk:10000<=k)
  (h:K (rootL w l) w n (bld w 256 0 l)):F_smt_Tree_Root_s1 k w n (bld w 256 0 l) K:=by
 obtain⟨k,rfl⟩:∃ m,k=m+1:=⟨k-1,by omega⟩
 rw[F_smt_Tree_Root_s1]
 simp only[Hold_eq]
 refine digest_s k hw (allG_bld w 256 0 hl) ?_ h
 have:=ht_bld w 256 0 l
 unfold digBound
 omega
theorem cmpL_eq:∀ {a b:List Int},a.length=b.length->¬cmpL a b<0->¬cmpL b a<0->a=b
 | [],[],_,_,_=>rfl
 | x::a,y::b,hl,h1,h2=>by
  rw[cmpL] at h1 h2
  by_cases e1:x<y
  ·rw[if_pos e1] at h1;omega
  ·rw[if_neg e1] at h1
   by_cases e2:y<x
   ·rw[if_pos e2] at h2;omega
   ·rw[if_neg e2] at h1
    rw[if_neg e2,if_neg e1] at h2
    obtain rfl:x=y:=by omega
    rw[cmpL_eq (by simpa using hl) h1 h2]
theorem twice_loop{l:List S_api_Leaf}(hd:LDig l)(hs:SortedL l)(hn:l.length<=4096):∀ (m j k:Nat) {K:Bool->Prop},j+m=l.length->m+1<=k->Dst (l.take j) →
  K (decide (¬Dst l))->C_smt_twice_4 k (l.length:Int) (j:Int) l K:=by
 intro m
 induction m with
 | zero=>
  intro j k K hj hk ht h
  obtain⟨k,rfl⟩:∃ m,k=m+1:=⟨k-1,by omega⟩
  rw[C_smt_twice_4]
  simp only[Hold_eq]
  refine cond_dec (fun e=>by omega) (fun e=>?_)
  rw[List.take_of_length_le (by omega)] at ht
  rw[decide_eq_false (not_not_intro ht)] at h
  exact h
 | succ m ih=>
  intro j k K hj hk ht h
  obtain⟨k,rfl⟩:∃ m,k=m+1:=⟨k-1,by omega⟩
  rw[C_smt_twice_4]
  simp only[Hold_eq]
  have hjl:j<l.length:=by omega
  have next:(∀ x∈l.take j,x.f0≠l[j].f0)->C_smt_twice_4 k (l.length:Int) ((j+1:Nat):Int) l K:=fun hx=>by
   refine ih (j+1) k (by omega) (by omega) ?_ h
   rw[List.take_succ_eq_append_getElem hjl]
   unfold Dst at ht ⊢
   rw[List.pairwise_append]
   exact⟨ht,List.pairwise_singleton _ _,fun a ha b hb=>by obtain rfl:=List.mem_singleton.1 hb;exact hx a ha⟩
  refine cond_dec (fun e=>?_) (fun e=>by omega)
  rw[step64 j (by omega)]
  refine cond_dec (fun e0=>?_) (fun e0=>?_)
  ·have hj1:j-1<l.length:=by omega
   rw[show ((j:Int)-1)=((j-1:Nat):Int) by omega,wrap64 (by omega),Int.toNat_natCast,Int.toNat_natCast,getD_at hjl,getD_at hj1]
   have hp:=List.pairwise_iff_getElem.1 hs
   refine⟨⟨by omega,by omega⟩,⟨by omega,by omega⟩,cond_dec (fun e1=>?_) (fun e1=>next ?_)⟩
   ·rw[decide_eq_true] at h
    ·exact h
    ·intro g
     exact List.pairwise_iff_getElem.1 g (j-1) j hj1 hjl (by omega) e1.symm
   ·intro x hx hxe
    obtain⟨i,hi,rfl⟩:=List.mem_take_iff_getElem.1 hx
    have hi':i<j:=by omega
    by_cases h2:i=j-1
    ·subst h2;exact e1 hxe.symm
    ·have a1:=hp i (j-1) (by omega) hj1 (by omega)
     have a2:=hp (j-1) j hj1 hjl (by omega)
     rw[<-hxe] at a2
     exact e1 (by rw[<-hxe];exact cmpL_eq (by rw[(hd _ (List.getElem_mem _)).1.1,(hd _ (List.getElem_mem _)).1.1]) a2 a1)
  ·refine next fun x hx=>?_
   obtain rfl:j=0:=by omega
   simp at hx
theorem twice_s(k:Nat){l:List S_api_Leaf}{K:Bool->Prop}(hd:LDig l)(hn:l.length<=4096)(hk:5000<=k)(h:K (decide (¬Dst l))):F_smt_twice k l K:=by
 obtain⟨k,rfl⟩:∃ m,k=m+2:=⟨k-2,by omega⟩
 rw[F_smt_twice]
 simp only[Hold_eq]
 have sorted:F_slices_SortFunc_api_Leaf_api_Leaf (k+1) l (fun r3=>C_smt_twice_4 (k+1) (r3.length:Int) 0 r3 K):=by
  rw[F_slices_SortFunc_api_Leaf_api_Leaf]
  refine⟨⟨by omega,by omega⟩,fun l9 h9=>?_⟩
  refine twice_loop (l:=l9) (fun x hx=>hd x (h9.1.mem_iff.1 hx)) h9.2 (by rw[h9.1.length_eq];exact hn) l9.length 0 (k+1) (by omega) (by rw[h9.1.length_eq];omega) (by simp[Dst]) ?_
  rw[show decide (¬Dst l9)=decide (¬Dst l) from decide_eq_decide.2 (not_congr (Dst.perm h9.1))]
  exact h
 rw[F_slices_Clone_api_Leaf_api_Leaf]
 intro b hb
 refine cond_b (fun e=>?_) (fun e=>?_)
 ·have:=hb e
  subst this
  exact sorted
 ·refine⟨by unfold room;simp;omega,?_⟩
  rw[List.nil_append]
  exact sorted
end Go.V
