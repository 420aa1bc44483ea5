import Derived.Test.YtgeonfbhejigjaaGreatDoorVI10M
set_option linter.unusedVariables false
set_option linter.unusedSimpArgs false
set_option maxRecDepth 4000
namespace Go.V
theorem ins_mem{b:List S_api_Leaf}{x:S_api_Leaf}{p:List Int}:(∃ y∈insL b x,y.f0=p)↔(∃ y∈b,y.f0=p)\/x.f0=p:=by
 unfold insL remL
 constructor
 ·rintro⟨y,hy,e⟩
  rcases List.mem_append.1 hy with hy|hy
  ·exact .inl ⟨y,(List.mem_filter.1 hy).1,e⟩
  ·obtain rfl:=List.mem_singleton.1 hy;exact .inr e
 ·intro h
  by_cases e:x.f0=p
  ·exact⟨x,by simp,e⟩
  ·rcases h with ⟨y,hy,h⟩|h
   ·refine⟨y,List.mem_append.2 (.inl (List.mem_filter.2 ⟨hy,?_⟩)),h⟩
    simp[h];exact fun g=>e g.symm
   ·exact absurd h e
theorem set_mem:∀ {l b:List S_api_Leaf} {p:List Int},(∃ y∈setL b l,y.f0=p)↔(∃ y∈b,y.f0=p)\/∃ y∈l,y.f0=p:=by
 intro l
 induction l with
 | nil=>intro b p;simp[setL]
 | cons x l ih=>
  intro b p
  show (∃ y∈setL (insL b x) l,y.f0=p)↔_
  rw[ih,ins_mem]
  simp only[List.mem_cons,exists_eq_or_imp,or_assoc]
theorem setL_snoc(b l:List S_api_Leaf)(x:S_api_Leaf):setL b (l++[x])=insL (setL b l) x:=by
 unfold setL
 rw[List.foldl_append]
 rfl
theorem set_step{b l:List S_api_Leaf}(hb:Dst b)(hl:Dst l){j:Nat}(hj:j<l.length) :
  setL b (l.take (j+1))=insL (setL b (l.take j)) l[j]/\(setL b (l.take (j+1))).length=(setL b (l.take j)).length+(if (getL b l[j].f0).isSome then 0 else 1):=by
 have e:setL b (l.take (j+1))=insL (setL b (l.take j)) l[j]:=by rw[List.take_succ_eq_append_getElem hj,setL_snoc]
 refine⟨e,?_⟩
 rw[e,ins_len hb.set]
 have:(getL (setL b (l.take j)) l[j].f0).isSome=(getL b l[j].f0).isSome:=by
  rw[Bool.eq_iff_iff,getL_some,getL_some,set_mem]
  refine or_iff_left ?_
  rintro⟨y,hy,e⟩
  obtain⟨i,hi,rfl⟩:=List.mem_take_iff_getElem.1 hy
  exact List.pairwise_iff_getElem.1 hl i j (by omega) hj (by omega) e
 rw[this]
theorem setE_end{b l:List S_api_Leaf}(hl:Dst l)(hn:l.length<=4096):setE b l=if 4096<(setL b l).length then 2 else 0:=by
 unfold setE
 rw[if_neg (by omega),if_neg (not_not_intro hl)]
theorem set_loopA{w:Int}{b l:List S_api_Leaf}(hb:LDig b)(db:Dst b)(hl:LDig l)(dl:Dst l)(bn:b.length<=4096)(ln:l.length<=4096){K:Int->Int->Int->KT S_api_Leaf->Prop}
  (h:K (setE b l) w (setN b l).length (bld w 256 0 (setN b l))):∀ (m j k:Nat),j+m=l.length->m+2000<=k →
  C_smt_Tree_Set_9 k (bld w 256 0 (setL b (l.take j))) ((setL b (l.take j)).length:Int) l (l.length:Int) (j:Int) w b.length (bld w 256 0 b) K:=by
 intro m
 induction m with
 | zero=>
  intro j k hj hk
  obtain⟨k,rfl⟩:∃ m,k=m+1:=⟨k-1,by omega⟩
  rw[C_smt_Tree_Set_9]
  simp only[Hold_eq]
  refine cond_dec (fun e=>by omega) (fun e=>?_)
  rw[List.take_of_length_le (by omega)]
  unfold setN at h
  rw[setE_end dl ln] at h
  refine cond_dec (fun e=>?_) (fun e=>?_)
  ·rw[if_pos (by omega)] at h;exact h
  ·rw[if_neg (by omega)] at h;exact h
 | succ m ih=>
  intro j k hj hk
  obtain⟨k,rfl⟩:∃ m,k=m+1:=⟨k-1,by omega⟩
  have hjl:j<l.length:=by omega
  rw[C_smt_Tree_Set_9]
  simp only[Hold_eq]
  refine cond_dec (fun e=>?_) (fun e=>by omega)
  rw[Int.toNat_natCast]
  rw[getD_at hjl]
  have hx:=hl _ (List.getElem_mem hjl)
  obtain⟨s1,s2⟩:=set_step db dl hjl
  have hlen:=set_len (l:=l.take j) db
  rw[List.length_take] at hlen
  rw[step64 j (by omega)]
  refine⟨⟨by omega,by omega⟩,Get_s k hb db hx.1 (by omega) ?_⟩
  have next:=ih (j+1) k (by omega) (by omega)
  rw[s1] at next
  refine cond_nb (fun g=>?_) (fun g=>?_)
  ·rw[g] at s2
   rw[step64 _ (by omega)]
   refine with_s w 256 0 k (by omega) (.of (hb.set fun y hy=>hl y (List.mem_of_mem_take hy)) db.set _) hx (by omega) ?_
   rw[<-s1,s2,s1] at next
   exact next
  ·rw[g] at s2
   refine with_s w 256 0 k (by omega) (.of (hb.set fun y hy=>hl y (List.mem_of_mem_take hy)) db.set _) hx (by omega) ?_
   rw[<-s1,s2,s1] at next
   exact next
theorem Set_sA(k:Nat){w:Int}{b l:List S_api_Leaf}{K:Int->Int->Int->KT S_api_Leaf->Prop}(hb:LDig b)(db:Dst b)(hl:LDig l)(bn:b.length<=4096)(hk:7000<=k)
  (h:K (setE b l) w (setN b l).length (bld w 256 0 (setN b l))):F_smt_Tree_Set_s1 k l w b.length (bld w 256 0 b) K:=by
 obtain⟨k,rfl⟩:∃ m,k=m+1:=⟨k-1,by omega⟩
 rw[F_smt_Tree_Set_s1]
 simp only[Hold_eq]
 skip
 by_cases h1:4096<l.length
 ·rw[decide_eq_true (by omega),cond_true]
  unfold setN at h
  rw[show setE b l=2 by unfold setE;rw[if_pos h1]] at h
  exact h
 ·rw[decide_eq_false (by omega),cond_false]
  refine twice_s k hl (by omega) (by omega) ?_
  by_cases h2:Dst l
  ·rw[decide_eq_false (not_not_intro h2),cond_false]
   exact set_loopA hb db hl h2 bn (by omega) h _ 0 k (Nat.zero_add _) (by omega)
  ·rw[decide_eq_true h2,cond_true]
   unfold setN at h
   rw[show setE b l=30 by unfold setE;rw[if_neg h1,if_pos h2]] at h
   exact h
theorem New_s(k:Nat){w:Int}{K0:Int->Prop}{K1:Int->Int->Int->KT S_api_Leaf->Prop}(hk:2<=k)(h0:¬(0<=w/\w<=32)->K0 1)(h1:0<=w/\w<=32->K1 0 w 0 .nil):F_smt_New k w K0 K1:=by
 obtain⟨k,rfl⟩:∃ m,k=m+1:=⟨k-1,by omega⟩
 rw[F_smt_New]
 simp only[Hold_eq]
 refine width_s k (by omega) ?_
 exact cond_ndec (fun e=>h0 e) (fun e=>h1 e)
theorem Dst.nil:Dst []:=List.Pairwise.nil
theorem LDig.nil:LDig []:=fun _ h=>(List.not_mem_nil h).elim
theorem setN_nil{l:List S_api_Leaf}(h:setE [] l=0):setN [] l=l:=by
 unfold setN
 rw[if_pos h]
 rw[setE_nil] at h
 by_cases h1:4096<l.length
 ·rw[if_pos h1] at h;cases h
 ·rw[if_neg h1] at h
  by_cases h2:Dst l
  ·exact setL_new l [] h2
  ·rw[if_pos h2] at h;cases h
theorem Root_s(k:Nat){w:Int}{l:List S_api_Leaf}{K:List Int->Int->Prop}(hl:LDig l)(hk:10010<=k)(h:K (rootR w l) (rootE w l)):F_smt_Root k w l K:=by
 obtain⟨k,rfl⟩:∃ m,k=m+5:=⟨k-5,by omega⟩
 rw[F_smt_Root]
 simp only[Hold_eq]
 refine New_s (k+4) (by omega) (fun e=>?_) (fun e=>?_)
 ·rw[C_smt_Root_2]
  simp only[Hold_eq]
  rw[show (decide ((1:Int)=0))=false by decide,Bool.not_false,cond_true,C_smt_Root_3]
  have:rootE w l=1:=by unfold rootE;rw[if_pos e]
  unfold rootR at h
  rw[this,if_neg (by decide)] at h
  exact h
 ·have he:rootE w l=setE [] l:=by rw[setE_nil];unfold rootE;rw[if_neg (not_not_intro e)]
  rw[C_smt_Root_2_1]
  simp only[Hold_eq]
  simp only[decide_true,Bool.not_true,cond_false]
  rw[C_smt_Root_4_1]
  simp only[Hold_eq]
  refine Set_sA (k+2) (b:=[]) LDig.nil Dst.nil hl (by simp) (by omega) ?_
  rw[C_smt_Root_5_1]
  simp only[Hold_eq]
  unfold rootR at h
  rw[he] at h
  refine cond_ndec (fun g=>?_) (fun g=>?_)
  ·rw[C_smt_Root_6]
   rw[if_neg g] at h
   exact h
  ·rw[if_pos g] at h
   rw[setN_nil g]
   refine Root1_s (k+1) e hl (by omega) ?_
   rw[g] at h
   exact h
theorem Leaf_i(k:Nat){w:Int}{p v:List Int}{K:List Int->Prop}(hw:0<=w/\w<=32)(hp:Dig p)(hv:Dig v)(hk:6010<=k)(h:K (rootL w [⟨p,v⟩])):F_smt_Leaf k w p v K:=by
 obtain⟨W,rfl⟩:=Int.eq_ofNat_of_zero_le hw.1
 exact Leaf_s k (by omega) hp hv hk (by simpa[rootL,bld_one,digT,KT.isNil] using h)
theorem Node_i(k:Nat){w:Int}{p v:List Int}{K:List Int->Prop}(hw:0<=w/\w<=32)(hp:Dig p)(hv:Dig v)(hk:6010<=k)(h:K (shortL w.toNat (1::(p++v)))):F_smt_Node k w p v K:=by
 obtain⟨W,rfl⟩:=Int.eq_ofNat_of_zero_le hw.1
 exact Node_s k (by omega) hp hv hk (by simpa using h)
theorem dig_two{w:Int}{m n:Nat}{q:List Int}{l:List S_api_Leaf}(hn:m+1+n=256)(hl:OkL n q l)(h2:2<=l.length) :
  digT w (bld w (m+1) n l)=shortL w.toNat (1::(digT w (bld w m (n+1) (halfL l n 0))++digT w (bld w m (n+1) (halfL l n 1)))):=by
 have hi:=bld_inner w (m+1) n hn hl
 rw[decide_eq_true h2,bld_two w m n h2] at hi
 rw[bld_two w m n h2]
 change (!(bld w m (n+1) (halfL l n 0)).isNil||!(bld w m (n+1) (halfL l n 1)).isNil)=true at hi
 rw[<-Bool.not_and,Bool.not_eq_true'] at hi
 rw[digT,hi,cond_false]
end Go.V
