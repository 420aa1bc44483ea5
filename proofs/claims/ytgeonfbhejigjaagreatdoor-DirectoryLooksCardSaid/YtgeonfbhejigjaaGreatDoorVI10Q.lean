import Derived.Test.YtgeonfbhejigjaaGreatDoorVI10O
set_option linter.unusedVariables false
set_option linter.unusedSimpArgs false
set_option maxRecDepth 4000
namespace Go.V
theorem mid_eq{i j:Nat}(h:i+j<4611686018427387904):IntKind.i64.wrap (ishr .u64 (IntKind.u64.wrap (IntKind.i64.wrap ((i:Int)+(j:Int)))) (1:Int))=(((i+j) / 2:Nat):Int):=by
 rw[wrap64 (n:=(i:Int)+(j:Int)) (by omega)]
 have e1:IntKind.u64.wrap ((i:Int)+(j:Int))=((i+j:Nat):Int):=by
  have:IntKind.u64.wrap ((i:Int)+(j:Int))=((i:Int)+(j:Int)) % 18446744073709551616:=by simp[IntKind.wrap,IntKind.bits,IntKind.signed]
  rw[this];omega
 rw[e1]
 have e2:ishr .u64 ((i+j:Nat):Int) 1=(((i+j) / 2:Nat):Int):=by
  show Int.fdiv ((i+j:Nat):Int) (2 ^ (min (1:Int).toNat 64))=_
  rw[show (2:Int) ^ (min (1:Int).toNat 64)=((2:Nat):Int) from rfl,<-Int.ofNat_fdiv]
 rw[e2,wrap64 (by omega)]
theorem takeWhile_at{α:Type}{p:α->Bool}{l:List α}{d:α}{i:Nat}(hi:i<=l.length)(h1:∀ a,a<i->p (l.getD a d)=true)(h2:i<l.length->p (l.getD i d)=false):(l.takeWhile p).length=i:=by
 have e:l.takeWhile p=l.take i:=by
  conv=>lhs;rw[<-List.take_append_drop i l]
  rw[List.takeWhile_append_of_pos fun v hv=>?_]
  ·by_cases h:i<l.length
   ·rw[drop_cons h,List.takeWhile_cons_of_neg,List.append_nil]
    have:=h2 h
    rw[getD_at h] at this
    rw[this];decide
   ·rw[List.drop_of_length_le (by omega)];simp
  ·obtain⟨a,ha,rfl⟩:=List.mem_take_iff_getElem.1 hv
   have:=h1 a (by omega)
   rwa [getD_at (by omega)] at this
 rw[e,List.length_take];omega
theorem getD_set_same{α:Type}{l:List α}{i:Nat}{a d:α}(h:i<l.length):(l.set i a).getD i d=a:=by
 rw[getD_at (by rw[List.length_set];exact h),List.getElem_set_self]
theorem insAt_len{α:Type}{i:Nat}{l:List α}{x:α}(h:i<=l.length):(insAt (i:Int) l [x]).length=l.length+1:=by
 unfold insAt
 rw[Int.toNat_natCast,List.length_append,List.length_append,List.length_take,List.length_drop,List.length_singleton];omega
theorem insAt_get{α:Type}{i:Nat}{l:List α}{x d:α}(h:i<=l.length):(insAt (i:Int) l [x]).getD i d=x:=by
 unfold insAt
 rw[Int.toNat_natCast,List.getD_eq_getElem?_getD,List.getElem?_append_right (by rw[List.length_take];omega),List.length_take,Nat.min_eq_left h,Nat.sub_self]
 rfl
theorem less_irrefl:∀ x:List UInt8,Op.bytesLess x x=false
 | []=>rfl
 | a::x=>by
  unfold Op.bytesLess
  rw[less_irrefl x]
  have:¬a<a:=by rw[UInt8.lt_iff_toNat_lt];omega
  simp[this]
theorem less_trans:∀ {x y z:List UInt8},Op.bytesLess x y=true->Op.bytesLess y z=true->Op.bytesLess x z=true
 | [],[],_,h,_=>by cases h
 | _::_,[],_,h,_=>by cases h
 | _,_::_,[],_,h=>by cases h
 | [],_::_,_::_,_,_=>rfl
 | a::x,b::y,c::z,h1,h2=>by
  unfold Op.bytesLess at *
  simp only[Bool.or_eq_true,decide_eq_true_eq,Bool.and_eq_true,beq_iff_eq] at *
  rcases h1 with h1|⟨rfl,h1⟩
  ·rcases h2 with h2|⟨rfl,h2⟩
   ·exact .inl (by rw[UInt8.lt_iff_toNat_lt] at *;omega)
   ·exact .inl h1
  ·rcases h2 with h2|⟨rfl,h2⟩
   ·exact .inl h2
   ·exact .inr ⟨rfl,less_trans h1 h2⟩
theorem slt_irrefl(a:ByteArray):slt a a=false:=less_irrefl _
theorem slt_trans{a b c:ByteArray}(h1:slt a b=true)(h2:slt b c=true):slt a c=true:=less_trans h1 h2
theorem slt_ne{a b:ByteArray}(h1:slt a b=false)(h2:slt b a=false):a=b:=by
 have:=slt_tri a b
 rw[h1,h2,Bool.false_or] at this
 unfold seq at this
 exact of_decide_eq_true (by simpa using this)
theorem slt_asymm{a b:ByteArray}(h:slt a b=true):slt b a=false:=by
 cases hb:slt b a with
 | false=>rfl
 | true=>have:=slt_trans h hb;rw[slt_irrefl] at this;cases this
def cmpI(x y:Int):Int:=if x<y then -1 else if y<x then 1 else 0
theorem cmp_int_s(k:Nat){x y:Int}{K:Int->Prop}(hk:2<=k)(h:K (cmpI x y)):F_cmp_Compare_int k x y K:=by
 obtain⟨k,rfl⟩:∃ m,k=m+2:=⟨k-2,by omega⟩
 rw[F_cmp_Compare_int]
 simp only[Hold_eq]
 simp only[F_cmp_isNaN_int,decide_true,Bool.not_true,cond_false]
 unfold cmpI at h
 refine cond_dec (fun h1=>?_) (fun h1=>cond_dec (fun h2=>?_) (fun h2=>?_))
 ·rw[if_pos h1] at h;exact h
 ·rw[if_neg h1,if_pos h2] at h;exact h
 ·rw[if_neg h1,if_neg h2] at h;exact h
theorem cmpI_neg{x y:Int}:cmpI x y<0↔x<y:=by unfold cmpI;split<;>(try split)<;>omega
theorem cmpI_zero{x y:Int}:cmpI x y=0↔x=y:=by unfold cmpI;split<;>(try split)<;>omega
theorem session1_s(k:Nat){a b c d t:Int}{K:Int->Prop}(hk:3<=k)(h:K (cmpI a t)):F_directory_work_session_1 k a b c d t K:=by
 obtain⟨k,rfl⟩:∃ m,k=m+1:=⟨k-1,by omega⟩
 rw[F_directory_work_session_1]
 simp only[Hold_eq]
 exact cmp_int_s k (by omega) h
theorem cmpS_neg{x y:ByteArray}:cmpS x y<0↔slt x y=true:=by
 unfold cmpS
 cases slt x y with
 | true=>simp
 | false=>cases slt y x<;>simp
theorem cmpS_zero{x y:ByteArray}:cmpS x y=0↔x=y:=by
 unfold cmpS
 cases h1:slt x y with
 | true=>
  simp only[cond_true]
  refine⟨fun h=>(by cases h),fun h=>?_⟩
  subst h;rw[slt_irrefl] at h1;cases h1
 | false=>
  cases h2:slt y x with
  | true=>
   simp only[cond_true,cond_false]
   refine⟨fun h=>(by cases h),fun h=>?_⟩
   subst h;rw[slt_irrefl] at h2;cases h2
  | false=>simp only[cond_false];exact⟨fun _=>slt_ne h1 h2,fun _=>by trivial⟩
theorem user1_s(k:Nat){a t:ByteArray}{b:List S_api_Version}{K:Int->Prop}(hk:4<=k)(h:K (cmpS a t)):F_directory_work_user_1 k a b t K:=by
 obtain⟨k,rfl⟩:∃ m,k=m+3:=⟨k-3,by omega⟩
 rw[F_directory_work_user_1]
 simp only[Hold_eq]
 rw[F_strings_Compare]
 simp only[Hold_eq]
 rw[F_internal_bytealg_CompareString]
 exact h
theorem bs_loopS{l:List S_api_Session}{t:Int}(hn:l.length<=100000)(hm:∀ a b,a<=b->b<l.length->(l.getD b S0).f0<t->(l.getD a S0).f0<t){K:Int->Bool->Prop}
  (h:K (((l.takeWhile fun x=>decide (x.f0<t)).length:Nat):Int) (decide ((l.takeWhile fun x=>decide (x.f0<t)).length<l.length/\(l.getD (l.takeWhile fun x=>decide (x.f0<t)).length S0).f0=t))) :
  ∀ (m i j k:Nat),i<=j->j<=l.length->j<=i+m->m+10<=k->(∀ a,a<i->(l.getD a S0).f0<t)->(∀ a,j<=a->a<l.length->¬(l.getD a S0).f0<t)->C_slices_BinarySearchFunc_api_Session_api_Session_int_3 k l t (l.length:Int) (i:Int) (j:Int) K:=by
 intro m
 have fin:∀ (i k:Nat),i<=l.length->10<=k->(∀ a,a<i->(l.getD a S0).f0<t)->(∀ a,i<=a->a<l.length->¬(l.getD a S0).f0<t)->C_slices_BinarySearchFunc_api_Session_api_Session_int_3 k l t (l.length:Int) (i:Int) (i:Int) K:=by
  intro i k hi hk h1 h2
  obtain⟨k,rfl⟩:∃ m,k=m+1:=⟨k-1,by omega⟩
  have hp:(l.takeWhile fun x=>decide (x.f0<t)).length=i:=takeWhile_at (d:=S0) hi (fun a ha=>decide_eq_true (h1 a ha)) (fun hl=>decide_eq_false (h2 i (Nat.le_refl _) hl))
  rw[hp] at h
  rw[C_slices_BinarySearchFunc_api_Session_api_Session_int_3]
  simp only[Hold_eq]
  refine cond_dec (fun e=>by omega) (fun _=>cond_dec (fun e=>⟨⟨by omega,by omega⟩,?_⟩) (fun e=>?_))
  ·rw[Int.toNat_natCast]
   refine session1_s k (by omega) ?_
   rw[decide_eq_decide.2 (show cmpI (l.getD i S0).f0 t=0↔(i<l.length/\(l.getD i S0).f0=t) from by rw[cmpI_zero];exact⟨fun g=>⟨by omega,g⟩,fun g=>g.2⟩)]
   exact h
  ·rw[decide_eq_false (fun g=>e (by have:=g.1;omega))] at h
   exact h
 induction m with
 | zero=>
  intro i j k hij hj hm hk h1 h2
  obtain rfl:i=j:=by omega
  exact fin i k hj (by omega) h1 h2
 | succ m ih=>
  intro i j k hij hj hm2 hk h1 h2
  by_cases hlt:i<j
  ·obtain⟨k,rfl⟩:∃ m,k=m+1:=⟨k-1,by omega⟩
   rw[C_slices_BinarySearchFunc_api_Session_api_Session_int_3]
   simp only[Hold_eq]
   rw[mid_eq (by omega),Int.toNat_natCast]
   refine cond_dec (fun _=>⟨by decide,⟨by omega,by omega⟩,?_⟩) (fun e=>by omega)
   refine session1_s k (by omega) ?_
   have hml:(i+j) / 2<l.length:=by omega
   refine cond_dec (fun g=>?_) (fun g=>?_)
   ·rw[step64 _ (by omega)]
    refine ih ((i+j) / 2+1) j k (by omega) hj (by omega) (by omega) (fun a ha=>?_) h2
    exact hm a ((i+j) / 2) (by omega) hml (cmpI_neg.1 g)
   ·refine ih i ((i+j) / 2) k (by omega) (by omega) (by omega) (by omega) h1 (fun a ha hal g2=>?_)
    have:=hm ((i+j) / 2) a ha hal g2
    exact g (cmpI_neg.2 this)
  ·obtain rfl:i=j:=by omega
   exact fin i k hj (by omega) h1 h2
theorem bs_S(k:Nat){l:List S_api_Session}{t:Int}(hn:l.length<=100000)(hm:∀ a b,a<=b->b<l.length->(l.getD b S0).f0<t->(l.getD a S0).f0<t){K:Int->Bool->Prop}(hk:100100<=k)
  (h:K (((l.takeWhile fun x=>decide (x.f0<t)).length:Nat):Int) (decide ((l.takeWhile fun x=>decide (x.f0<t)).length<l.length/\(l.getD (l.takeWhile fun x=>decide (x.f0<t)).length S0).f0=t))):F_slices_BinarySearchFunc_api_Session_api_Session_int k l t K:=by
 obtain⟨k,rfl⟩:∃ m,k=m+1:=⟨k-1,by omega⟩
 rw[F_slices_BinarySearchFunc_api_Session_api_Session_int]
 simp only[Hold_eq]
 exact bs_loopS hn hm h l.length 0 l.length k (by omega) (Nat.le_refl _) (by omega) (by omega) (fun a ha=>by omega) (fun a ha hl=>by omega)
theorem bs_loopU{l:List S_api_User}{t:ByteArray}(hn:l.length<=100000)(hm:∀ a b,a<=b->b<l.length->slt (l.getD b U0).f0 t=true->slt (l.getD a U0).f0 t=true){K:Int->Bool->Prop}
  (h:K (((l.takeWhile fun x=>slt x.f0 t).length:Nat):Int) (decide ((l.takeWhile fun x=>slt x.f0 t).length<l.length/\(l.getD (l.takeWhile fun x=>slt x.f0 t).length U0).f0=t))) :
  ∀ (m i j k:Nat),i<=j->j<=l.length->j<=i+m->m+10<=k->(∀ a,a<i->slt (l.getD a U0).f0 t=true)->(∀ a,j<=a->a<l.length->¬slt (l.getD a U0).f0 t=true)->C_slices_BinarySearchFunc_api_User_api_User_string_3 k l t (l.length:Int) (i:Int) (j:Int) K:=by
 intro m
 have fin:∀ (i k:Nat),i<=l.length->10<=k->(∀ a,a<i->slt (l.getD a U0).f0 t=true)->(∀ a,i<=a->a<l.length->¬slt (l.getD a U0).f0 t=true)->C_slices_BinarySearchFunc_api_User_api_User_string_3 k l t (l.length:Int) (i:Int) (i:Int) K:=by
  intro i k hi hk h1 h2
  obtain⟨k,rfl⟩:∃ m,k=m+1:=⟨k-1,by omega⟩
  have hp:(l.takeWhile fun x=>slt x.f0 t).length=i:=takeWhile_at (d:=U0) hi (fun a ha=>h1 a ha) (fun hl=>Bool.eq_false_iff.2 (h2 i (Nat.le_refl _) hl))
  rw[hp] at h
  rw[C_slices_BinarySearchFunc_api_User_api_User_string_3]
  simp only[Hold_eq]
  refine cond_dec (fun e=>by omega) (fun _=>cond_dec (fun e=>⟨⟨by omega,by omega⟩,?_⟩) (fun e=>?_))
  ·rw[Int.toNat_natCast]
   refine user1_s k (by omega) ?_
   rw[decide_eq_decide.2 (show cmpS (l.getD i U0).f0 t=0↔(i<l.length/\(l.getD i U0).f0=t) from by rw[cmpS_zero];exact⟨fun g=>⟨by omega,g⟩,fun g=>g.2⟩)]
   exact h
  ·rw[decide_eq_false (fun g=>e (by have:=g.1;omega))] at h
   exact h
 induction m with
 | zero=>
  intro i j k hij hj hm hk h1 h2
  obtain rfl:i=j:=by omega
  exact fin i k hj (by omega) h1 h2
 | succ m ih=>
  intro i j k hij hj hm2 hk h1 h2
  by_cases hlt:i<j
  ·obtain⟨k,rfl⟩:∃ m,k=m+1:=⟨k-1,by omega⟩
   rw[C_slices_BinarySearchFunc_api_User_api_User_string_3]
   simp only[Hold_eq]
   rw[mid_eq (by omega),Int.toNat_natCast]
   refine cond_dec (fun _=>⟨by decide,⟨by omega,by omega⟩,?_⟩) (fun e=>by omega)
   refine user1_s k (by omega) ?_
   have hml:(i+j) / 2<l.length:=by omega
   refine cond_dec (fun g=>?_) (fun g=>?_)
   ·rw[step64 _ (by omega)]
    refine ih ((i+j) / 2+1) j k (by omega) hj (by omega) (by omega) (fun a ha=>?_) h2
    exact hm a ((i+j) / 2) (by omega) hml (cmpS_neg.1 g)
   ·refine ih i ((i+j) / 2) k (by omega) (by omega) (by omega) (by omega) h1 (fun a ha hal g2=>?_)
    have:=hm ((i+j) / 2) a ha hal g2
    exact g (cmpS_neg.2 this)
  ·obtain rfl:i=j:=by omega
   exact fin i k hj (by omega) h1 h2
theorem bs_U(k:Nat){l:List S_api_User}{t:ByteArray}(hn:l.length<=100000)(hm:∀ a b,a<=b->b<l.length->slt (l.getD b U0).f0 t=true->slt (l.getD a U0).f0 t=true){K:Int->Bool->Prop}(hk:100100<=k)
  (h:K (((l.takeWhile fun x=>slt x.f0 t).length:Nat):Int) (decide ((l.takeWhile fun x=>slt x.f0 t).length<l.length/\(l.getD (l.takeWhile fun x=>slt x.f0 t).length U0).f0=t))):F_slices_BinarySearchFunc_api_User_api_User_string k l t K:=by
 obtain⟨k,rfl⟩:∃ m,k=m+1:=⟨k-1,by omega⟩
 rw[F_slices_BinarySearchFunc_api_User_api_User_string]
 simp only[Hold_eq]
 exact bs_loopU hn hm h l.length 0 l.length k (by omega) (Nat.le_refl _) (by omega) (by omega) (fun a ha=>by omega) (fun a ha hl=>by omega)
end Go.V
