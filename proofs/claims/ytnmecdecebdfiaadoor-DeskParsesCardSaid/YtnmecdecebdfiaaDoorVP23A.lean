import Derived.Test.YtnmecdecebdfiaaDoorVP23S
set_option linter.unusedVariables false
set_option linter.unusedSimpArgs false
set_option maxRecDepth 8000
namespace Go.V
theorem c_yes{b:Bool}{A B:Prop}(h:b=true)(g:A):cond b A B:=by rw[h];exact g
theorem c_no{b:Bool}{A B:Prop}(h:b=false)(g:B):cond b A B:=by rw[h];exact g
abbrev zC:S_api_Command:=S_api_Command.mk 0 0 0 ByteArray.empty ByteArray.empty 0 (List.replicate 32 0)
abbrev zH:S_api_Change:=S_api_Change.mk 0 0
abbrev zA:S_api_Act:=S_api_Act.mk 0 0 0 0 zC 0 ByteArray.empty zH
abbrev KA1:=Int->Int->Int->Int->Int->Int->Int->ByteArray->ByteArray->Int->List Int->Int->ByteArray->Int->Int->Nat->Nat->Bool->List ByteArray->Prop
abbrev KA2:=Int->Int->Int->Int->Int->Int->Int->ByteArray->ByteArray->Int->List Int->Int->ByteArray->Int->Int->Bool->List ByteArray->List ByteArray->Prop
def AFin(K1:KA1)(K2:KA2)(l:List ByteArray)(r:S_api_Act×Bool×List ByteArray):Prop:=
 (∀ j m,j+m=l.length->l.drop j=r.2.2->K1 r.1.f0 r.1.f1 r.1.f2 r.1.f3 r.1.f4.f0 r.1.f4.f1 r.1.f4.f2 r.1.f4.f3 r.1.f4.f4 r.1.f4.f5 r.1.f4.f6 r.1.f5 r.1.f6 r.1.f7.f0 r.1.f7.f1 j m r.2.1 l)/\(r.2.2=[]->K2 r.1.f0 r.1.f1 r.1.f2 r.1.f3 r.1.f4.f0 r.1.f4.f1 r.1.f4.f2 r.1.f4.f3 r.1.f4.f4 r.1.f4.f5 r.1.f4.f6 r.1.f5 r.1.f6 r.1.f7.f0 r.1.f7.f1 r.2.1 l [])
theorem cut_drop{α:Type}{l:List α}{j m:Nat}(h:j+m=l.length):cut l j m=l.drop j:=by
 unfold cut
 exact List.take_of_length_le (by rw[List.length_drop];omega)
theorem equal_loop{a b:List ByteArray}(hl:a.length=b.length)(hn:a.length<=100000){K:Bool->Prop}:∀ (m j k:Nat),j+m=a.length->m+1<=k->K (decide (a.drop j=b.drop j))->C_slices_Equal_string_string_4 k a b (a.length:Int) (j:Int) K:=by
 intro m
 induction m with
 | zero=>
  intro j k hj hk h
  obtain⟨k,rfl⟩:∃ m,k=m+1:=⟨k-1,by omega⟩
  rw[C_slices_Equal_string_string_4]
  rw[List.drop_of_length_le (by omega),List.drop_of_length_le (by omega),decide_eq_true rfl] at h
  exact cond_dec (fun e=>by omega) (fun _=>h)
 | succ m ih=>
  intro j k hj hk h
  obtain⟨k,rfl⟩:∃ m,k=m+1:=⟨k-1,by omega⟩
  have h1:j<a.length:=by omega
  have h2:j<b.length:=by omega
  rw[C_slices_Equal_string_string_4]
  simp only[Hold_eq]
  rw[Int.toNat_natCast,getD_at h1,getD_at h2,step64 j (by omega)]
  rw[drop_cons h1,drop_cons h2] at h
  refine cond_dec (fun _=>⟨by omega,by omega,cond_nb (fun g=>?_) (fun g=>ih (j+1) k (by omega) (by omega) ?_)⟩) (fun e=>by omega)
  ·rw[decide_eq_false (fun e=>by rw[List.cons.injEq] at e;rw[seq_iff.2 e.1] at g;cases g)] at h
   exact h
  ·have e1:=seq_iff.1 g
   have:decide (a[j]::a.drop (j+1)=b[j]::b.drop (j+1))=decide (a.drop (j+1)=b.drop (j+1)):=decide_eq_decide.2 ⟨fun e=>(List.cons.inj e).2,fun e=>by rw[e1,e]⟩
   rw[this] at h
   exact h
theorem equal_s(k:Nat){a b:List ByteArray}(hn:a.length<=100000)(hk:a.length+10<=k){K:Bool->Prop}(h:K (decide (a=b))):F_slices_Equal_string_string k a b K:=by
 obtain⟨k,rfl⟩:∃ m,k=m+1:=⟨k-1,by omega⟩
 rw[F_slices_Equal_string_string]
 simp only[Hold_eq]
 refine cond_ndec (fun g=>?_) (fun g=>equal_loop (by omega) hn a.length 0 k (by omega) (by omega) (by simpa using h))
 rw[decide_eq_false (fun e=>g (by rw[e]))] at h
 exact h
section
variable {l:List ByteArray} {i n:Nat} {no:Bool} {K1:KA1} {K2:KA2}
def res_tick(no:Bool)(l:List ByteArray)(i:Nat):S_api_Act×Bool×List ByteArray:=(S_api_Act.mk 1 (numP no (l.drop i)).1 0 0 zC 0 ByteArray.empty zH,(numP no (l.drop i)).2)
theorem act_tick(k:Nat)(hk:100200<=k)(hl:l.length<=100000)(hS:Sh l)(hin:i+n=l.length)(h:AFin K1 K2 l (res_tick no l i)):F_desk_line_act_s1 k str2 i n no l K1 K2:=by
 unfold res_tick at h
 obtain⟨k,rfl⟩:∃ m,k=m+1:=⟨k-1,by omega⟩
 rw[F_desk_line_act_s1]
 simp only[Hold_eq]
 refine c_yes (by decide +kernel) (c_yes (by decide +kernel) (?_))
 obtain⟨k,rfl⟩:∃ m,k=m+1:=⟨k-1,by omega⟩
 rw[C_desk_line_act_7_1]
 simp only[Hold_eq]
 refine number1_s k hl hS hin (by omega) fun j1 m1 hj1 hd1=>?_
 obtain⟨k,rfl⟩:∃ m,k=m+1:=⟨k-1,by omega⟩
 rw[C_desk_line_act_26_1]
 simp only[Hold_eq]
 obtain⟨k,rfl⟩:∃ m,k=m+1:=⟨k-1,by omega⟩
 rw[C_desk_line_act_27_1]
 simp only[Hold_eq]
 refine c_yes (by decide +kernel) (?_)
 obtain⟨k,rfl⟩:∃ m,k=m+1:=⟨k-1,by omega⟩
 rw[C_desk_line_act_68_1]
 exact h.1 _ _ hj1 hd1
def res_start(no:Bool)(l:List ByteArray)(i:Nat):S_api_Act×Bool×List ByteArray:=(S_api_Act.mk 13 (numP no (l.drop i)).1 0 0 zC 0 ByteArray.empty zH,(numP no (l.drop i)).2)
theorem act_start(k:Nat)(hk:100200<=k)(hl:l.length<=100000)(hS:Sh l)(hin:i+n=l.length)(h:AFin K1 K2 l (res_start no l i)):F_desk_line_act_s1 k str3 i n no l K1 K2:=by
 unfold res_start at h
 obtain⟨k,rfl⟩:∃ m,k=m+1:=⟨k-1,by omega⟩
 rw[F_desk_line_act_s1]
 simp only[Hold_eq]
 refine c_no (by decide +kernel) (c_yes (by decide +kernel) (c_yes (by decide +kernel) (?_)))
 obtain⟨k,rfl⟩:∃ m,k=m+1:=⟨k-1,by omega⟩
 rw[C_desk_line_act_7_1]
 simp only[Hold_eq]
 refine number1_s k hl hS hin (by omega) fun j1 m1 hj1 hd1=>?_
 obtain⟨k,rfl⟩:∃ m,k=m+1:=⟨k-1,by omega⟩
 rw[C_desk_line_act_26_1]
 simp only[Hold_eq]
 obtain⟨k,rfl⟩:∃ m,k=m+1:=⟨k-1,by omega⟩
 rw[C_desk_line_act_27_1]
 simp only[Hold_eq]
 refine c_no (by decide +kernel) (?_)
 obtain⟨k,rfl⟩:∃ m,k=m+1:=⟨k-1,by omega⟩
 rw[C_desk_line_act_29_1]
 simp only[Hold_eq]
 refine c_yes (by decide +kernel) (?_)
 obtain⟨k,rfl⟩:∃ m,k=m+1:=⟨k-1,by omega⟩
 rw[C_desk_line_act_68_1]
 exact h.1 _ _ hj1 hd1
def res_seal(no:Bool)(l:List ByteArray)(i:Nat):S_api_Act×Bool×List ByteArray:=(S_api_Act.mk 9 (numP no (l.drop i)).1 0 0 zC 0 ByteArray.empty zH,(numP no (l.drop i)).2)
theorem act_seal(k:Nat)(hk:100200<=k)(hl:l.length<=100000)(hS:Sh l)(hin:i+n=l.length)(h:AFin K1 K2 l (res_seal no l i)):F_desk_line_act_s1 k str4 i n no l K1 K2:=by
 unfold res_seal at h
 obtain⟨k,rfl⟩:∃ m,k=m+1:=⟨k-1,by omega⟩
 rw[F_desk_line_act_s1]
 simp only[Hold_eq]
 refine c_no (by decide +kernel) (c_no (by decide +kernel) (c_yes (by decide +kernel) (c_yes (by decide +kernel) (?_))))
 obtain⟨k,rfl⟩:∃ m,k=m+1:=⟨k-1,by omega⟩
 rw[C_desk_line_act_7_1]
 simp only[Hold_eq]
 refine number1_s k hl hS hin (by omega) fun j1 m1 hj1 hd1=>?_
 obtain⟨k,rfl⟩:∃ m,k=m+1:=⟨k-1,by omega⟩
 rw[C_desk_line_act_26_1]
 simp only[Hold_eq]
 obtain⟨k,rfl⟩:∃ m,k=m+1:=⟨k-1,by omega⟩
 rw[C_desk_line_act_27_1]
 simp only[Hold_eq]
 refine c_no (by decide +kernel) (?_)
 obtain⟨k,rfl⟩:∃ m,k=m+1:=⟨k-1,by omega⟩
 rw[C_desk_line_act_29_1]
 simp only[Hold_eq]
 refine c_no (by decide +kernel) (?_)
 obtain⟨k,rfl⟩:∃ m,k=m+1:=⟨k-1,by omega⟩
 rw[C_desk_line_act_31_1]
 simp only[Hold_eq]
 refine c_yes (by decide +kernel) (?_)
 obtain⟨k,rfl⟩:∃ m,k=m+1:=⟨k-1,by omega⟩
 rw[C_desk_line_act_68_1]
 exact h.1 _ _ hj1 hd1
def res_intent(no:Bool)(l:List ByteArray)(i:Nat):S_api_Act×Bool×List ByteArray:=(S_api_Act.mk 10 (numP no (l.drop i)).1 0 0 zC 0 ByteArray.empty zH,(numP no (l.drop i)).2)
theorem act_intent(k:Nat)(hk:100200<=k)(hl:l.length<=100000)(hS:Sh l)(hin:i+n=l.length)(h:AFin K1 K2 l (res_intent no l i)):F_desk_line_act_s1 k str5 i n no l K1 K2:=by
 unfold res_intent at h
 obtain⟨k,rfl⟩:∃ m,k=m+1:=⟨k-1,by omega⟩
 rw[F_desk_line_act_s1]
 simp only[Hold_eq]
 refine c_no (by decide +kernel) (c_no (by decide +kernel) (c_no (by decide +kernel) (c_yes (by decide +kernel) (?_))))
 obtain⟨k,rfl⟩:∃ m,k=m+1:=⟨k-1,by omega⟩
 rw[C_desk_line_act_7_1]
 simp only[Hold_eq]
 refine number1_s k hl hS hin (by omega) fun j1 m1 hj1 hd1=>?_
 obtain⟨k,rfl⟩:∃ m,k=m+1:=⟨k-1,by omega⟩
 rw[C_desk_line_act_26_1]
 simp only[Hold_eq]
 obtain⟨k,rfl⟩:∃ m,k=m+1:=⟨k-1,by omega⟩
 rw[C_desk_line_act_27_1]
 simp only[Hold_eq]
 refine c_no (by decide +kernel) (?_)
 obtain⟨k,rfl⟩:∃ m,k=m+1:=⟨k-1,by omega⟩
 rw[C_desk_line_act_29_1]
 simp only[Hold_eq]
 refine c_no (by decide +kernel) (?_)
 obtain⟨k,rfl⟩:∃ m,k=m+1:=⟨k-1,by omega⟩
 rw[C_desk_line_act_31_1]
 simp only[Hold_eq]
 refine c_no (by decide +kernel) (?_)
 obtain⟨k,rfl⟩:∃ m,k=m+1:=⟨k-1,by omega⟩
 rw[C_desk_line_act_33_1]
 simp only[Hold_eq]
 refine c_yes (by decide +kernel) (?_)
 obtain⟨k,rfl⟩:∃ m,k=m+1:=⟨k-1,by omega⟩
 rw[C_desk_line_act_68_1]
 exact h.1 _ _ hj1 hd1
def res_deliver(no:Bool)(l:List ByteArray)(i:Nat):S_api_Act×Bool×List ByteArray:=(S_api_Act.mk 2 0 (numP no (l.drop i)).1 0 zC 0 ByteArray.empty zH,(numP no (l.drop i)).2)
theorem act_deliver(k:Nat)(hk:100200<=k)(hl:l.length<=100000)(hS:Sh l)(hin:i+n=l.length)(h:AFin K1 K2 l (res_deliver no l i)):F_desk_line_act_s1 k str6 i n no l K1 K2:=by
 unfold res_deliver at h
 obtain⟨k,rfl⟩:∃ m,k=m+1:=⟨k-1,by omega⟩
 rw[F_desk_line_act_s1]
 simp only[Hold_eq]
 refine c_no (by decide +kernel) (c_no (by decide +kernel) (c_no (by decide +kernel) (c_no (by decide +kernel) (?_))))
 obtain⟨k,rfl⟩:∃ m,k=m+1:=⟨k-1,by omega⟩
 rw[C_desk_line_act_8_1]
 simp only[Hold_eq]
 refine c_yes (by decide +kernel) (c_yes (by decide +kernel) (?_))
 obtain⟨k,rfl⟩:∃ m,k=m+1:=⟨k-1,by omega⟩
 rw[C_desk_line_act_11_1]
 simp only[Hold_eq]
 refine number1_s k hl hS hin (by omega) fun j1 m1 hj1 hd1=>?_
 obtain⟨k,rfl⟩:∃ m,k=m+1:=⟨k-1,by omega⟩
 rw[C_desk_line_act_26_1]
 simp only[Hold_eq]
 obtain⟨k,rfl⟩:∃ m,k=m+1:=⟨k-1,by omega⟩
 rw[C_desk_line_act_27_1]
 simp only[Hold_eq]
 refine c_no (by decide +kernel) (?_)
 obtain⟨k,rfl⟩:∃ m,k=m+1:=⟨k-1,by omega⟩
 rw[C_desk_line_act_29_1]
 simp only[Hold_eq]
 refine c_no (by decide +kernel) (?_)
 obtain⟨k,rfl⟩:∃ m,k=m+1:=⟨k-1,by omega⟩
 rw[C_desk_line_act_31_1]
 simp only[Hold_eq]
 refine c_no (by decide +kernel) (?_)
 obtain⟨k,rfl⟩:∃ m,k=m+1:=⟨k-1,by omega⟩
 rw[C_desk_line_act_33_1]
 simp only[Hold_eq]
 refine c_no (by decide +kernel) (?_)
 obtain⟨k,rfl⟩:∃ m,k=m+1:=⟨k-1,by omega⟩
 rw[C_desk_line_act_35_1]
 simp only[Hold_eq]
 refine c_yes (by decide +kernel) (?_)
 obtain⟨k,rfl⟩:∃ m,k=m+1:=⟨k-1,by omega⟩
 rw[C_desk_line_act_68_1]
 exact h.1 _ _ hj1 hd1
def res_drop(no:Bool)(l:List ByteArray)(i:Nat):S_api_Act×Bool×List ByteArray:=(S_api_Act.mk 3 0 (numP no (l.drop i)).1 0 zC 0 ByteArray.empty zH,(numP no (l.drop i)).2)
theorem act_drop(k:Nat)(hk:100200<=k)(hl:l.length<=100000)(hS:Sh l)(hin:i+n=l.length)(h:AFin K1 K2 l (res_drop no l i)):F_desk_line_act_s1 k str7 i n no l K1 K2:=by
 unfold res_drop at h
 obtain⟨k,rfl⟩:∃ m,k=m+1:=⟨k-1,by omega⟩
 rw[F_desk_line_act_s1]
 simp only[Hold_eq]
 refine c_no (by decide +kernel) (c_no (by decide +kernel) (c_no (by decide +kernel) (c_no (by decide +kernel) (?_))))
 obtain⟨k,rfl⟩:∃ m,k=m+1:=⟨k-1,by omega⟩
 rw[C_desk_line_act_8_1]
 simp only[Hold_eq]
 refine c_no (by decide +kernel) (c_yes (by decide +kernel) (c_yes (by decide +kernel) (?_)))
 obtain⟨k,rfl⟩:∃ m,k=m+1:=⟨k-1,by omega⟩
 rw[C_desk_line_act_11_1]
 simp only[Hold_eq]
 refine number1_s k hl hS hin (by omega) fun j1 m1 hj1 hd1=>?_
 obtain⟨k,rfl⟩:∃ m,k=m+1:=⟨k-1,by omega⟩
 rw[C_desk_line_act_26_1]
 simp only[Hold_eq]
 obtain⟨k,rfl⟩:∃ m,k=m+1:=⟨k-1,by omega⟩
 rw[C_desk_line_act_27_1]
 simp only[Hold_eq]
 refine c_no (by decide +kernel) (?_)
 obtain⟨k,rfl⟩:∃ m,k=m+1:=⟨k-1,by omega⟩
 rw[C_desk_line_act_29_1]
 simp only[Hold_eq]
 refine c_no (by decide +kernel) (?_)
 obtain⟨k,rfl⟩:∃ m,k=m+1:=⟨k-1,by omega⟩
 rw[C_desk_line_act_31_1]
 simp only[Hold_eq]
 refine c_no (by decide +kernel) (?_)
 obtain⟨k,rfl⟩:∃ m,k=m+1:=⟨k-1,by omega⟩
 rw[C_desk_line_act_33_1]
 simp only[Hold_eq]
 refine c_no (by decide +kernel) (?_)
 obtain⟨k,rfl⟩:∃ m,k=m+1:=⟨k-1,by omega⟩
 rw[C_desk_line_act_35_1]
 simp only[Hold_eq]
 refine c_no (by decide +kernel) (?_)
 obtain⟨k,rfl⟩:∃ m,k=m+1:=⟨k-1,by omega⟩
 rw[C_desk_line_act_37_1]
 simp only[Hold_eq]
 refine c_yes (by decide +kernel) (?_)
 obtain⟨k,rfl⟩:∃ m,k=m+1:=⟨k-1,by omega⟩
 rw[C_desk_line_act_68_1]
 exact h.1 _ _ hj1 hd1
def res_double(no:Bool)(l:List ByteArray)(i:Nat):S_api_Act×Bool×List ByteArray:=(S_api_Act.mk 4 0 (numP no (l.drop i)).1 0 zC 0 ByteArray.empty zH,(numP no (l.drop i)).2)
theorem act_double(k:Nat)(hk:100200<=k)(hl:l.length<=100000)(hS:Sh l)(hin:i+n=l.length)(h:AFin K1 K2 l (res_double no l i)):F_desk_line_act_s1 k str8 i n no l K1 K2:=by
 unfold res_double at h
 obtain⟨k,rfl⟩:∃ m,k=m+1:=⟨k-1,by omega⟩
 rw[F_desk_line_act_s1]
 simp only[Hold_eq]
 refine c_no (by decide +kernel) (c_no (by decide +kernel) (c_no (by decide +kernel) (c_no (by decide +kernel) (?_))))
 obtain⟨k,rfl⟩:∃ m,k=m+1:=⟨k-1,by omega⟩
 rw[C_desk_line_act_8_1]
 simp only[Hold_eq]
 refine c_no (by decide +kernel) (c_no (by decide +kernel) (c_yes (by decide +kernel) (?_)))
 obtain⟨k,rfl⟩:∃ m,k=m+1:=⟨k-1,by omega⟩
 rw[C_desk_line_act_11_1]
 simp only[Hold_eq]
 refine number1_s k hl hS hin (by omega) fun j1 m1 hj1 hd1=>?_
 obtain⟨k,rfl⟩:∃ m,k=m+1:=⟨k-1,by omega⟩
 rw[C_desk_line_act_26_1]
 simp only[Hold_eq]
 obtain⟨k,rfl⟩:∃ m,k=m+1:=⟨k-1,by omega⟩
 rw[C_desk_line_act_27_1]
 simp only[Hold_eq]
 refine c_no (by decide +kernel) (?_)
 obtain⟨k,rfl⟩:∃ m,k=m+1:=⟨k-1,by omega⟩
 rw[C_desk_line_act_29_1]
 simp only[Hold_eq]
 refine c_no (by decide +kernel) (?_)
 obtain⟨k,rfl⟩:∃ m,k=m+1:=⟨k-1,by omega⟩
 rw[C_desk_line_act_31_1]
 simp only[Hold_eq]
 refine c_no (by decide +kernel) (?_)
 obtain⟨k,rfl⟩:∃ m,k=m+1:=⟨k-1,by omega⟩
 rw[C_desk_line_act_33_1]
 simp only[Hold_eq]
 refine c_no (by decide +kernel) (?_)
 obtain⟨k,rfl⟩:∃ m,k=m+1:=⟨k-1,by omega⟩
 rw[C_desk_line_act_35_1]
 simp only[Hold_eq]
 refine c_no (by decide +kernel) (?_)
 obtain⟨k,rfl⟩:∃ m,k=m+1:=⟨k-1,by omega⟩
 rw[C_desk_line_act_37_1]
 simp only[Hold_eq]
 refine c_no (by decide +kernel) (?_)
 obtain⟨k,rfl⟩:∃ m,k=m+1:=⟨k-1,by omega⟩
 rw[C_desk_line_act_39_1]
 simp only[Hold_eq]
 refine c_yes (by decide +kernel) (?_)
 obtain⟨k,rfl⟩:∃ m,k=m+1:=⟨k-1,by omega⟩
 rw[C_desk_line_act_68_1]
 exact h.1 _ _ hj1 hd1
def res_retry(no:Bool)(l:List ByteArray)(i:Nat):S_api_Act×Bool×List ByteArray:=(S_api_Act.mk 7 0 0 (numP no (l.drop i)).1 zC 0 ByteArray.empty zH,(numP no (l.drop i)).2)
theorem act_retry(k:Nat)(hk:100200<=k)(hl:l.length<=100000)(hS:Sh l)(hin:i+n=l.length)(h:AFin K1 K2 l (res_retry no l i)):F_desk_line_act_s1 k str9 i n no l K1 K2:=by
 unfold res_retry at h
 obtain⟨k,rfl⟩:∃ m,k=m+1:=⟨k-1,by omega⟩
 rw[F_desk_line_act_s1]
 simp only[Hold_eq]
 refine c_no (by decide +kernel) (c_no (by decide +kernel) (c_no (by decide +kernel) (c_no (by decide +kernel) (?_))))
 obtain⟨k,rfl⟩:∃ m,k=m+1:=⟨k-1,by omega⟩
 rw[C_desk_line_act_8_1]
 simp only[Hold_eq]
 refine c_no (by decide +kernel) (c_no (by decide +kernel) (c_no (by decide +kernel) (?_)))
 obtain⟨k,rfl⟩:∃ m,k=m+1:=⟨k-1,by omega⟩
 rw[C_desk_line_act_12_1]
 simp only[Hold_eq]
 refine c_yes (by decide +kernel) (c_yes (by decide +kernel) (?_))
 obtain⟨k,rfl⟩:∃ m,k=m+1:=⟨k-1,by omega⟩
 rw[C_desk_line_act_19_1]
 simp only[Hold_eq]
 refine number1_s k hl hS hin (by omega) fun j1 m1 hj1 hd1=>?_
 obtain⟨k,rfl⟩:∃ m,k=m+1:=⟨k-1,by omega⟩
 rw[C_desk_line_act_26_1]
 simp only[Hold_eq]
 obtain⟨k,rfl⟩:∃ m,k=m+1:=⟨k-1,by omega⟩
 rw[C_desk_line_act_27_1]
 simp only[Hold_eq]
 refine c_no (by decide +kernel) (?_)
 obtain⟨k,rfl⟩:∃ m,k=m+1:=⟨k-1,by omega⟩
 rw[C_desk_line_act_29_1]
 simp only[Hold_eq]
 refine c_no (by decide +kernel) (?_)
 obtain⟨k,rfl⟩:∃ m,k=m+1:=⟨k-1,by omega⟩
 rw[C_desk_line_act_31_1]
 simp only[Hold_eq]
 refine c_no (by decide +kernel) (?_)
 obtain⟨k,rfl⟩:∃ m,k=m+1:=⟨k-1,by omega⟩
 rw[C_desk_line_act_33_1]
 simp only[Hold_eq]
 refine c_no (by decide +kernel) (?_)
 obtain⟨k,rfl⟩:∃ m,k=m+1:=⟨k-1,by omega⟩
 rw[C_desk_line_act_35_1]
 simp only[Hold_eq]
 refine c_no (by decide +kernel) (?_)
 obtain⟨k,rfl⟩:∃ m,k=m+1:=⟨k-1,by omega⟩
 rw[C_desk_line_act_37_1]
 simp only[Hold_eq]
 refine c_no (by decide +kernel) (?_)
 obtain⟨k,rfl⟩:∃ m,k=m+1:=⟨k-1,by omega⟩
 rw[C_desk_line_act_39_1]
 simp only[Hold_eq]
 refine c_no (by decide +kernel) (?_)
 obtain⟨k,rfl⟩:∃ m,k=m+1:=⟨k-1,by omega⟩
 rw[C_desk_line_act_41_1]
 simp only[Hold_eq]
 refine c_yes (by decide +kernel) (?_)
 obtain⟨k,rfl⟩:∃ m,k=m+1:=⟨k-1,by omega⟩
 rw[C_desk_line_act_68_1]
 exact h.1 _ _ hj1 hd1
def res_head(no:Bool)(l:List ByteArray)(i:Nat):S_api_Act×Bool×List ByteArray:=(S_api_Act.mk 6 0 0 (numP no (l.drop i)).1 zC 3 ByteArray.empty zH,(numP no (l.drop i)).2)
theorem act_head(k:Nat)(hk:100200<=k)(hl:l.length<=100000)(hS:Sh l)(hin:i+n=l.length)(h:AFin K1 K2 l (res_head no l i)):F_desk_line_act_s1 k str10 i n no l K1 K2:=by
 unfold res_head at h
 obtain⟨k,rfl⟩:∃ m,k=m+1:=⟨k-1,by omega⟩
 rw[F_desk_line_act_s1]
 simp only[Hold_eq]
 refine c_no (by decide +kernel) (c_no (by decide +kernel) (c_no (by decide +kernel) (c_no (by decide +kernel) (?_))))
 obtain⟨k,rfl⟩:∃ m,k=m+1:=⟨k-1,by omega⟩
 rw[C_desk_line_act_8_1]
 simp only[Hold_eq]
 refine c_no (by decide +kernel) (c_no (by decide +kernel) (c_no (by decide +kernel) (?_)))
 obtain⟨k,rfl⟩:∃ m,k=m+1:=⟨k-1,by omega⟩
 rw[C_desk_line_act_12_1]
 simp only[Hold_eq]
 refine c_no (by decide +kernel) (c_yes (by decide +kernel) (c_yes (by decide +kernel) (?_)))
 obtain⟨k,rfl⟩:∃ m,k=m+1:=⟨k-1,by omega⟩
 rw[C_desk_line_act_19_1]
 simp only[Hold_eq]
 refine number1_s k hl hS hin (by omega) fun j1 m1 hj1 hd1=>?_
 obtain⟨k,rfl⟩:∃ m,k=m+1:=⟨k-1,by omega⟩
 rw[C_desk_line_act_26_1]
 simp only[Hold_eq]
 obtain⟨k,rfl⟩:∃ m,k=m+1:=⟨k-1,by omega⟩
 rw[C_desk_line_act_27_1]
 simp only[Hold_eq]
 refine c_no (by decide +kernel) (?_)
 obtain⟨k,rfl⟩:∃ m,k=m+1:=⟨k-1,by omega⟩
 rw[C_desk_line_act_29_1]
 simp only[Hold_eq]
 refine c_no (by decide +kernel) (?_)
 obtain⟨k,rfl⟩:∃ m,k=m+1:=⟨k-1,by omega⟩
 rw[C_desk_line_act_31_1]
 simp only[Hold_eq]
 refine c_no (by decide +kernel) (?_)
 obtain⟨k,rfl⟩:∃ m,k=m+1:=⟨k-1,by omega⟩
 rw[C_desk_line_act_33_1]
 simp only[Hold_eq]
 refine c_no (by decide +kernel) (?_)
 obtain⟨k,rfl⟩:∃ m,k=m+1:=⟨k-1,by omega⟩
 rw[C_desk_line_act_35_1]
 simp only[Hold_eq]
 refine c_no (by decide +kernel) (?_)
 obtain⟨k,rfl⟩:∃ m,k=m+1:=⟨k-1,by omega⟩
 rw[C_desk_line_act_37_1]
 simp only[Hold_eq]
 refine c_no (by decide +kernel) (?_)
 obtain⟨k,rfl⟩:∃ m,k=m+1:=⟨k-1,by omega⟩
 rw[C_desk_line_act_39_1]
 simp only[Hold_eq]
 refine c_no (by decide +kernel) (?_)
 obtain⟨k,rfl⟩:∃ m,k=m+1:=⟨k-1,by omega⟩
 rw[C_desk_line_act_41_1]
 simp only[Hold_eq]
 refine c_no (by decide +kernel) (?_)
 obtain⟨k,rfl⟩:∃ m,k=m+1:=⟨k-1,by omega⟩
 rw[C_desk_line_act_43_1]
 simp only[Hold_eq]
 refine c_yes (by decide +kernel) (?_)
 obtain⟨k,rfl⟩:∃ m,k=m+1:=⟨k-1,by omega⟩
 rw[C_desk_line_act_68_1]
 exact h.1 _ _ hj1 hd1
def res_lookup(no:Bool)(l:List ByteArray)(i:Nat):S_api_Act×Bool×List ByteArray:=(S_api_Act.mk 6 0 0 (numP no (l.drop i)).1 zC 1 (plainP (numP no (l.drop i)).2.1 (numP no (l.drop i)).2.2).1 zH,(plainP (numP no (l.drop i)).2.1 (numP no (l.drop i)).2.2).2)
theorem act_lookup(k:Nat)(hk:100200<=k)(hl:l.length<=100000)(hS:Sh l)(hin:i+n=l.length)(h:AFin K1 K2 l (res_lookup no l i)):F_desk_line_act_s1 k str11 i n no l K1 K2:=by
 unfold res_lookup at h
 obtain⟨k,rfl⟩:∃ m,k=m+1:=⟨k-1,by omega⟩
 rw[F_desk_line_act_s1]
 simp only[Hold_eq]
 refine c_no (by decide +kernel) (c_no (by decide +kernel) (c_no (by decide +kernel) (c_no (by decide +kernel) (?_))))
 obtain⟨k,rfl⟩:∃ m,k=m+1:=⟨k-1,by omega⟩
 rw[C_desk_line_act_8_1]
 simp only[Hold_eq]
 refine c_no (by decide +kernel) (c_no (by decide +kernel) (c_no (by decide +kernel) (?_)))
 obtain⟨k,rfl⟩:∃ m,k=m+1:=⟨k-1,by omega⟩
 rw[C_desk_line_act_12_1]
 simp only[Hold_eq]
 refine c_no (by decide +kernel) (c_no (by decide +kernel) (c_no (by decide +kernel) (c_no (by decide +kernel) (c_no (by decide +kernel) (c_yes (by decide +kernel) (c_yes (by decide +kernel) (?_)))))))
 obtain⟨k,rfl⟩:∃ m,k=m+1:=⟨k-1,by omega⟩
 rw[C_desk_line_act_19_1]
 simp only[Hold_eq]
 refine number1_s k hl hS hin (by omega) fun j1 m1 hj1 hd1=>?_
 obtain⟨k,rfl⟩:∃ m,k=m+1:=⟨k-1,by omega⟩
 rw[C_desk_line_act_26_1]
 simp only[Hold_eq]
 obtain⟨k,rfl⟩:∃ m,k=m+1:=⟨k-1,by omega⟩
 rw[C_desk_line_act_27_1]
 simp only[Hold_eq]
 refine c_no (by decide +kernel) (?_)
 obtain⟨k,rfl⟩:∃ m,k=m+1:=⟨k-1,by omega⟩
 rw[C_desk_line_act_29_1]
 simp only[Hold_eq]
 refine c_no (by decide +kernel) (?_)
 obtain⟨k,rfl⟩:∃ m,k=m+1:=⟨k-1,by omega⟩
 rw[C_desk_line_act_31_1]
 simp only[Hold_eq]
 refine c_no (by decide +kernel) (?_)
 obtain⟨k,rfl⟩:∃ m,k=m+1:=⟨k-1,by omega⟩
 rw[C_desk_line_act_33_1]
 simp only[Hold_eq]
 refine c_no (by decide +kernel) (?_)
 obtain⟨k,rfl⟩:∃ m,k=m+1:=⟨k-1,by omega⟩
 rw[C_desk_line_act_35_1]
 simp only[Hold_eq]
 refine c_no (by decide +kernel) (?_)
 obtain⟨k,rfl⟩:∃ m,k=m+1:=⟨k-1,by omega⟩
 rw[C_desk_line_act_37_1]
 simp only[Hold_eq]
 refine c_no (by decide +kernel) (?_)
 obtain⟨k,rfl⟩:∃ m,k=m+1:=⟨k-1,by omega⟩
 rw[C_desk_line_act_39_1]
 simp only[Hold_eq]
 refine c_no (by decide +kernel) (?_)
 obtain⟨k,rfl⟩:∃ m,k=m+1:=⟨k-1,by omega⟩
 rw[C_desk_line_act_41_1]
 simp only[Hold_eq]
 refine c_no (by decide +kernel) (?_)
 obtain⟨k,rfl⟩:∃ m,k=m+1:=⟨k-1,by omega⟩
 rw[C_desk_line_act_43_1]
 simp only[Hold_eq]
 refine c_no (by decide +kernel) (?_)
 obtain⟨k,rfl⟩:∃ m,k=m+1:=⟨k-1,by omega⟩
 rw[C_desk_line_act_45_1]
 simp only[Hold_eq]
 refine c_yes (by decide +kernel) (?_)
 obtain⟨k,rfl⟩:∃ m,k=m+1:=⟨k-1,by omega⟩
 rw[C_desk_line_act_46_1]
 simp only[Hold_eq]
 refine plain1_s k hl hS hj1 (by omega) fun j2 m2 hj2 hd2=>?_
 rw[hd1] at hd2 ⊢
 obtain⟨k,rfl⟩:∃ m,k=m+1:=⟨k-1,by omega⟩
 rw[C_desk_line_act_68_1]
 exact h.1 _ _ hj2 hd2
def res_leased(no:Bool)(l:List ByteArray)(i:Nat):S_api_Act×Bool×List ByteArray:=(S_api_Act.mk 6 0 0 (numP no (l.drop i)).1 zC 2 (plainP (numP no (l.drop i)).2.1 (numP no (l.drop i)).2.2).1 zH,(plainP (numP no (l.drop i)).2.1 (numP no (l.drop i)).2.2).2)
theorem act_leased(k:Nat)(hk:100200<=k)(hl:l.length<=100000)(hS:Sh l)(hin:i+n=l.length)(h:AFin K1 K2 l (res_leased no l i)):F_desk_line_act_s1 k str13 i n no l K1 K2:=by
 unfold res_leased at h
 obtain⟨k,rfl⟩:∃ m,k=m+1:=⟨k-1,by omega⟩
 rw[F_desk_line_act_s1]
 simp only[Hold_eq]
 refine c_no (by decide +kernel) (c_no (by decide +kernel) (c_no (by decide +kernel) (c_no (by decide +kernel) (?_))))
 obtain⟨k,rfl⟩:∃ m,k=m+1:=⟨k-1,by omega⟩
 rw[C_desk_line_act_8_1]
 simp only[Hold_eq]
 refine c_no (by decide +kernel) (c_no (by decide +kernel) (c_no (by decide +kernel) (?_)))
 obtain⟨k,rfl⟩:∃ m,k=m+1:=⟨k-1,by omega⟩
 rw[C_desk_line_act_12_1]
 simp only[Hold_eq]
 refine c_no (by decide +kernel) (c_no (by decide +kernel) (c_no (by decide +kernel) (c_no (by decide +kernel) (c_no (by decide +kernel) (c_no (by decide +kernel) (c_yes (by decide +kernel) (?_)))))))
 obtain⟨k,rfl⟩:∃ m,k=m+1:=⟨k-1,by omega⟩
 rw[C_desk_line_act_19_1]
 simp only[Hold_eq]
 refine number1_s k hl hS hin (by omega) fun j1 m1 hj1 hd1=>?_
 obtain⟨k,rfl⟩:∃ m,k=m+1:=⟨k-1,by omega⟩
 rw[C_desk_line_act_26_1]
 simp only[Hold_eq]
 obtain⟨k,rfl⟩:∃ m,k=m+1:=⟨k-1,by omega⟩
 rw[C_desk_line_act_27_1]
 simp only[Hold_eq]
 refine c_no (by decide +kernel) (?_)
 obtain⟨k,rfl⟩:∃ m,k=m+1:=⟨k-1,by omega⟩
 rw[C_desk_line_act_29_1]
 simp only[Hold_eq]
 refine c_no (by decide +kernel) (?_)
 obtain⟨k,rfl⟩:∃ m,k=m+1:=⟨k-1,by omega⟩
 rw[C_desk_line_act_31_1]
 simp only[Hold_eq]
 refine c_no (by decide +kernel) (?_)
 obtain⟨k,rfl⟩:∃ m,k=m+1:=⟨k-1,by omega⟩
 rw[C_desk_line_act_33_1]
 simp only[Hold_eq]
 refine c_no (by decide +kernel) (?_)
 obtain⟨k,rfl⟩:∃ m,k=m+1:=⟨k-1,by omega⟩
 rw[C_desk_line_act_35_1]
 simp only[Hold_eq]
 refine c_no (by decide +kernel) (?_)
 obtain⟨k,rfl⟩:∃ m,k=m+1:=⟨k-1,by omega⟩
 rw[C_desk_line_act_37_1]
 simp only[Hold_eq]
 refine c_no (by decide +kernel) (?_)
 obtain⟨k,rfl⟩:∃ m,k=m+1:=⟨k-1,by omega⟩
 rw[C_desk_line_act_39_1]
 simp only[Hold_eq]
 refine c_no (by decide +kernel) (?_)
 obtain⟨k,rfl⟩:∃ m,k=m+1:=⟨k-1,by omega⟩
 rw[C_desk_line_act_41_1]
 simp only[Hold_eq]
 refine c_no (by decide +kernel) (?_)
 obtain⟨k,rfl⟩:∃ m,k=m+1:=⟨k-1,by omega⟩
 rw[C_desk_line_act_43_1]
 simp only[Hold_eq]
 refine c_no (by decide +kernel) (?_)
 obtain⟨k,rfl⟩:∃ m,k=m+1:=⟨k-1,by omega⟩
 rw[C_desk_line_act_45_1]
 simp only[Hold_eq]
 refine c_no (by decide +kernel) (?_)
 obtain⟨k,rfl⟩:∃ m,k=m+1:=⟨k-1,by omega⟩
 rw[C_desk_line_act_47_1]
 simp only[Hold_eq]
 refine c_yes (by decide +kernel) (?_)
 obtain⟨k,rfl⟩:∃ m,k=m+1:=⟨k-1,by omega⟩
 rw[C_desk_line_act_48_1]
 simp only[Hold_eq]
 refine plain1_s k hl hS hj1 (by omega) fun j2 m2 hj2 hd2=>?_
 rw[hd1] at hd2 ⊢
 obtain⟨k,rfl⟩:∃ m,k=m+1:=⟨k-1,by omega⟩
 rw[C_desk_line_act_68_1]
 exact h.1 _ _ hj2 hd2
def res_put(no:Bool)(l:List ByteArray)(i:Nat):S_api_Act×Bool×List ByteArray:=(S_api_Act.mk 5 0 0 (numP no (l.drop i)).1 (S_api_Command.mk 1 0 0 (plainP (numP no (l.drop i)).2.1 (numP no (l.drop i)).2.2).1 (plainP (plainP (numP no (l.drop i)).2.1 (numP no (l.drop i)).2.2).2.1 (plainP (numP no (l.drop i)).2.1 (numP no (l.drop i)).2.2).2.2).1 0 (List.replicate 32 0)) 0 ByteArray.empty zH,(plainP (plainP (numP no (l.drop i)).2.1 (numP no (l.drop i)).2.2).2.1 (plainP (numP no (l.drop i)).2.1 (numP no (l.drop i)).2.2).2.2).2)
theorem act_put(k:Nat)(hk:100200<=k)(hl:l.length<=100000)(hS:Sh l)(hin:i+n=l.length)(h:AFin K1 K2 l (res_put no l i)):F_desk_line_act_s1 k str14 i n no l K1 K2:=by
 unfold res_put at h
 obtain⟨k,rfl⟩:∃ m,k=m+1:=⟨k-1,by omega⟩
 rw[F_desk_line_act_s1]
 simp only[Hold_eq]
 refine c_no (by decide +kernel) (c_no (by decide +kernel) (c_no (by decide +kernel) (c_no (by decide +kernel) (?_))))
 obtain⟨k,rfl⟩:∃ m,k=m+1:=⟨k-1,by omega⟩
 rw[C_desk_line_act_8_1]
 simp only[Hold_eq]
 refine c_no (by decide +kernel) (c_no (by decide +kernel) (c_no (by decide +kernel) (?_)))
 obtain⟨k,rfl⟩:∃ m,k=m+1:=⟨k-1,by omega⟩
 rw[C_desk_line_act_12_1]
 simp only[Hold_eq]
 refine c_no (by decide +kernel) (c_no (by decide +kernel) (c_yes (by decide +kernel) (c_yes (by decide +kernel) (?_))))
 obtain⟨k,rfl⟩:∃ m,k=m+1:=⟨k-1,by omega⟩
 rw[C_desk_line_act_19_1]
 simp only[Hold_eq]
 refine number1_s k hl hS hin (by omega) fun j1 m1 hj1 hd1=>?_
 obtain⟨k,rfl⟩:∃ m,k=m+1:=⟨k-1,by omega⟩
 rw[C_desk_line_act_26_1]
 simp only[Hold_eq]
 obtain⟨k,rfl⟩:∃ m,k=m+1:=⟨k-1,by omega⟩
 rw[C_desk_line_act_27_1]
 simp only[Hold_eq]
 refine c_no (by decide +kernel) (?_)
 obtain⟨k,rfl⟩:∃ m,k=m+1:=⟨k-1,by omega⟩
 rw[C_desk_line_act_29_1]
 simp only[Hold_eq]
 refine c_no (by decide +kernel) (?_)
 obtain⟨k,rfl⟩:∃ m,k=m+1:=⟨k-1,by omega⟩
 rw[C_desk_line_act_31_1]
 simp only[Hold_eq]
 refine c_no (by decide +kernel) (?_)
 obtain⟨k,rfl⟩:∃ m,k=m+1:=⟨k-1,by omega⟩
 rw[C_desk_line_act_33_1]
 simp only[Hold_eq]
 refine c_no (by decide +kernel) (?_)
 obtain⟨k,rfl⟩:∃ m,k=m+1:=⟨k-1,by omega⟩
 rw[C_desk_line_act_35_1]
 simp only[Hold_eq]
 refine c_no (by decide +kernel) (?_)
 obtain⟨k,rfl⟩:∃ m,k=m+1:=⟨k-1,by omega⟩
 rw[C_desk_line_act_37_1]
 simp only[Hold_eq]
 refine c_no (by decide +kernel) (?_)
 obtain⟨k,rfl⟩:∃ m,k=m+1:=⟨k-1,by omega⟩
 rw[C_desk_line_act_39_1]
 simp only[Hold_eq]
 refine c_no (by decide +kernel) (?_)
 obtain⟨k,rfl⟩:∃ m,k=m+1:=⟨k-1,by omega⟩
 rw[C_desk_line_act_41_1]
 simp only[Hold_eq]
 refine c_no (by decide +kernel) (?_)
 obtain⟨k,rfl⟩:∃ m,k=m+1:=⟨k-1,by omega⟩
 rw[C_desk_line_act_43_1]
 simp only[Hold_eq]
 refine c_no (by decide +kernel) (?_)
 obtain⟨k,rfl⟩:∃ m,k=m+1:=⟨k-1,by omega⟩
 rw[C_desk_line_act_45_1]
 simp only[Hold_eq]
 refine c_no (by decide +kernel) (?_)
 obtain⟨k,rfl⟩:∃ m,k=m+1:=⟨k-1,by omega⟩
 rw[C_desk_line_act_47_1]
 simp only[Hold_eq]
 refine c_no (by decide +kernel) (?_)
 obtain⟨k,rfl⟩:∃ m,k=m+1:=⟨k-1,by omega⟩
 rw[C_desk_line_act_49_1]
 simp only[Hold_eq]
 refine c_yes (by decide +kernel) (?_)
 obtain⟨k,rfl⟩:∃ m,k=m+1:=⟨k-1,by omega⟩
 rw[C_desk_line_act_50_1]
 simp only[Hold_eq]
 refine plain1_s k hl hS hj1 (by omega) fun j2 m2 hj2 hd2=>?_
 rw[hd1] at hd2 ⊢
 refine plain1_s k hl hS hj2 (by omega) fun j3 m3 hj3 hd3=>?_
 rw[hd2] at hd3 ⊢
 obtain⟨k,rfl⟩:∃ m,k=m+1:=⟨k-1,by omega⟩
 rw[C_desk_line_act_68_1]
 exact h.1 _ _ hj3 hd3
def res_rotate(no:Bool)(l:List ByteArray)(i:Nat):S_api_Act×Bool×List ByteArray:=(S_api_Act.mk 5 0 0 (numP no (l.drop i)).1 (S_api_Command.mk 2 0 0 (plainP (numP no (l.drop i)).2.1 (numP no (l.drop i)).2.2).1 (plainP (plainP (numP no (l.drop i)).2.1 (numP no (l.drop i)).2.2).2.1 (plainP (numP no (l.drop i)).2.1 (numP no (l.drop i)).2.2).2.2).1 0 (List.replicate 32 0)) 0 ByteArray.empty zH,(plainP (plainP (numP no (l.drop i)).2.1 (numP no (l.drop i)).2.2).2.1 (plainP (numP no (l.drop i)).2.1 (numP no (l.drop i)).2.2).2.2).2)
theorem act_rotate(k:Nat)(hk:100200<=k)(hl:l.length<=100000)(hS:Sh l)(hin:i+n=l.length)(h:AFin K1 K2 l (res_rotate no l i)):F_desk_line_act_s1 k str15 i n no l K1 K2:=by
 unfold res_rotate at h
 obtain⟨k,rfl⟩:∃ m,k=m+1:=⟨k-1,by omega⟩
 rw[F_desk_line_act_s1]
 simp only[Hold_eq]
 refine c_no (by decide +kernel) (c_no (by decide +kernel) (c_no (by decide +kernel) (c_no (by decide +kernel) (?_))))
 obtain⟨k,rfl⟩:∃ m,k=m+1:=⟨k-1,by omega⟩
 rw[C_desk_line_act_8_1]
 simp only[Hold_eq]
 refine c_no (by decide +kernel) (c_no (by decide +kernel) (c_no (by decide +kernel) (?_)))
 obtain⟨k,rfl⟩:∃ m,k=m+1:=⟨k-1,by omega⟩
 rw[C_desk_line_act_12_1]
 simp only[Hold_eq]
 refine c_no (by decide +kernel) (c_no (by decide +kernel) (c_no (by decide +kernel) (c_yes (by decide +kernel) (c_yes (by decide +kernel) (?_)))))
 obtain⟨k,rfl⟩:∃ m,k=m+1:=⟨k-1,by omega⟩
 rw[C_desk_line_act_19_1]
 simp only[Hold_eq]
 refine number1_s k hl hS hin (by omega) fun j1 m1 hj1 hd1=>?_
 obtain⟨k,rfl⟩:∃ m,k=m+1:=⟨k-1,by omega⟩
 rw[C_desk_line_act_26_1]
 simp only[Hold_eq]
 obtain⟨k,rfl⟩:∃ m,k=m+1:=⟨k-1,by omega⟩
 rw[C_desk_line_act_27_1]
 simp only[Hold_eq]
 refine c_no (by decide +kernel) (?_)
 obtain⟨k,rfl⟩:∃ m,k=m+1:=⟨k-1,by omega⟩
 rw[C_desk_line_act_29_1]
 simp only[Hold_eq]
 refine c_no (by decide +kernel) (?_)
 obtain⟨k,rfl⟩:∃ m,k=m+1:=⟨k-1,by omega⟩
 rw[C_desk_line_act_31_1]
 simp only[Hold_eq]
 refine c_no (by decide +kernel) (?_)
 obtain⟨k,rfl⟩:∃ m,k=m+1:=⟨k-1,by omega⟩
 rw[C_desk_line_act_33_1]
 simp only[Hold_eq]
 refine c_no (by decide +kernel) (?_)
 obtain⟨k,rfl⟩:∃ m,k=m+1:=⟨k-1,by omega⟩
 rw[C_desk_line_act_35_1]
 simp only[Hold_eq]
 refine c_no (by decide +kernel) (?_)
 obtain⟨k,rfl⟩:∃ m,k=m+1:=⟨k-1,by omega⟩
 rw[C_desk_line_act_37_1]
 simp only[Hold_eq]
 refine c_no (by decide +kernel) (?_)
 obtain⟨k,rfl⟩:∃ m,k=m+1:=⟨k-1,by omega⟩
 rw[C_desk_line_act_39_1]
 simp only[Hold_eq]
 refine c_no (by decide +kernel) (?_)
 obtain⟨k,rfl⟩:∃ m,k=m+1:=⟨k-1,by omega⟩
 rw[C_desk_line_act_41_1]
 simp only[Hold_eq]
 refine c_no (by decide +kernel) (?_)
 obtain⟨k,rfl⟩:∃ m,k=m+1:=⟨k-1,by omega⟩
 rw[C_desk_line_act_43_1]
 simp only[Hold_eq]
 refine c_no (by decide +kernel) (?_)
 obtain⟨k,rfl⟩:∃ m,k=m+1:=⟨k-1,by omega⟩
 rw[C_desk_line_act_45_1]
 simp only[Hold_eq]
 refine c_no (by decide +kernel) (?_)
 obtain⟨k,rfl⟩:∃ m,k=m+1:=⟨k-1,by omega⟩
 rw[C_desk_line_act_47_1]
 simp only[Hold_eq]
 refine c_no (by decide +kernel) (?_)
 obtain⟨k,rfl⟩:∃ m,k=m+1:=⟨k-1,by omega⟩
 rw[C_desk_line_act_49_1]
 simp only[Hold_eq]
 refine c_no (by decide +kernel) (?_)
 obtain⟨k,rfl⟩:∃ m,k=m+1:=⟨k-1,by omega⟩
 rw[C_desk_line_act_51_1]
 simp only[Hold_eq]
 refine c_yes (by decide +kernel) (?_)
 obtain⟨k,rfl⟩:∃ m,k=m+1:=⟨k-1,by omega⟩
 rw[C_desk_line_act_52_1]
 simp only[Hold_eq]
 refine plain1_s k hl hS hj1 (by omega) fun j2 m2 hj2 hd2=>?_
 rw[hd1] at hd2 ⊢
 refine plain1_s k hl hS hj2 (by omega) fun j3 m3 hj3 hd3=>?_
 rw[hd2] at hd3 ⊢
 obtain⟨k,rfl⟩:∃ m,k=m+1:=⟨k-1,by omega⟩
 rw[C_desk_line_act_68_1]
 exact h.1 _ _ hj3 hd3
def res_revoke(no:Bool)(l:List ByteArray)(i:Nat):S_api_Act×Bool×List ByteArray:=(S_api_Act.mk 5 0 0 (numP no (l.drop i)).1 (S_api_Command.mk 3 0 0 (plainP (numP no (l.drop i)).2.1 (numP no (l.drop i)).2.2).1 ByteArray.empty 0 (List.replicate 32 0)) 0 ByteArray.empty zH,(plainP (numP no (l.drop i)).2.1 (numP no (l.drop i)).2.2).2)
theorem act_revoke(k:Nat)(hk:100200<=k)(hl:l.length<=100000)(hS:Sh l)(hin:i+n=l.length)(h:AFin K1 K2 l (res_revoke no l i)):F_desk_line_act_s1 k str16 i n no l K1 K2:=by
 unfold res_revoke at h
 obtain⟨k,rfl⟩:∃ m,k=m+1:=⟨k-1,by omega⟩
 rw[F_desk_line_act_s1]
 simp only[Hold_eq]
 refine c_no (by decide +kernel) (c_no (by decide +kernel) (c_no (by decide +kernel) (c_no (by decide +kernel) (?_))))
 obtain⟨k,rfl⟩:∃ m,k=m+1:=⟨k-1,by omega⟩
 rw[C_desk_line_act_8_1]
 simp only[Hold_eq]
 refine c_no (by decide +kernel) (c_no (by decide +kernel) (c_no (by decide +kernel) (?_)))
 obtain⟨k,rfl⟩:∃ m,k=m+1:=⟨k-1,by omega⟩
 rw[C_desk_line_act_12_1]
 simp only[Hold_eq]
 refine c_no (by decide +kernel) (c_no (by decide +kernel) (c_no (by decide +kernel) (c_no (by decide +kernel) (c_yes (by decide +kernel) (c_yes (by decide +kernel) (?_))))))
 obtain⟨k,rfl⟩:∃ m,k=m+1:=⟨k-1,by omega⟩
 rw[C_desk_line_act_19_1]
 simp only[Hold_eq]
 refine number1_s k hl hS hin (by omega) fun j1 m1 hj1 hd1=>?_
 obtain⟨k,rfl⟩:∃ m,k=m+1:=⟨k-1,by omega⟩
 rw[C_desk_line_act_26_1]
 simp only[Hold_eq]
 obtain⟨k,rfl⟩:∃ m,k=m+1:=⟨k-1,by omega⟩
 rw[C_desk_line_act_27_1]
 simp only[Hold_eq]
 refine c_no (by decide +kernel) (?_)
 obtain⟨k,rfl⟩:∃ m,k=m+1:=⟨k-1,by omega⟩
 rw[C_desk_line_act_29_1]
 simp only[Hold_eq]
 refine c_no (by decide +kernel) (?_)
 obtain⟨k,rfl⟩:∃ m,k=m+1:=⟨k-1,by omega⟩
 rw[C_desk_line_act_31_1]
 simp only[Hold_eq]
 refine c_no (by decide +kernel) (?_)
 obtain⟨k,rfl⟩:∃ m,k=m+1:=⟨k-1,by omega⟩
 rw[C_desk_line_act_33_1]
 simp only[Hold_eq]
 refine c_no (by decide +kernel) (?_)
 obtain⟨k,rfl⟩:∃ m,k=m+1:=⟨k-1,by omega⟩
 rw[C_desk_line_act_35_1]
 simp only[Hold_eq]
 refine c_no (by decide +kernel) (?_)
 obtain⟨k,rfl⟩:∃ m,k=m+1:=⟨k-1,by omega⟩
 rw[C_desk_line_act_37_1]
 simp only[Hold_eq]
 refine c_no (by decide +kernel) (?_)
 obtain⟨k,rfl⟩:∃ m,k=m+1:=⟨k-1,by omega⟩
 rw[C_desk_line_act_39_1]
 simp only[Hold_eq]
 refine c_no (by decide +kernel) (?_)
 obtain⟨k,rfl⟩:∃ m,k=m+1:=⟨k-1,by omega⟩
 rw[C_desk_line_act_41_1]
 simp only[Hold_eq]
 refine c_no (by decide +kernel) (?_)
 obtain⟨k,rfl⟩:∃ m,k=m+1:=⟨k-1,by omega⟩
 rw[C_desk_line_act_43_1]
 simp only[Hold_eq]
 refine c_no (by decide +kernel) (?_)
 obtain⟨k,rfl⟩:∃ m,k=m+1:=⟨k-1,by omega⟩
 rw[C_desk_line_act_45_1]
 simp only[Hold_eq]
 refine c_no (by decide +kernel) (?_)
 obtain⟨k,rfl⟩:∃ m,k=m+1:=⟨k-1,by omega⟩
 rw[C_desk_line_act_47_1]
 simp only[Hold_eq]
 refine c_no (by decide +kernel) (?_)
 obtain⟨k,rfl⟩:∃ m,k=m+1:=⟨k-1,by omega⟩
 rw[C_desk_line_act_49_1]
 simp only[Hold_eq]
 refine c_no (by decide +kernel) (?_)
 obtain⟨k,rfl⟩:∃ m,k=m+1:=⟨k-1,by omega⟩
 rw[C_desk_line_act_51_1]
 simp only[Hold_eq]
 refine c_no (by decide +kernel) (?_)
 obtain⟨k,rfl⟩:∃ m,k=m+1:=⟨k-1,by omega⟩
 rw[C_desk_line_act_53_1]
 simp only[Hold_eq]
 refine c_yes (by decide +kernel) (?_)
 obtain⟨k,rfl⟩:∃ m,k=m+1:=⟨k-1,by omega⟩
 rw[C_desk_line_act_54_1]
 simp only[Hold_eq]
 refine plain1_s k hl hS hj1 (by omega) fun j2 m2 hj2 hd2=>?_
 rw[hd1] at hd2 ⊢
 obtain⟨k,rfl⟩:∃ m,k=m+1:=⟨k-1,by omega⟩
 rw[C_desk_line_act_68_1]
 exact h.1 _ _ hj2 hd2
def res_sign(no:Bool)(l:List ByteArray)(i:Nat):S_api_Act×Bool×List ByteArray:=(S_api_Act.mk 11 (numP no (l.drop i)).1 (numP (numP no (l.drop i)).2.1 (numP no (l.drop i)).2.2).1 0 zC 0 ByteArray.empty zH,(numP (numP no (l.drop i)).2.1 (numP no (l.drop i)).2.2).2)
theorem act_sign(k:Nat)(hk:100200<=k)(hl:l.length<=100000)(hS:Sh l)(hin:i+n=l.length)(h:AFin K1 K2 l (res_sign no l i)):F_desk_line_act_s1 k str17 i n no l K1 K2:=by
 unfold res_sign at h
 obtain⟨k,rfl⟩:∃ m,k=m+1:=⟨k-1,by omega⟩
 rw[F_desk_line_act_s1]
 simp only[Hold_eq]
 refine c_no (by decide +kernel) (c_no (by decide +kernel) (c_no (by decide +kernel) (c_no (by decide +kernel) (?_))))
 obtain⟨k,rfl⟩:∃ m,k=m+1:=⟨k-1,by omega⟩
 rw[C_desk_line_act_8_1]
 simp only[Hold_eq]
 refine c_no (by decide +kernel) (c_no (by decide +kernel) (c_no (by decide +kernel) (?_)))
 obtain⟨k,rfl⟩:∃ m,k=m+1:=⟨k-1,by omega⟩
 rw[C_desk_line_act_12_1]
 simp only[Hold_eq]
 refine c_no (by decide +kernel) (c_no (by decide +kernel) (c_no (by decide +kernel) (c_no (by decide +kernel) (c_no (by decide +kernel) (c_no (by decide +kernel) (c_no (by decide +kernel) (?_)))))))
 obtain⟨k,rfl⟩:∃ m,k=m+1:=⟨k-1,by omega⟩
 rw[C_desk_line_act_20_1]
 simp only[Hold_eq]
 refine c_yes (by decide +kernel) (c_yes (by decide +kernel) (?_))
 obtain⟨k,rfl⟩:∃ m,k=m+1:=⟨k-1,by omega⟩
 rw[C_desk_line_act_25_1]
 simp only[Hold_eq]
 refine number1_s k hl hS hin (by omega) fun j1 m1 hj1 hd1=>?_
 obtain⟨k,rfl⟩:∃ m,k=m+1:=⟨k-1,by omega⟩
 rw[C_desk_line_act_26_1]
 simp only[Hold_eq]
 obtain⟨k,rfl⟩:∃ m,k=m+1:=⟨k-1,by omega⟩
 rw[C_desk_line_act_27_1]
 simp only[Hold_eq]
 refine c_no (by decide +kernel) (?_)
 obtain⟨k,rfl⟩:∃ m,k=m+1:=⟨k-1,by omega⟩
 rw[C_desk_line_act_29_1]
 simp only[Hold_eq]
 refine c_no (by decide +kernel) (?_)
 obtain⟨k,rfl⟩:∃ m,k=m+1:=⟨k-1,by omega⟩
 rw[C_desk_line_act_31_1]
 simp only[Hold_eq]
 refine c_no (by decide +kernel) (?_)
 obtain⟨k,rfl⟩:∃ m,k=m+1:=⟨k-1,by omega⟩
 rw[C_desk_line_act_33_1]
 simp only[Hold_eq]
 refine c_no (by decide +kernel) (?_)
 obtain⟨k,rfl⟩:∃ m,k=m+1:=⟨k-1,by omega⟩
 rw[C_desk_line_act_35_1]
 simp only[Hold_eq]
 refine c_no (by decide +kernel) (?_)
 obtain⟨k,rfl⟩:∃ m,k=m+1:=⟨k-1,by omega⟩
 rw[C_desk_line_act_37_1]
 simp only[Hold_eq]
 refine c_no (by decide +kernel) (?_)
 obtain⟨k,rfl⟩:∃ m,k=m+1:=⟨k-1,by omega⟩
 rw[C_desk_line_act_39_1]
 simp only[Hold_eq]
 refine c_no (by decide +kernel) (?_)
 obtain⟨k,rfl⟩:∃ m,k=m+1:=⟨k-1,by omega⟩
 rw[C_desk_line_act_41_1]
 simp only[Hold_eq]
 refine c_no (by decide +kernel) (?_)
 obtain⟨k,rfl⟩:∃ m,k=m+1:=⟨k-1,by omega⟩
 rw[C_desk_line_act_43_1]
 simp only[Hold_eq]
 refine c_no (by decide +kernel) (?_)
 obtain⟨k,rfl⟩:∃ m,k=m+1:=⟨k-1,by omega⟩
 rw[C_desk_line_act_45_1]
 simp only[Hold_eq]
 refine c_no (by decide +kernel) (?_)
 obtain⟨k,rfl⟩:∃ m,k=m+1:=⟨k-1,by omega⟩
 rw[C_desk_line_act_47_1]
 simp only[Hold_eq]
 refine c_no (by decide +kernel) (?_)
 obtain⟨k,rfl⟩:∃ m,k=m+1:=⟨k-1,by omega⟩
 rw[C_desk_line_act_49_1]
 simp only[Hold_eq]
 refine c_no (by decide +kernel) (?_)
 obtain⟨k,rfl⟩:∃ m,k=m+1:=⟨k-1,by omega⟩
 rw[C_desk_line_act_51_1]
 simp only[Hold_eq]
 refine c_no (by decide +kernel) (?_)
 obtain⟨k,rfl⟩:∃ m,k=m+1:=⟨k-1,by omega⟩
 rw[C_desk_line_act_53_1]
 simp only[Hold_eq]
 refine c_no (by decide +kernel) (?_)
 obtain⟨k,rfl⟩:∃ m,k=m+1:=⟨k-1,by omega⟩
 rw[C_desk_line_act_55_1]
 simp only[Hold_eq]
 refine c_yes (by decide +kernel) (?_)
 obtain⟨k,rfl⟩:∃ m,k=m+1:=⟨k-1,by omega⟩
 rw[C_desk_line_act_56_1]
 simp only[Hold_eq]
 refine number1_s k hl hS hj1 (by omega) fun j2 m2 hj2 hd2=>?_
 rw[hd1] at hd2 ⊢
 obtain⟨k,rfl⟩:∃ m,k=m+1:=⟨k-1,by omega⟩
 rw[C_desk_line_act_68_1]
 exact h.1 _ _ hj2 hd2
def res_crash(no:Bool)(l:List ByteArray)(i:Nat):S_api_Act×Bool×List ByteArray:=if (numP no (l.drop i)).2.2=[str19] then (S_api_Act.mk 12 (numP no (l.drop i)).1 (-1) 0 zC 0 ByteArray.empty zH,(numP no (l.drop i)).2.1,[]) else (S_api_Act.mk 12 (numP no (l.drop i)).1 (numP (numP no (l.drop i)).2.1 (numP no (l.drop i)).2.2).1 0 zC 0 ByteArray.empty zH,(numP (numP no (l.drop i)).2.1 (numP no (l.drop i)).2.2).2)
theorem act_crash(k:Nat)(hk:100200<=k)(hl:l.length<=100000)(hS:Sh l)(hin:i+n=l.length)(h:AFin K1 K2 l (res_crash no l i)):F_desk_line_act_s1 k str18 i n no l K1 K2:=by
 unfold res_crash at h
 obtain⟨k,rfl⟩:∃ m,k=m+1:=⟨k-1,by omega⟩
 rw[F_desk_line_act_s1]
 simp only[Hold_eq]
 refine c_no (by decide +kernel) (c_no (by decide +kernel) (c_no (by decide +kernel) (c_no (by decide +kernel) (?_))))
 obtain⟨k,rfl⟩:∃ m,k=m+1:=⟨k-1,by omega⟩
 rw[C_desk_line_act_8_1]
 simp only[Hold_eq]
 refine c_no (by decide +kernel) (c_no (by decide +kernel) (c_no (by decide +kernel) (?_)))
 obtain⟨k,rfl⟩:∃ m,k=m+1:=⟨k-1,by omega⟩
 rw[C_desk_line_act_12_1]
 simp only[Hold_eq]
 refine c_no (by decide +kernel) (c_no (by decide +kernel) (c_no (by decide +kernel) (c_no (by decide +kernel) (c_no (by decide +kernel) (c_no (by decide +kernel) (c_no (by decide +kernel) (?_)))))))
 obtain⟨k,rfl⟩:∃ m,k=m+1:=⟨k-1,by omega⟩
 rw[C_desk_line_act_20_1]
 simp only[Hold_eq]
 refine c_no (by decide +kernel) (c_yes (by decide +kernel) (c_yes (by decide +kernel) (?_)))
 obtain⟨k,rfl⟩:∃ m,k=m+1:=⟨k-1,by omega⟩
 rw[C_desk_line_act_25_1]
 simp only[Hold_eq]
 refine number1_s k hl hS hin (by omega) fun j1 m1 hj1 hd1=>?_
 obtain⟨k,rfl⟩:∃ m,k=m+1:=⟨k-1,by omega⟩
 rw[C_desk_line_act_26_1]
 simp only[Hold_eq]
 obtain⟨k,rfl⟩:∃ m,k=m+1:=⟨k-1,by omega⟩
 rw[C_desk_line_act_27_1]
 simp only[Hold_eq]
 refine c_no (by decide +kernel) (?_)
 obtain⟨k,rfl⟩:∃ m,k=m+1:=⟨k-1,by omega⟩
 rw[C_desk_line_act_29_1]
 simp only[Hold_eq]
 refine c_no (by decide +kernel) (?_)
 obtain⟨k,rfl⟩:∃ m,k=m+1:=⟨k-1,by omega⟩
 rw[C_desk_line_act_31_1]
 simp only[Hold_eq]
 refine c_no (by decide +kernel) (?_)
 obtain⟨k,rfl⟩:∃ m,k=m+1:=⟨k-1,by omega⟩
 rw[C_desk_line_act_33_1]
 simp only[Hold_eq]
 refine c_no (by decide +kernel) (?_)
 obtain⟨k,rfl⟩:∃ m,k=m+1:=⟨k-1,by omega⟩
 rw[C_desk_line_act_35_1]
 simp only[Hold_eq]
 refine c_no (by decide +kernel) (?_)
 obtain⟨k,rfl⟩:∃ m,k=m+1:=⟨k-1,by omega⟩
 rw[C_desk_line_act_37_1]
 simp only[Hold_eq]
 refine c_no (by decide +kernel) (?_)
 obtain⟨k,rfl⟩:∃ m,k=m+1:=⟨k-1,by omega⟩
 rw[C_desk_line_act_39_1]
 simp only[Hold_eq]
 refine c_no (by decide +kernel) (?_)
 obtain⟨k,rfl⟩:∃ m,k=m+1:=⟨k-1,by omega⟩
 rw[C_desk_line_act_41_1]
 simp only[Hold_eq]
 refine c_no (by decide +kernel) (?_)
 obtain⟨k,rfl⟩:∃ m,k=m+1:=⟨k-1,by omega⟩
 rw[C_desk_line_act_43_1]
 simp only[Hold_eq]
 refine c_no (by decide +kernel) (?_)
 obtain⟨k,rfl⟩:∃ m,k=m+1:=⟨k-1,by omega⟩
 rw[C_desk_line_act_45_1]
 simp only[Hold_eq]
 refine c_no (by decide +kernel) (?_)
 obtain⟨k,rfl⟩:∃ m,k=m+1:=⟨k-1,by omega⟩
 rw[C_desk_line_act_47_1]
 simp only[Hold_eq]
 refine c_no (by decide +kernel) (?_)
 obtain⟨k,rfl⟩:∃ m,k=m+1:=⟨k-1,by omega⟩
 rw[C_desk_line_act_49_1]
 simp only[Hold_eq]
 refine c_no (by decide +kernel) (?_)
 obtain⟨k,rfl⟩:∃ m,k=m+1:=⟨k-1,by omega⟩
 rw[C_desk_line_act_51_1]
 simp only[Hold_eq]
 refine c_no (by decide +kernel) (?_)
 obtain⟨k,rfl⟩:∃ m,k=m+1:=⟨k-1,by omega⟩
 rw[C_desk_line_act_53_1]
 simp only[Hold_eq]
 refine c_no (by decide +kernel) (?_)
 obtain⟨k,rfl⟩:∃ m,k=m+1:=⟨k-1,by omega⟩
 rw[C_desk_line_act_55_1]
 simp only[Hold_eq]
 refine c_no (by decide +kernel) (?_)
 obtain⟨k,rfl⟩:∃ m,k=m+1:=⟨k-1,by omega⟩
 rw[C_desk_line_act_57_1]
 simp only[Hold_eq]
 refine c_yes (by decide +kernel) (?_)
 obtain⟨k,rfl⟩:∃ m,k=m+1:=⟨k-1,by omega⟩
 rw[C_desk_line_act_59_1]
 simp only[Hold_eq]
 have hlen:=congrArg List.length hd1
 rw[List.length_drop] at hlen
 rw[cut_drop hj1,hd1]
 refine equal_s k (by omega) (by omega) (cond_dec (fun g=>?_) (fun g=>?_))
 ·obtain⟨k,rfl⟩:∃ m,k=m+1:=⟨k-1,by omega⟩
  rw[C_desk_line_act_68_2]
  rw[if_pos g] at h;exact h.2 rfl
 ·rw[if_neg g] at h
  obtain⟨k,rfl⟩:∃ m,k=m+1:=⟨k-1,by omega⟩
  rw[C_desk_line_act_61_1]
  simp only[Hold_eq]
  refine number1_s k hl hS hj1 (by omega) fun j2 m2 hj2 hd2=>?_
  rw[hd1] at hd2 ⊢
  obtain⟨k,rfl⟩:∃ m,k=m+1:=⟨k-1,by omega⟩
  rw[C_desk_line_act_68_1]
  exact h.1 _ _ hj2 hd2
def res_learner(no:Bool)(l:List ByteArray)(i:Nat):S_api_Act×Bool×List ByteArray:=(S_api_Act.mk 8 (numP no (l.drop i)).1 0 0 zC 0 ByteArray.empty (S_api_Change.mk 1 (numP (numP no (l.drop i)).2.1 (numP no (l.drop i)).2.2).1),(numP (numP no (l.drop i)).2.1 (numP no (l.drop i)).2.2).2)
theorem act_learner(k:Nat)(hk:100200<=k)(hl:l.length<=100000)(hS:Sh l)(hin:i+n=l.length)(h:AFin K1 K2 l (res_learner no l i)):F_desk_line_act_s1 k str20 i n no l K1 K2:=by
 unfold res_learner at h
 obtain⟨k,rfl⟩:∃ m,k=m+1:=⟨k-1,by omega⟩
 rw[F_desk_line_act_s1]
 simp only[Hold_eq]
 refine c_no (by decide +kernel) (c_no (by decide +kernel) (c_no (by decide +kernel) (c_no (by decide +kernel) (?_))))
 obtain⟨k,rfl⟩:∃ m,k=m+1:=⟨k-1,by omega⟩
 rw[C_desk_line_act_8_1]
 simp only[Hold_eq]
 refine c_no (by decide +kernel) (c_no (by decide +kernel) (c_no (by decide +kernel) (?_)))
 obtain⟨k,rfl⟩:∃ m,k=m+1:=⟨k-1,by omega⟩
 rw[C_desk_line_act_12_1]
 simp only[Hold_eq]
 refine c_no (by decide +kernel) (c_no (by decide +kernel) (c_no (by decide +kernel) (c_no (by decide +kernel) (c_no (by decide +kernel) (c_no (by decide +kernel) (c_no (by decide +kernel) (?_)))))))
 obtain⟨k,rfl⟩:∃ m,k=m+1:=⟨k-1,by omega⟩
 rw[C_desk_line_act_20_1]
 simp only[Hold_eq]
 refine c_no (by decide +kernel) (c_no (by decide +kernel) (c_yes (by decide +kernel) (c_yes (by decide +kernel) (?_))))
 obtain⟨k,rfl⟩:∃ m,k=m+1:=⟨k-1,by omega⟩
 rw[C_desk_line_act_25_1]
 simp only[Hold_eq]
 refine number1_s k hl hS hin (by omega) fun j1 m1 hj1 hd1=>?_
 obtain⟨k,rfl⟩:∃ m,k=m+1:=⟨k-1,by omega⟩
 rw[C_desk_line_act_26_1]
 simp only[Hold_eq]
 obtain⟨k,rfl⟩:∃ m,k=m+1:=⟨k-1,by omega⟩
 rw[C_desk_line_act_27_1]
 simp only[Hold_eq]
 refine c_no (by decide +kernel) (?_)
 obtain⟨k,rfl⟩:∃ m,k=m+1:=⟨k-1,by omega⟩
 rw[C_desk_line_act_29_1]
 simp only[Hold_eq]
 refine c_no (by decide +kernel) (?_)
 obtain⟨k,rfl⟩:∃ m,k=m+1:=⟨k-1,by omega⟩
 rw[C_desk_line_act_31_1]
 simp only[Hold_eq]
 refine c_no (by decide +kernel) (?_)
 obtain⟨k,rfl⟩:∃ m,k=m+1:=⟨k-1,by omega⟩
 rw[C_desk_line_act_33_1]
 simp only[Hold_eq]
 refine c_no (by decide +kernel) (?_)
 obtain⟨k,rfl⟩:∃ m,k=m+1:=⟨k-1,by omega⟩
 rw[C_desk_line_act_35_1]
 simp only[Hold_eq]
 refine c_no (by decide +kernel) (?_)
 obtain⟨k,rfl⟩:∃ m,k=m+1:=⟨k-1,by omega⟩
 rw[C_desk_line_act_37_1]
 simp only[Hold_eq]
 refine c_no (by decide +kernel) (?_)
 obtain⟨k,rfl⟩:∃ m,k=m+1:=⟨k-1,by omega⟩
 rw[C_desk_line_act_39_1]
 simp only[Hold_eq]
 refine c_no (by decide +kernel) (?_)
 obtain⟨k,rfl⟩:∃ m,k=m+1:=⟨k-1,by omega⟩
 rw[C_desk_line_act_41_1]
 simp only[Hold_eq]
 refine c_no (by decide +kernel) (?_)
 obtain⟨k,rfl⟩:∃ m,k=m+1:=⟨k-1,by omega⟩
 rw[C_desk_line_act_43_1]
 simp only[Hold_eq]
 refine c_no (by decide +kernel) (?_)
 obtain⟨k,rfl⟩:∃ m,k=m+1:=⟨k-1,by omega⟩
 rw[C_desk_line_act_45_1]
 simp only[Hold_eq]
 refine c_no (by decide +kernel) (?_)
 obtain⟨k,rfl⟩:∃ m,k=m+1:=⟨k-1,by omega⟩
 rw[C_desk_line_act_47_1]
 simp only[Hold_eq]
 refine c_no (by decide +kernel) (?_)
 obtain⟨k,rfl⟩:∃ m,k=m+1:=⟨k-1,by omega⟩
 rw[C_desk_line_act_49_1]
 simp only[Hold_eq]
 refine c_no (by decide +kernel) (?_)
 obtain⟨k,rfl⟩:∃ m,k=m+1:=⟨k-1,by omega⟩
 rw[C_desk_line_act_51_1]
 simp only[Hold_eq]
 refine c_no (by decide +kernel) (?_)
 obtain⟨k,rfl⟩:∃ m,k=m+1:=⟨k-1,by omega⟩
 rw[C_desk_line_act_53_1]
 simp only[Hold_eq]
 refine c_no (by decide +kernel) (?_)
 obtain⟨k,rfl⟩:∃ m,k=m+1:=⟨k-1,by omega⟩
 rw[C_desk_line_act_55_1]
 simp only[Hold_eq]
 refine c_no (by decide +kernel) (?_)
 obtain⟨k,rfl⟩:∃ m,k=m+1:=⟨k-1,by omega⟩
 rw[C_desk_line_act_57_1]
 simp only[Hold_eq]
 refine c_no (by decide +kernel) (?_)
 obtain⟨k,rfl⟩:∃ m,k=m+1:=⟨k-1,by omega⟩
 rw[C_desk_line_act_62_1]
 simp only[Hold_eq]
 refine c_yes (by decide +kernel) (?_)
 obtain⟨k,rfl⟩:∃ m,k=m+1:=⟨k-1,by omega⟩
 rw[C_desk_line_act_63_1]
 simp only[Hold_eq]
 refine number1_s k hl hS hj1 (by omega) fun j2 m2 hj2 hd2=>?_
 rw[hd1] at hd2 ⊢
 obtain⟨k,rfl⟩:∃ m,k=m+1:=⟨k-1,by omega⟩
 rw[C_desk_line_act_68_1]
 exact h.1 _ _ hj2 hd2
def res_voter(no:Bool)(l:List ByteArray)(i:Nat):S_api_Act×Bool×List ByteArray:=(S_api_Act.mk 8 (numP no (l.drop i)).1 0 0 zC 0 ByteArray.empty (S_api_Change.mk 2 (numP (numP no (l.drop i)).2.1 (numP no (l.drop i)).2.2).1),(numP (numP no (l.drop i)).2.1 (numP no (l.drop i)).2.2).2)
theorem act_voter(k:Nat)(hk:100200<=k)(hl:l.length<=100000)(hS:Sh l)(hin:i+n=l.length)(h:AFin K1 K2 l (res_voter no l i)):F_desk_line_act_s1 k str21 i n no l K1 K2:=by
 unfold res_voter at h
 obtain⟨k,rfl⟩:∃ m,k=m+1:=⟨k-1,by omega⟩
 rw[F_desk_line_act_s1]
 simp only[Hold_eq]
 refine c_no (by decide +kernel) (c_no (by decide +kernel) (c_no (by decide +kernel) (c_no (by decide +kernel) (?_))))
 obtain⟨k,rfl⟩:∃ m,k=m+1:=⟨k-1,by omega⟩
 rw[C_desk_line_act_8_1]
 simp only[Hold_eq]
 refine c_no (by decide +kernel) (c_no (by decide +kernel) (c_no (by decide +kernel) (?_)))
 obtain⟨k,rfl⟩:∃ m,k=m+1:=⟨k-1,by omega⟩
 rw[C_desk_line_act_12_1]
 simp only[Hold_eq]
 refine c_no (by decide +kernel) (c_no (by decide +kernel) (c_no (by decide +kernel) (c_no (by decide +kernel) (c_no (by decide +kernel) (c_no (by decide +kernel) (c_no (by decide +kernel) (?_)))))))
 obtain⟨k,rfl⟩:∃ m,k=m+1:=⟨k-1,by omega⟩
 rw[C_desk_line_act_20_1]
 simp only[Hold_eq]
 refine c_no (by decide +kernel) (c_no (by decide +kernel) (c_no (by decide +kernel) (c_yes (by decide +kernel) (c_yes (by decide +kernel) (?_)))))
 obtain⟨k,rfl⟩:∃ m,k=m+1:=⟨k-1,by omega⟩
 rw[C_desk_line_act_25_1]
 simp only[Hold_eq]
 refine number1_s k hl hS hin (by omega) fun j1 m1 hj1 hd1=>?_
 obtain⟨k,rfl⟩:∃ m,k=m+1:=⟨k-1,by omega⟩
 rw[C_desk_line_act_26_1]
 simp only[Hold_eq]
 obtain⟨k,rfl⟩:∃ m,k=m+1:=⟨k-1,by omega⟩
 rw[C_desk_line_act_27_1]
 simp only[Hold_eq]
 refine c_no (by decide +kernel) (?_)
 obtain⟨k,rfl⟩:∃ m,k=m+1:=⟨k-1,by omega⟩
 rw[C_desk_line_act_29_1]
 simp only[Hold_eq]
 refine c_no (by decide +kernel) (?_)
 obtain⟨k,rfl⟩:∃ m,k=m+1:=⟨k-1,by omega⟩
 rw[C_desk_line_act_31_1]
 simp only[Hold_eq]
 refine c_no (by decide +kernel) (?_)
 obtain⟨k,rfl⟩:∃ m,k=m+1:=⟨k-1,by omega⟩
 rw[C_desk_line_act_33_1]
 simp only[Hold_eq]
 refine c_no (by decide +kernel) (?_)
 obtain⟨k,rfl⟩:∃ m,k=m+1:=⟨k-1,by omega⟩
 rw[C_desk_line_act_35_1]
 simp only[Hold_eq]
 refine c_no (by decide +kernel) (?_)
 obtain⟨k,rfl⟩:∃ m,k=m+1:=⟨k-1,by omega⟩
 rw[C_desk_line_act_37_1]
 simp only[Hold_eq]
 refine c_no (by decide +kernel) (?_)
 obtain⟨k,rfl⟩:∃ m,k=m+1:=⟨k-1,by omega⟩
 rw[C_desk_line_act_39_1]
 simp only[Hold_eq]
 refine c_no (by decide +kernel) (?_)
 obtain⟨k,rfl⟩:∃ m,k=m+1:=⟨k-1,by omega⟩
 rw[C_desk_line_act_41_1]
 simp only[Hold_eq]
 refine c_no (by decide +kernel) (?_)
 obtain⟨k,rfl⟩:∃ m,k=m+1:=⟨k-1,by omega⟩
 rw[C_desk_line_act_43_1]
 simp only[Hold_eq]
 refine c_no (by decide +kernel) (?_)
 obtain⟨k,rfl⟩:∃ m,k=m+1:=⟨k-1,by omega⟩
 rw[C_desk_line_act_45_1]
 simp only[Hold_eq]
 refine c_no (by decide +kernel) (?_)
 obtain⟨k,rfl⟩:∃ m,k=m+1:=⟨k-1,by omega⟩
 rw[C_desk_line_act_47_1]
 simp only[Hold_eq]
 refine c_no (by decide +kernel) (?_)
 obtain⟨k,rfl⟩:∃ m,k=m+1:=⟨k-1,by omega⟩
 rw[C_desk_line_act_49_1]
 simp only[Hold_eq]
 refine c_no (by decide +kernel) (?_)
 obtain⟨k,rfl⟩:∃ m,k=m+1:=⟨k-1,by omega⟩
 rw[C_desk_line_act_51_1]
 simp only[Hold_eq]
 refine c_no (by decide +kernel) (?_)
 obtain⟨k,rfl⟩:∃ m,k=m+1:=⟨k-1,by omega⟩
 rw[C_desk_line_act_53_1]
 simp only[Hold_eq]
 refine c_no (by decide +kernel) (?_)
 obtain⟨k,rfl⟩:∃ m,k=m+1:=⟨k-1,by omega⟩
 rw[C_desk_line_act_55_1]
 simp only[Hold_eq]
 refine c_no (by decide +kernel) (?_)
 obtain⟨k,rfl⟩:∃ m,k=m+1:=⟨k-1,by omega⟩
 rw[C_desk_line_act_57_1]
 simp only[Hold_eq]
 refine c_no (by decide +kernel) (?_)
 obtain⟨k,rfl⟩:∃ m,k=m+1:=⟨k-1,by omega⟩
 rw[C_desk_line_act_62_1]
 simp only[Hold_eq]
 refine c_no (by decide +kernel) (?_)
 obtain⟨k,rfl⟩:∃ m,k=m+1:=⟨k-1,by omega⟩
 rw[C_desk_line_act_64_1]
 simp only[Hold_eq]
 refine c_yes (by decide +kernel) (?_)
 obtain⟨k,rfl⟩:∃ m,k=m+1:=⟨k-1,by omega⟩
 rw[C_desk_line_act_65_1]
 simp only[Hold_eq]
 refine number1_s k hl hS hj1 (by omega) fun j2 m2 hj2 hd2=>?_
 rw[hd1] at hd2 ⊢
 obtain⟨k,rfl⟩:∃ m,k=m+1:=⟨k-1,by omega⟩
 rw[C_desk_line_act_68_1]
 exact h.1 _ _ hj2 hd2
def res_leave(no:Bool)(l:List ByteArray)(i:Nat):S_api_Act×Bool×List ByteArray:=(S_api_Act.mk 8 (numP no (l.drop i)).1 0 0 zC 0 ByteArray.empty (S_api_Change.mk 3 (numP (numP no (l.drop i)).2.1 (numP no (l.drop i)).2.2).1),(numP (numP no (l.drop i)).2.1 (numP no (l.drop i)).2.2).2)
theorem act_leave(k:Nat)(hk:100200<=k)(hl:l.length<=100000)(hS:Sh l)(hin:i+n=l.length)(h:AFin K1 K2 l (res_leave no l i)):F_desk_line_act_s1 k str22 i n no l K1 K2:=by
 unfold res_leave at h
 obtain⟨k,rfl⟩:∃ m,k=m+1:=⟨k-1,by omega⟩
 rw[F_desk_line_act_s1]
 simp only[Hold_eq]
 refine c_no (by decide +kernel) (c_no (by decide +kernel) (c_no (by decide +kernel) (c_no (by decide +kernel) (?_))))
 obtain⟨k,rfl⟩:∃ m,k=m+1:=⟨k-1,by omega⟩
 rw[C_desk_line_act_8_1]
 simp only[Hold_eq]
 refine c_no (by decide +kernel) (c_no (by decide +kernel) (c_no (by decide +kernel) (?_)))
 obtain⟨k,rfl⟩:∃ m,k=m+1:=⟨k-1,by omega⟩
 rw[C_desk_line_act_12_1]
 simp only[Hold_eq]
 refine c_no (by decide +kernel) (c_no (by decide +kernel) (c_no (by decide +kernel) (c_no (by decide +kernel) (c_no (by decide +kernel) (c_no (by decide +kernel) (c_no (by decide +kernel) (?_)))))))
 obtain⟨k,rfl⟩:∃ m,k=m+1:=⟨k-1,by omega⟩
 rw[C_desk_line_act_20_1]
 simp only[Hold_eq]
 refine c_no (by decide +kernel) (c_no (by decide +kernel) (c_no (by decide +kernel) (c_no (by decide +kernel) (c_yes (by decide +kernel) (?_)))))
 obtain⟨k,rfl⟩:∃ m,k=m+1:=⟨k-1,by omega⟩
 rw[C_desk_line_act_25_1]
 simp only[Hold_eq]
 refine number1_s k hl hS hin (by omega) fun j1 m1 hj1 hd1=>?_
 obtain⟨k,rfl⟩:∃ m,k=m+1:=⟨k-1,by omega⟩
 rw[C_desk_line_act_26_1]
 simp only[Hold_eq]
 obtain⟨k,rfl⟩:∃ m,k=m+1:=⟨k-1,by omega⟩
 rw[C_desk_line_act_27_1]
 simp only[Hold_eq]
 refine c_no (by decide +kernel) (?_)
 obtain⟨k,rfl⟩:∃ m,k=m+1:=⟨k-1,by omega⟩
 rw[C_desk_line_act_29_1]
 simp only[Hold_eq]
 refine c_no (by decide +kernel) (?_)
 obtain⟨k,rfl⟩:∃ m,k=m+1:=⟨k-1,by omega⟩
 rw[C_desk_line_act_31_1]
 simp only[Hold_eq]
 refine c_no (by decide +kernel) (?_)
 obtain⟨k,rfl⟩:∃ m,k=m+1:=⟨k-1,by omega⟩
 rw[C_desk_line_act_33_1]
 simp only[Hold_eq]
 refine c_no (by decide +kernel) (?_)
 obtain⟨k,rfl⟩:∃ m,k=m+1:=⟨k-1,by omega⟩
 rw[C_desk_line_act_35_1]
 simp only[Hold_eq]
 refine c_no (by decide +kernel) (?_)
 obtain⟨k,rfl⟩:∃ m,k=m+1:=⟨k-1,by omega⟩
 rw[C_desk_line_act_37_1]
 simp only[Hold_eq]
 refine c_no (by decide +kernel) (?_)
 obtain⟨k,rfl⟩:∃ m,k=m+1:=⟨k-1,by omega⟩
 rw[C_desk_line_act_39_1]
 simp only[Hold_eq]
 refine c_no (by decide +kernel) (?_)
 obtain⟨k,rfl⟩:∃ m,k=m+1:=⟨k-1,by omega⟩
 rw[C_desk_line_act_41_1]
 simp only[Hold_eq]
 refine c_no (by decide +kernel) (?_)
 obtain⟨k,rfl⟩:∃ m,k=m+1:=⟨k-1,by omega⟩
 rw[C_desk_line_act_43_1]
 simp only[Hold_eq]
 refine c_no (by decide +kernel) (?_)
 obtain⟨k,rfl⟩:∃ m,k=m+1:=⟨k-1,by omega⟩
 rw[C_desk_line_act_45_1]
 simp only[Hold_eq]
 refine c_no (by decide +kernel) (?_)
 obtain⟨k,rfl⟩:∃ m,k=m+1:=⟨k-1,by omega⟩
 rw[C_desk_line_act_47_1]
 simp only[Hold_eq]
 refine c_no (by decide +kernel) (?_)
 obtain⟨k,rfl⟩:∃ m,k=m+1:=⟨k-1,by omega⟩
 rw[C_desk_line_act_49_1]
 simp only[Hold_eq]
 refine c_no (by decide +kernel) (?_)
 obtain⟨k,rfl⟩:∃ m,k=m+1:=⟨k-1,by omega⟩
 rw[C_desk_line_act_51_1]
 simp only[Hold_eq]
 refine c_no (by decide +kernel) (?_)
 obtain⟨k,rfl⟩:∃ m,k=m+1:=⟨k-1,by omega⟩
 rw[C_desk_line_act_53_1]
 simp only[Hold_eq]
 refine c_no (by decide +kernel) (?_)
 obtain⟨k,rfl⟩:∃ m,k=m+1:=⟨k-1,by omega⟩
 rw[C_desk_line_act_55_1]
 simp only[Hold_eq]
 refine c_no (by decide +kernel) (?_)
 obtain⟨k,rfl⟩:∃ m,k=m+1:=⟨k-1,by omega⟩
 rw[C_desk_line_act_57_1]
 simp only[Hold_eq]
 refine c_no (by decide +kernel) (?_)
 obtain⟨k,rfl⟩:∃ m,k=m+1:=⟨k-1,by omega⟩
 rw[C_desk_line_act_62_1]
 simp only[Hold_eq]
 refine c_no (by decide +kernel) (?_)
 obtain⟨k,rfl⟩:∃ m,k=m+1:=⟨k-1,by omega⟩
 rw[C_desk_line_act_64_1]
 simp only[Hold_eq]
 refine c_no (by decide +kernel) (?_)
 obtain⟨k,rfl⟩:∃ m,k=m+1:=⟨k-1,by omega⟩
 rw[C_desk_line_act_66_1]
 simp only[Hold_eq]
 refine c_yes (by decide +kernel) (?_)
 obtain⟨k,rfl⟩:∃ m,k=m+1:=⟨k-1,by omega⟩
 rw[C_desk_line_act_67_1]
 simp only[Hold_eq]
 refine number1_s k hl hS hj1 (by omega) fun j2 m2 hj2 hd2=>?_
 rw[hd1] at hd2 ⊢
 obtain⟨k,rfl⟩:∃ m,k=m+1:=⟨k-1,by omega⟩
 rw[C_desk_line_act_68_1]
 exact h.1 _ _ hj2 hd2
theorem act_none(k:Nat)(hk:100200<=k)(hin:i+n=l.length){f:ByteArray}(hn:∀ s∈[str2,str3,str4,str5,str6,str7,str8,str9,str10,str11,str13,str14,str15,str16,str17,str18,str20,str21,str22],seq f s=false)(h:AFin K1 K2 l (zA,true,l.drop i)):F_desk_line_act_s1 k f i n no l K1 K2:=by
 obtain⟨k,rfl⟩:∃ m,k=m+1:=⟨k-1,by omega⟩
 rw[F_desk_line_act_s1]
 simp only[Hold_eq]
 refine c_no (hn _ (by simp)) (c_no (hn _ (by simp)) (c_no (hn _ (by simp)) (c_no (hn _ (by simp)) (?_))))
 obtain⟨k,rfl⟩:∃ m,k=m+1:=⟨k-1,by omega⟩
 rw[C_desk_line_act_8_1]
 simp only[Hold_eq]
 refine c_no (hn _ (by simp)) (c_no (hn _ (by simp)) (c_no (hn _ (by simp)) (?_)))
 obtain⟨k,rfl⟩:∃ m,k=m+1:=⟨k-1,by omega⟩
 rw[C_desk_line_act_12_1]
 simp only[Hold_eq]
 refine c_no (hn _ (by simp)) (c_no (hn _ (by simp)) (c_no (hn _ (by simp)) (c_no (hn _ (by simp)) (c_no (hn _ (by simp)) (c_no (hn _ (by simp)) (c_no (hn _ (by simp)) (?_)))))))
 obtain⟨k,rfl⟩:∃ m,k=m+1:=⟨k-1,by omega⟩
 rw[C_desk_line_act_20_1]
 simp only[Hold_eq]
 refine c_no (hn _ (by simp)) (c_no (hn _ (by simp)) (c_no (hn _ (by simp)) (c_no (hn _ (by simp)) (c_no (hn _ (by simp)) (?_)))))
 obtain⟨k,rfl⟩:∃ m,k=m+1:=⟨k-1,by omega⟩
 rw[C_desk_line_act_2_1]
 simp only[Hold_eq]
 obtain⟨k,rfl⟩:∃ m,k=m+1:=⟨k-1,by omega⟩
 rw[C_desk_line_act_26_1]
 simp only[Hold_eq]
 obtain⟨k,rfl⟩:∃ m,k=m+1:=⟨k-1,by omega⟩
 rw[C_desk_line_act_27_1]
 simp only[Hold_eq]
 refine c_no (hn _ (by simp)) (?_)
 obtain⟨k,rfl⟩:∃ m,k=m+1:=⟨k-1,by omega⟩
 rw[C_desk_line_act_29_1]
 simp only[Hold_eq]
 refine c_no (hn _ (by simp)) (?_)
 obtain⟨k,rfl⟩:∃ m,k=m+1:=⟨k-1,by omega⟩
 rw[C_desk_line_act_31_1]
 simp only[Hold_eq]
 refine c_no (hn _ (by simp)) (?_)
 obtain⟨k,rfl⟩:∃ m,k=m+1:=⟨k-1,by omega⟩
 rw[C_desk_line_act_33_1]
 simp only[Hold_eq]
 refine c_no (hn _ (by simp)) (?_)
 obtain⟨k,rfl⟩:∃ m,k=m+1:=⟨k-1,by omega⟩
 rw[C_desk_line_act_35_1]
 simp only[Hold_eq]
 refine c_no (hn _ (by simp)) (?_)
 obtain⟨k,rfl⟩:∃ m,k=m+1:=⟨k-1,by omega⟩
 rw[C_desk_line_act_37_1]
 simp only[Hold_eq]
 refine c_no (hn _ (by simp)) (?_)
 obtain⟨k,rfl⟩:∃ m,k=m+1:=⟨k-1,by omega⟩
 rw[C_desk_line_act_39_1]
 simp only[Hold_eq]
 refine c_no (hn _ (by simp)) (?_)
 obtain⟨k,rfl⟩:∃ m,k=m+1:=⟨k-1,by omega⟩
 rw[C_desk_line_act_41_1]
 simp only[Hold_eq]
 refine c_no (hn _ (by simp)) (?_)
 obtain⟨k,rfl⟩:∃ m,k=m+1:=⟨k-1,by omega⟩
 rw[C_desk_line_act_43_1]
 simp only[Hold_eq]
 refine c_no (hn _ (by simp)) (?_)
 obtain⟨k,rfl⟩:∃ m,k=m+1:=⟨k-1,by omega⟩
 rw[C_desk_line_act_45_1]
 simp only[Hold_eq]
 refine c_no (hn _ (by simp)) (?_)
 obtain⟨k,rfl⟩:∃ m,k=m+1:=⟨k-1,by omega⟩
 rw[C_desk_line_act_47_1]
 simp only[Hold_eq]
 refine c_no (hn _ (by simp)) (?_)
 obtain⟨k,rfl⟩:∃ m,k=m+1:=⟨k-1,by omega⟩
 rw[C_desk_line_act_49_1]
 simp only[Hold_eq]
 refine c_no (hn _ (by simp)) (?_)
 obtain⟨k,rfl⟩:∃ m,k=m+1:=⟨k-1,by omega⟩
 rw[C_desk_line_act_51_1]
 simp only[Hold_eq]
 refine c_no (hn _ (by simp)) (?_)
 obtain⟨k,rfl⟩:∃ m,k=m+1:=⟨k-1,by omega⟩
 rw[C_desk_line_act_53_1]
 simp only[Hold_eq]
 refine c_no (hn _ (by simp)) (?_)
 obtain⟨k,rfl⟩:∃ m,k=m+1:=⟨k-1,by omega⟩
 rw[C_desk_line_act_55_1]
 simp only[Hold_eq]
 refine c_no (hn _ (by simp)) (?_)
 obtain⟨k,rfl⟩:∃ m,k=m+1:=⟨k-1,by omega⟩
 rw[C_desk_line_act_57_1]
 simp only[Hold_eq]
 refine c_no (hn _ (by simp)) (?_)
 obtain⟨k,rfl⟩:∃ m,k=m+1:=⟨k-1,by omega⟩
 rw[C_desk_line_act_62_1]
 simp only[Hold_eq]
 refine c_no (hn _ (by simp)) (?_)
 obtain⟨k,rfl⟩:∃ m,k=m+1:=⟨k-1,by omega⟩
 rw[C_desk_line_act_64_1]
 simp only[Hold_eq]
 refine c_no (hn _ (by simp)) (?_)
 obtain⟨k,rfl⟩:∃ m,k=m+1:=⟨k-1,by omega⟩
 rw[C_desk_line_act_66_1]
 simp only[Hold_eq]
 refine c_no (hn _ (by simp)) (?_)
 obtain⟨k,rfl⟩:∃ m,k=m+1:=⟨k-1,by omega⟩
 rw[C_desk_line_act_68_1]
 exact h.1 _ _ hin rfl
def actM(f:ByteArray)(no:Bool)(l:List ByteArray)(i:Nat):S_api_Act×Bool×List ByteArray:=
 if f=str2 then res_tick no l i else if f=str3 then res_start no l i else if f=str4 then res_seal no l i else if f=str5 then res_intent no l i else if f=str6 then res_deliver no l i else if f=str7 then res_drop no l i else if f=str8 then res_double no l i else if f=str9 then res_retry no l i else if f=str10 then res_head no l i else if f=str11 then res_lookup no l i else if f=str13 then res_leased no l i else if f=str14 then res_put no l i else if f=str15 then res_rotate no l i else if f=str16 then res_revoke no l i else if f=str17 then res_sign no l i else if f=str18 then res_crash no l i else if f=str20 then res_learner no l i else if f=str21 then res_voter no l i else if f=str22 then res_leave no l i else (zA,true,l.drop i)
theorem act_s(k:Nat)(hk:100200<=k)(hl:l.length<=100000)(hS:Sh l)(hin:i+n=l.length){f:ByteArray}(h:AFin K1 K2 l (actM f no l i)):F_desk_line_act_s1 k f i n no l K1 K2:=by
 unfold actM at h
 by_cases e_tick:f=str2
 ·rw[if_pos e_tick] at h;rw[e_tick];exact act_tick k hk hl hS hin h
 rw[if_neg e_tick] at h
 by_cases e_start:f=str3
 ·rw[if_pos e_start] at h;rw[e_start];exact act_start k hk hl hS hin h
 rw[if_neg e_start] at h
 by_cases e_seal:f=str4
 ·rw[if_pos e_seal] at h;rw[e_seal];exact act_seal k hk hl hS hin h
 rw[if_neg e_seal] at h
 by_cases e_intent:f=str5
 ·rw[if_pos e_intent] at h;rw[e_intent];exact act_intent k hk hl hS hin h
 rw[if_neg e_intent] at h
 by_cases e_deliver:f=str6
 ·rw[if_pos e_deliver] at h;rw[e_deliver];exact act_deliver k hk hl hS hin h
 rw[if_neg e_deliver] at h
 by_cases e_drop:f=str7
 ·rw[if_pos e_drop] at h;rw[e_drop];exact act_drop k hk hl hS hin h
 rw[if_neg e_drop] at h
 by_cases e_double:f=str8
 ·rw[if_pos e_double] at h;rw[e_double];exact act_double k hk hl hS hin h
 rw[if_neg e_double] at h
 by_cases e_retry:f=str9
 ·rw[if_pos e_retry] at h;rw[e_retry];exact act_retry k hk hl hS hin h
 rw[if_neg e_retry] at h
 by_cases e_head:f=str10
 ·rw[if_pos e_head] at h;rw[e_head];exact act_head k hk hl hS hin h
 rw[if_neg e_head] at h
 by_cases e_lookup:f=str11
 ·rw[if_pos e_lookup] at h;rw[e_lookup];exact act_lookup k hk hl hS hin h
 rw[if_neg e_lookup] at h
 by_cases e_leased:f=str13
 ·rw[if_pos e_leased] at h;rw[e_leased];exact act_leased k hk hl hS hin h
 rw[if_neg e_leased] at h
 by_cases e_put:f=str14
 ·rw[if_pos e_put] at h;rw[e_put];exact act_put k hk hl hS hin h
 rw[if_neg e_put] at h
 by_cases e_rotate:f=str15
 ·rw[if_pos e_rotate] at h;rw[e_rotate];exact act_rotate k hk hl hS hin h
 rw[if_neg e_rotate] at h
 by_cases e_revoke:f=str16
 ·rw[if_pos e_revoke] at h;rw[e_revoke];exact act_revoke k hk hl hS hin h
 rw[if_neg e_revoke] at h
 by_cases e_sign:f=str17
 ·rw[if_pos e_sign] at h;rw[e_sign];exact act_sign k hk hl hS hin h
 rw[if_neg e_sign] at h
 by_cases e_crash:f=str18
 ·rw[if_pos e_crash] at h;rw[e_crash];exact act_crash k hk hl hS hin h
 rw[if_neg e_crash] at h
 by_cases e_learner:f=str20
 ·rw[if_pos e_learner] at h;rw[e_learner];exact act_learner k hk hl hS hin h
 rw[if_neg e_learner] at h
 by_cases e_voter:f=str21
 ·rw[if_pos e_voter] at h;rw[e_voter];exact act_voter k hk hl hS hin h
 rw[if_neg e_voter] at h
 by_cases e_leave:f=str22
 ·rw[if_pos e_leave] at h;rw[e_leave];exact act_leave k hk hl hS hin h
 rw[if_neg e_leave] at h
 refine act_none k hk hin (fun s hs=>?_) h
 simp only[List.mem_cons,List.not_mem_nil,or_false] at hs
 rcases hs with rfl|rfl|rfl|rfl|rfl|rfl|rfl|rfl|rfl|rfl|rfl|rfl|rfl|rfl|rfl|rfl|rfl|rfl|rfl
 all_goals (cases hq:seq f _ with|false=>rfl|true=>exact absurd (seq_iff.1 hq) (by assumption))
end
end Go.V
