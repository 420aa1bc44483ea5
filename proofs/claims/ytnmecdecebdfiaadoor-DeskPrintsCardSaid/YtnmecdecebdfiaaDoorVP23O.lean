import Derived.Test.YtnmecdecebdfiaaDoorVP23N
set_option linter.unusedVariables false
set_option linter.unusedSimpArgs false
set_option maxRecDepth 8000
namespace Go.V
theorem numG_lt:∀ (l:List UInt8) (n:Int),0<=n->numG l n<(n+1)*10 ^ l.length
 | [],n,h=>by simp[numG];omega
 | b::l,n,h=>by
  rw[numG]
  have hb:=b.toNat_lt
  have hp:(10:Int) ^ (l.length+1)=10*10 ^ l.length:=by rw[Int.pow_succ];omega
  have hpos:(0:Int)<10 ^ l.length:=Int.pow_pos (by decide)
  rw[List.length_cons,hp]
  have e:(n+1)*(10*10 ^ l.length)=(10*n+10)*10 ^ l.length:=by rw[<-Int.mul_assoc];congr 1;omega
  rw[e]
  split
  ·refine Int.lt_of_lt_of_le (numG_lt l _ (by omega)) (Int.mul_le_mul_of_nonneg_right (by omega) (by omega))
  ·refine Int.lt_of_lt_of_le (numG_lt l _ h) (Int.mul_le_mul_of_nonneg_right (by omega) (by omega))
theorem numR_I64(w:ByteArray):I64 (numR w):=by
 have h1:0<=numR w:=numG_nn _ _ (by decide)
 have h2:=numG_lt (w.data.toList.take 9) 0 (by decide)
 have h3:(10:Int) ^ (w.data.toList.take 9).length<=10 ^ 9:=by
  have hl:(w.data.toList.take 9).length<=9:=by rw[List.length_take];omega
  have:(10:Nat) ^ (w.data.toList.take 9).length<=10 ^ 9:=Nat.pow_le_pow_right (by decide) hl
  have e:∀ m:Nat,(10:Int) ^ m=((10 ^ m:Nat):Int):=fun m=>by simp
  rw[e,e];omega
 have h4:(10:Int) ^ 9=1000000000:=rfl
 unfold I64
 show _/\numG _ 0<=_
 have h1:0<=numG (w.data.toList.take 9) 0:=h1
 constructor
 ·show _<=numG _ 0;omega
 ·omega
theorem I0:I64 0:=by unfold I64;omega
theorem Im:I64 (-1):=by unfold I64;omega
theorem ite_ind{α:Sort _}{c:Prop}[Decidable c]{x y:α}(P:α->Prop)(h:c->P x)(g:¬c->P y):P (if c then x else y):=by
 by_cases hc:c
 ·rw[if_pos hc];exact h hc
 ·rw[if_neg hc];exact g hc
theorem guess_I(l:List ByteArray):ActI (guessM l):=by
 unfold guessM
 repeat' refine ite_ind ActI (fun _=>?_) (fun _=>?_)
 all_goals (constructor<;>first|exact numR_I64 _|exact I0|exact Im)
theorem guess_sz{l:List ByteArray}{n:Nat}(h:∀ i,(l.getD i ByteArray.empty).size<=n):(guessM l).f6.size<=n/\(guessM l).f4.f3.size<=n/\(guessM l).f4.f4.size<=n:=by
 have h0:ByteArray.empty.size<=n:=Nat.zero_le _
 refine (?_:(fun a:S_api_Act=>a.f6.size<=n/\a.f4.f3.size<=n/\a.f4.f4.size<=n) (guessM l))
 unfold guessM
 repeat' refine ite_ind (fun a:S_api_Act=>a.f6.size<=n/\a.f4.f3.size<=n/\a.f4.f4.size<=n) (fun _=>?_) (fun _=>?_)
 all_goals (refine⟨?_,?_,?_⟩<;>first|exact h _|exact h0)
theorem words_sz{s:ByteArray}(i:Nat):((wordsL s).getD i ByteArray.empty).size<=s.size:=by
 by_cases hi:i<(wordsL s).length
 ·rw[getD_at hi]
  have hm:=List.getElem_mem hi
  revert hm
  generalize (wordsL s)[i]=w
  intro hm
  rw[wordsL_eq] at hm
  obtain⟨x,hx,rfl⟩:=List.mem_map.1 hm
  rw[ofL_size]
  have:=(partsL_len (c:=32) (l:=s.data.toList)).2 x hx
  rw[Array.length_toList] at this
  exact this
 ·rw[List.getD_eq_getElem?_getD,List.getElem?_eq_none (by omega)];exact Nat.zero_le _
theorem guess_Z{s:ByteArray}(h:s.size<=1000):ActZ (guessM (wordsL s)):=by
 obtain⟨h1,h2,h3⟩:=guess_sz (l:=wordsL s) (n:=s.size) words_sz
 exact⟨by omega,by omega,by omega⟩
theorem rParse_s(k:Nat){s:ByteArray}{K:KQ}(hk:300000<=k)(h:pK K (parR s)):F_r23_Parse k s K:=by
 obtain⟨k,rfl⟩:∃ m,k=m+1:=⟨k-1,by omega⟩
 rw[F_r23_Parse]
 simp only[Hold_eq]
 unfold parR at h
 refine cond_dec (fun g=>?_) (fun g=>?_)
 ·rw[if_pos (by omega)] at h;exact h
 ·rw[if_neg (by omega)] at h
  obtain⟨hS,hl,hne⟩:=wordsL_facts (s:=s) (by omega)
  have hI:=guess_I (wordsL s)
  have hZ:=guess_Z (s:=s) (by omega)
  refine Words_s k (by omega) (by omega) (guess_s k hS (by omega) (by omega) ?_)
  unfold gK
  revert h hI hZ
  generalize guessM (wordsL s)=a
  intro h hI hZ
  have bad:pK K (zA,200)->C_r23_Parse_5 k 0 0 0 0 0 0 0 ByteArray.empty ByteArray.empty 0 (List.replicate 32 0) 0 ByteArray.empty 0 0 K:=fun h=>by
   obtain⟨k,rfl⟩:∃ m,k=m+1:=⟨k-1,by omega⟩
   rw[C_r23_Parse_5];exact h
  unfold accR at h
  have z1:=hZ.user
  have z2:=hZ.cuser
  have z3:=hZ.ckey
  refine cond_dec (fun g1=>?_) (fun g1=>fields_s k (by omega) (by omega) (by omega) (by omega) (cond_nb (fun g2=>?_) (fun g2=>rtext_s k hI hZ (by omega) (cond_nb (fun g3=>?_) (fun g3=>?_)))))
  ·rw[if_pos (.inl g1)] at h;exact bad h
  ·rw[if_pos (.inr (.inl g2))] at h;exact bad h
  ·rw[if_pos (.inr (.inr fun e=>by rw[seq_iff.2 e] at g3;cases g3))] at h;exact bad h
  ·rw[if_neg (by
    rintro (e|e|e)
    ·exact g1 e
    ·rw[g2] at e;cases e
    ·exact e (seq_iff.1 g3))] at h
   exact h
theorem act_ext{a b:S_api_Act}(h0:a.f0=b.f0)(h1:a.f1=b.f1)(h2:a.f2=b.f2)(h3:a.f3=b.f3)(c0:a.f4.f0=b.f4.f0)(c1:a.f4.f1=b.f4.f1)(c2:a.f4.f2=b.f4.f2)(c3:a.f4.f3=b.f4.f3)(c4:a.f4.f4=b.f4.f4)(c5:a.f4.f5=b.f4.f5)(c6:a.f4.f6=b.f4.f6)(h5:a.f5=b.f5)(h6:a.f6=b.f6)(d0:a.f7.f0=b.f7.f0)(d1:a.f7.f1=b.f7.f1):a=b:=by
 obtain⟨a0,a1,a2,a3,⟨e0,e1,e2,e3,e4,e5,e6⟩,a5,a6,⟨i0,i1⟩⟩:=a
 obtain⟨b0,b1,b2,b3,⟨f0,f1,f2,f3,f4,f5,f6⟩,b5,b6,⟨j0,j1⟩⟩:=b
 simp only at h0 h1 h2 h3 c0 c1 c2 c3 c4 c5 c6 h5 h6 d0 d1
 subst h0 h1 h2 h3 c0 c1 c2 c3 c4 c5 c6 h5 h6 d0 d1
 rfl
def eqA(a b:S_api_Act):Bool:=((decide (a.f0=b.f0))&&((decide (a.f1=b.f1))&&((decide (a.f2=b.f2))&&((decide (a.f3=b.f3))&&(((decide (a.f4.f0=b.f4.f0))&&((decide (a.f4.f1=b.f4.f1))&&((decide (a.f4.f2=b.f4.f2))&&((seq a.f4.f3 b.f4.f3)&&((seq a.f4.f4 b.f4.f4)&&((decide (a.f4.f5=b.f4.f5))&&((decide (a.f4.f6=b.f4.f6))&&true)))))))&&((decide (a.f5=b.f5))&&((seq a.f6 b.f6)&&(((decide (a.f7.f0=b.f7.f0))&&((decide (a.f7.f1=b.f7.f1))&&true))&&true))))))))
theorem eqA_iff{a b:S_api_Act}:eqA a b=true↔a=b:=by
 unfold eqA
 simp only[Bool.and_eq_true,decide_eq_true_eq,seq_iff,and_true]
 constructor
 ·rintro⟨h0,h1,h2,h3,⟨c0,c1,c2,c3,c4,c5,c6⟩,h5,h6,d0,d1⟩
  exact act_ext h0 h1 h2 h3 c0 c1 c2 c3 c4 c5 c6 h5 h6 d0 d1
 ·rintro rfl
  exact⟨rfl,rfl,rfl,rfl,⟨rfl,rfl,rfl,rfl,rfl,rfl,rfl⟩,rfl,rfl,rfl,rfl⟩
instance:DecidableEq S_api_Act:=fun a b=>decidable_of_iff _ (eqA_iff (a:=a) (b:=b))
def prM(sp:S_api_Act->ByteArray)(a:S_api_Act):ByteArray×Int:=
 if 200<a.f6.size then (str1,200) else if 200<a.f4.f3.size then (str1,200) else if 200<a.f4.f4.size then (str1,200) else if parM (sp a)=(a,0) then (sp a,0) else (str1,200)
theorem prM_tail{a:S_api_Act}{t:ByteArray}{q:S_api_Act×Int}{K:ByteArray->Int->Prop}(hq:parM t=q)(h:K (if parM t=(a,0) then (t,(0:Int)) else (str1,200)).1 (if parM t=(a,0) then (t,(0:Int)) else (str1,200)).2) :
  cond (!decide (q.2=0)) (K str1 200) (cond (!eqA a q.1) (K str1 200) (K t 0)):=by
 rw[hq] at h
 refine cond_ndec (fun g=>?_) (fun g=>cond_nb (fun g2=>?_) (fun g2=>?_))
 ·rw[if_neg (fun e=>g (by rw[e]))] at h;exact h
 ·rw[if_neg (fun e=>by rw[e] at g2;rw[eqA_iff.2 rfl] at g2;cases g2)] at h;exact h
 ·have:q=(a,0):=Prod.ext (eqA_iff.1 g2).symm g
  rw[if_pos this] at h;exact h
theorem Print_s(k:Nat){a:S_api_Act}(hI:ActI a){K:ByteArray->Int->Prop}(hk:200000<=k)(h:K (prM spellM a).1 (prM spellM a).2) :
  F_desk_Print k a.f0 a.f1 a.f2 a.f3 a.f4.f0 a.f4.f1 a.f4.f2 a.f4.f3 a.f4.f4 a.f4.f5 a.f4.f6 a.f5 a.f6 a.f7.f0 a.f7.f1 K:=by
 obtain⟨k,rfl⟩:∃ m,k=m+1:=⟨k-1,by omega⟩
 rw[F_desk_Print]
 simp only[Hold_eq]
 unfold prM at h
 refine cond_dec (fun g=>?_) (fun g=>cond_dec (fun g2=>?_) (fun g2=>cond_dec (fun g3=>?_) (fun g3=>?_)))
 ·rw[if_pos (by omega)] at h;exact h
 ·rw[if_neg (by omega),if_pos (by omega)] at h;exact h
 ·rw[if_neg (by omega),if_neg (by omega),if_pos (by omega)] at h;exact h
 ·rw[if_neg (by omega),if_neg (by omega),if_neg (by omega)] at h
  refine spelt_s k hI ⟨by omega,by omega,by omega⟩ (by omega) (Parse_s k (by omega) ?_)
  exact prM_tail rfl h
theorem rPrint_s(k:Nat){a:S_api_Act}(hI:ActI a){K:ByteArray->Int->Prop}(hk:400000<=k)(h:K (prM textM a).1 (prM textM a).2) :
  F_r23_Print k a.f0 a.f1 a.f2 a.f3 a.f4.f0 a.f4.f1 a.f4.f2 a.f4.f3 a.f4.f4 a.f4.f5 a.f4.f6 a.f5 a.f6 a.f7.f0 a.f7.f1 K:=by
 obtain⟨k,rfl⟩:∃ m,k=m+1:=⟨k-1,by omega⟩
 rw[F_r23_Print]
 simp only[Hold_eq]
 unfold prM at h
 refine cond_dec (fun g=>?_) (fun g=>cond_dec (fun g2=>?_) (fun g2=>cond_dec (fun g3=>?_) (fun g3=>?_)))
 ·rw[if_pos (by omega)] at h;exact h
 ·rw[if_neg (by omega),if_pos (by omega)] at h;exact h
 ·rw[if_neg (by omega),if_neg (by omega),if_pos (by omega)] at h;exact h
 ·rw[if_neg (by omega),if_neg (by omega),if_neg (by omega)] at h
  refine rtext_s k hI ⟨by omega,by omega,by omega⟩ (by omega) (rParse_s k (by omega) ?_)
  exact prM_tail (par_eq _) h
theorem spell_text(l:List ByteArray):spellM (guessM l)=textM (guessM l):=by
 have j1:∀ (w:ByteArray) (n:Int),joinM w [IV.int 3 .i64 n]=w++(str0++itoaL n):=fun _ _=>rfl
 have j2:∀ (w:ByteArray) (n m:Int),joinM w [IV.int 3 .i64 n,IV.int 3 .i64 m]=(w++(str0++itoaL n))++(str0++itoaL m):=fun _ _ _=>rfl
 have j3:∀ (w:ByteArray) (n:Int) (u:ByteArray),joinM w [IV.int 3 .i64 n,IV.str 9 u]=(w++(str0++itoaL n))++(str0++u):=fun _ _ _=>rfl
 have j4:∀ (w:ByteArray) (n:Int) (u v:ByteArray),joinM w [IV.int 3 .i64 n,IV.str 9 u,IV.str 9 v]=((w++(str0++itoaL n))++(str0++u))++(str0++v):=fun _ _ _ _=>rfl
 have fin:∀ x y:ByteArray,BL x=BL y->x=y:=fun x y h=>by have:=congrArg ofL h;exact this
 have hn:∀ w,¬numR w<0:=fun w=>by have:0<=numR w:=numG_nn _ _ (by decide);omega
 refine (?_:(fun a:S_api_Act=>spellM a=textM a) (guessM l))
 unfold guessM
 repeat' refine ite_ind (fun a:S_api_Act=>spellM a=textM a) (fun _=>?_) (fun _=>?_)
 all_goals refine fin _ _ ?_
 all_goals simp[hn,spellM,textM,comM,j1,j2,j3,j4,BL_app,BL_str0,BT_tick,BT_start,BT_seal,BT_intent,BT_deliver,BT_drop,BT_double,BT_retry,BT_head,BT_lookup,BT_leased,BT_put,BT_rotate,BT_revoke,BT_sign,BT_crash,BT_learner,BT_voter,BT_leave,BL_now]
end Go.V
