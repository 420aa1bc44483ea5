import Derived.Test.YtnmecdecebdfiaaDoorVP23P
set_option linter.unusedVariables false
set_option linter.unusedSimpArgs false
set_option maxRecDepth 8000
namespace Go.V
def numG:List UInt8->Int->Int
 | [],n=>n
 | b::l,n=>numG l (if 48<=b.toNat/\b.toNat<=57 then 10*n+((b.toNat:Int)-48) else n)
def numR(w:ByteArray):Int:=numG (w.data.toList.take 9) 0
theorem number_loop{w:ByteArray}(hw:w.size<=100000){K:Int->Prop}:∀ (m i k:Nat) (n:Int),i+m=min 9 w.size->2*m+3<=k->(0<=n/\n<10 ^ i)->K (numG ((w.data.toList.take 9).drop i) n)->C_r23_number_3 k w n (i:Int) K:=by
 have hn:w.data.toList.length=w.size:=by rw[Array.length_toList];rfl
 intro m
 induction m with
 | zero=>
  intro i k n hi hk hb h
  obtain⟨k,rfl⟩:∃ m,k=m+1:=⟨k-1,by omega⟩
  rw[C_r23_number_3]
  rw[List.drop_of_length_le (by rw[List.length_take];omega)] at h
  exact cond_dec (fun _=>cond_dec (fun _=>by omega) (fun _=>h)) (fun _=>h)
 | succ m ih=>
  intro i k n hi hk hb h
  obtain⟨k,rfl⟩:∃ m,k=m+2:=⟨k-2,by omega⟩
  have hil:i<w.data.toList.length:=by omega
  have hi9:i<9:=by omega
  have hpow:(10:Int) ^ i<=10 ^ 8:=by
   have:i=0\/i=1\/i=2\/i=3\/i=4\/i=5\/i=6\/i=7\/i=8:=by omega
   rcases this with rfl|rfl|rfl|rfl|rfl|rfl|rfl|rfl|rfl<;>decide
  have h8:(10:Int) ^ 8=100000000:=rfl
  have hs:(10:Int) ^ (i+1)=10*10 ^ i:=by rw[Int.pow_succ];omega
  rw[drop_cons (by rw[List.length_take];omega),List.getElem_take,numG] at h
  have hu:=w.data.toList[i].toNat_lt
  rw[C_r23_number_3]
  simp only[Hold_eq]
  rw[Int.toNat_natCast,bt_at hil]
  have next:∀ n',0<=n'/\n'<10 ^ (i+1)->K (numG ((w.data.toList.take 9).drop (i+1)) n')->C_r23_number_4 (k+1) w n' (i:Int) K:=fun n' h1 h2=>by
   rw[C_r23_number_4]
   simp only[Hold_eq]
   rw[step64 i (by omega)]
   exact ih (i+1) k n' (by omega) (by omega) h1 h2
  refine cond_dec (fun _=>cond_dec (fun _=>⟨by omega,cond_dec (fun g1=>⟨by omega,cond_dec (fun g2=>⟨by omega,?_⟩) (fun g2=>?_)⟩) (fun g1=>?_)⟩) (fun e=>by omega)) (fun e=>by omega)
  ·rw[if_pos ⟨by omega,by omega⟩] at h
   have e1:IntKind.i64.wrap (10*n)=10*n:=wrap64 (by omega)
   have e2:IntKind.u8.wrap (((w.data.toList[i].toNat:Nat):Int)-48)=((w.data.toList[i].toNat:Nat):Int)-48:=wrap8 (by omega)
   have e3:IntKind.i64.wrap (((w.data.toList[i].toNat:Nat):Int)-48)=((w.data.toList[i].toNat:Nat):Int)-48:=wrap64 (by omega)
   rw[e1,e2,e3,wrap64 (by omega)]
   exact next _ ⟨by omega,by omega⟩ h
  ·rw[if_neg (by omega)] at h
   exact next _ ⟨by omega,by omega⟩ h
  ·rw[if_neg (by omega)] at h
   exact next _ ⟨by omega,by omega⟩ h
theorem rnumber_s(k:Nat){w:ByteArray}(hw:w.size<=100000){K:Int->Prop}(hk:100<=k)(h:K (numR w)):F_r23_number k w K:=by
 obtain⟨k,rfl⟩:∃ m,k=m+1:=⟨k-1,by omega⟩
 rw[F_r23_number]
 simp only[Hold_eq]
 exact number_loop hw (min 9 w.size) 0 k 0 (by omega) (by omega) (by decide) (by rw[List.drop_zero];exact h)
def mayB(n:Int):Bool:=decide (0<=n)&&decide (n<=1000000)
theorem rmay_s(k:Nat){n:Int}{K:Bool->Prop}(hk:1<=k)(h:K (mayB n)):F_r23_may k n K:=by
 obtain⟨k,rfl⟩:∃ m,k=m+1:=⟨k-1,by omega⟩
 rw[F_r23_may]
 unfold mayB at h
 refine cond_dec (fun g=>?_) (fun g=>?_)
 ·rw[decide_eq_true g,Bool.true_and] at h;exact h
 ·rw[decide_eq_false g,Bool.false_and] at h;exact h
def lettB(b:UInt8):Bool:=(decide (97<=b.toNat)&&decide (b.toNat<=122))||(decide (48<=b.toNat)&&decide (b.toNat<=57))
theorem lett_yes{b:UInt8}(h:(97<=b.toNat/\b.toNat<=122)\/(48<=b.toNat/\b.toNat<=57)):lettB b=true:=by unfold lettB;simpa using h
theorem lett_no{b:UInt8}(h:¬((97<=b.toNat/\b.toNat<=122)\/(48<=b.toNat/\b.toNat<=57))):lettB b=false:=by
 cases hb:lettB b with
 | false=>rfl
 | true=>exact absurd (by unfold lettB at hb;simpa using hb) h
def wrdB(w:ByteArray):Bool:=w.data.toList.all lettB&&(decide (1<=w.size)&&decide (w.size<=8))
theorem word_loop{w:ByteArray}(hw:w.size<=100000){K:Bool->Prop}:∀ (m i k:Nat),i+m=w.size->m+1<=k->K ((w.data.toList.drop i).all lettB&&(decide (1<=w.size)&&decide (w.size<=8)))->C_r23_word_2 k w (i:Int) K:=by
 have hn:w.data.toList.length=w.size:=by rw[Array.length_toList];rfl
 intro m
 induction m with
 | zero=>
  intro i k hi hk h
  obtain⟨k,rfl⟩:∃ m,k=m+1:=⟨k-1,by omega⟩
  rw[C_r23_word_2]
  rw[List.drop_of_length_le (by omega),List.all_nil,Bool.true_and] at h
  refine cond_dec (fun e=>by omega) (fun _=>cond_dec (fun g=>?_) (fun g=>?_))
  ·rw[decide_eq_true (by omega),Bool.true_and] at h
   rw[show (8:Int)=((8:Nat):Int) from rfl,show decide (((w.size:Nat):Int)<=((8:Nat):Int))=decide (w.size<=8) from decide_eq_decide.2 (by omega)]
   exact h
  ·rw[decide_eq_false (by omega),Bool.false_and] at h
   exact h
 | succ m ih=>
  intro i k hi hk h
  obtain⟨k,rfl⟩:∃ m,k=m+1:=⟨k-1,by omega⟩
  have hil:i<w.data.toList.length:=by omega
  rw[C_r23_word_2]
  simp only[Hold_eq]
  rw[Int.toNat_natCast,bt_at hil,step64 i (by omega)]
  rw[drop_cons hil,List.all_cons] at h
  have yes:lettB w.data.toList[i]=true->C_r23_word_2 k w ((i+1:Nat):Int) K:=fun e=>ih (i+1) k (by omega) (by omega) (by rw[e,Bool.true_and] at h;exact h)
  have no:lettB w.data.toList[i]=false->K false:=fun e=>by rw[e,Bool.false_and,Bool.false_and] at h;exact h
  refine cond_dec (fun _=>⟨by omega,cond_dec (fun g1=>⟨by omega,cond_dec (fun g2=>no ?_) (fun g2=>⟨by omega,cond_dec (fun g3=>no ?_) (fun g3=>yes ?_)⟩)⟩) (fun g1=>⟨by omega,cond_dec (fun g2=>⟨by omega,cond_dec (fun g3=>no ?_) (fun g3=>⟨by omega,cond_dec (fun g4=>no ?_) (fun g4=>yes ?_)⟩)⟩) (fun g2=>yes ?_)⟩)⟩) (fun e=>by omega)
  all_goals first|exact lett_yes (by omega)|exact lett_no (by omega)
theorem rword_s(k:Nat){w:ByteArray}(hw:w.size<=100000){K:Bool->Prop}(hk:w.size+10<=k)(h:K (wrdB w)):F_r23_word k w K:=by
 obtain⟨k,rfl⟩:∃ m,k=m+1:=⟨k-1,by omega⟩
 rw[F_r23_word]
 simp only[Hold_eq]
 exact word_loop hw w.size 0 k (by omega) (by omega) (by rw[List.drop_zero];exact h)
def fldB(a:S_api_Act):Bool:=
 (mayB a.f1&&(mayB a.f3&&(mayB a.f7.f1&&(mayB a.f2||(decide (a.f2 = -1)&&decide (a.f0=12)))))) &&
 ((!decide (a.f0=5)||(wrdB a.f4.f3&&(!(decide (a.f4.f0=1)||decide (a.f4.f0=2))||wrdB a.f4.f4)))&&(!decide (a.f0=6)||(decide (a.f5=3)||wrdB a.f6)))
theorem fields6_s(k:Nat){a:S_api_Act}{K:Bool->Prop}(h6:a.f6.size<=100000)(hk:100100<=k)(h:K (!decide (a.f0=6)||(decide (a.f5=3)||wrdB a.f6))):C_r23_fields_6 k a.f0 a.f1 a.f2 a.f3 a.f4.f0 a.f4.f1 a.f4.f2 a.f4.f3 a.f4.f4 a.f4.f5 a.f4.f6 a.f5 a.f6 a.f7.f0 a.f7.f1 K:=by
 obtain⟨k,rfl⟩:∃ m,k=m+1:=⟨k-1,by omega⟩
 rw[C_r23_fields_6]
 simp only[Hold_eq]
 refine cond_ndec (fun g=>?_) (fun g=>cond_dec (fun g2=>?_) (fun g2=>rword_s k h6 (by omega) ?_))
 ·rw[decide_eq_false g,Bool.not_false,Bool.true_or] at h;exact h
 ·rw[decide_eq_true g,decide_eq_true g2] at h;exact h
 ·rw[decide_eq_true g,decide_eq_false g2] at h;exact h
theorem fields_s(k:Nat){a:S_api_Act}{K:Bool->Prop}(h6:a.f6.size<=100000)(h3:a.f4.f3.size<=100000)(h4:a.f4.f4.size<=100000)(hk:200000<=k)(h:K (fldB a)):F_r23_fields k a.f0 a.f1 a.f2 a.f3 a.f4.f0 a.f4.f1 a.f4.f2 a.f4.f3 a.f4.f4 a.f4.f5 a.f4.f6 a.f5 a.f6 a.f7.f0 a.f7.f1 K:=by
 obtain⟨k,rfl⟩:∃ m,k=m+1:=⟨k-1,by omega⟩
 rw[F_r23_fields]
 simp only[Hold_eq]
 unfold fldB at h
 have rest:K ((!decide (a.f0=5)||(wrdB a.f4.f3&&(!(decide (a.f4.f0=1)||decide (a.f4.f0=2))||wrdB a.f4.f4)))&&(!decide (a.f0=6)||(decide (a.f5=3)||wrdB a.f6)))->C_r23_fields_3 k a.f0 a.f1 a.f2 a.f3 a.f4.f0 a.f4.f1 a.f4.f2 a.f4.f3 a.f4.f4 a.f4.f5 a.f4.f6 a.f5 a.f6 a.f7.f0 a.f7.f1 K:=by
  intro h
  obtain⟨k,rfl⟩:∃ m,k=m+2:=⟨k-2,by omega⟩
  have f4:∀ b:Bool,b=(decide (a.f4.f0=1)||decide (a.f4.f0=2))->C_r23_fields_4 (k+1) b a.f0 a.f1 a.f2 a.f3 a.f4.f0 a.f4.f1 a.f4.f2 a.f4.f3 a.f4.f4 a.f4.f5 a.f4.f6 a.f5 a.f6 a.f7.f0 a.f7.f1 K:=by
   intro b hb
   rw[<-hb] at h
   rw[C_r23_fields_4]
   simp only[Hold_eq]
   refine cond_dec (fun g=>rword_s k h3 (by omega) (cond_nb (fun g2=>?_) (fun g2=>cond_b (fun g3=>rword_s k h4 (by omega) (cond_nb (fun g4=>?_) (fun g4=>fields6_s k h6 (by omega) ?_))) (fun g3=>fields6_s k h6 (by omega) ?_)))) (fun g=>fields6_s k h6 (by omega) ?_)
   ·rw[decide_eq_true g,g2] at h;simpa using h
   ·rw[decide_eq_true g,g2,g3,g4] at h;simpa using h
   ·rw[decide_eq_true g,g2,g3,g4] at h;simpa using h
   ·rw[decide_eq_true g,g2,g3] at h;simpa using h
   ·rw[decide_eq_false g] at h;simpa using h
  rw[C_r23_fields_3]
  simp only[Hold_eq]
  refine cond_dec (fun g=>f4 _ (by rw[decide_eq_true g];rfl)) (fun g=>f4 _ (by rw[decide_eq_false g,Bool.false_or]))
 refine rmay_s k (by omega) (cond_nb (fun g1=>?_) (fun g1=>rmay_s k (by omega) (cond_nb (fun g2=>?_) (fun g2=>rmay_s k (by omega) (cond_nb (fun g3=>?_) (fun g3=>rmay_s k (by omega) (cond_nb (fun g4=>cond_ndec (fun g5=>?_) (fun g5=>cond_ndec (fun g6=>?_) (fun g6=>rest ?_))) (fun g4=>rest ?_))))))))
 ·rw[g1] at h;simpa using h
 ·rw[g1,g2] at h;simpa using h
 ·rw[g1,g2,g3] at h;simpa using h
 ·rw[g1,g2,g3,g4,decide_eq_false g5] at h;simpa using h
 ·rw[g1,g2,g3,g4,decide_eq_true g5,decide_eq_false g6] at h;simpa using h
 ·rw[g1,g2,g3,g4,decide_eq_true g5,decide_eq_true g6] at h;simpa using h
 ·rw[g1,g2,g3,g4] at h;simpa using h
def guessM(l:List ByteArray):S_api_Act:=if (l.getD 0 ByteArray.empty)=str2 then (S_api_Act.mk (1:Int) (numR (l.getD 1 ByteArray.empty)) (0:Int) (0:Int) (S_api_Command.mk (0:Int) (0:Int) (0:Int) ByteArray.empty ByteArray.empty (0:Int) (List.replicate 32 (0:Int))) (0:Int) ByteArray.empty (S_api_Change.mk (0:Int) (0:Int))) else if (l.getD 0 ByteArray.empty)=str3 then (S_api_Act.mk (13:Int) (numR (l.getD 1 ByteArray.empty)) (0:Int) (0:Int) (S_api_Command.mk (0:Int) (0:Int) (0:Int) ByteArray.empty ByteArray.empty (0:Int) (List.replicate 32 (0:Int))) (0:Int) ByteArray.empty (S_api_Change.mk (0:Int) (0:Int))) else if (l.getD 0 ByteArray.empty)=str4 then (S_api_Act.mk (9:Int) (numR (l.getD 1 ByteArray.empty)) (0:Int) (0:Int) (S_api_Command.mk (0:Int) (0:Int) (0:Int) ByteArray.empty ByteArray.empty (0:Int) (List.replicate 32 (0:Int))) (0:Int) ByteArray.empty (S_api_Change.mk (0:Int) (0:Int))) else if (l.getD 0 ByteArray.empty)=str5 then (S_api_Act.mk (10:Int) (numR (l.getD 1 ByteArray.empty)) (0:Int) (0:Int) (S_api_Command.mk (0:Int) (0:Int) (0:Int) ByteArray.empty ByteArray.empty (0:Int) (List.replicate 32 (0:Int))) (0:Int) ByteArray.empty (S_api_Change.mk (0:Int) (0:Int))) else if (l.getD 0 ByteArray.empty)=str6 then (S_api_Act.mk (2:Int) (0:Int) (numR (l.getD 1 ByteArray.empty)) (0:Int) (S_api_Command.mk (0:Int) (0:Int) (0:Int) ByteArray.empty ByteArray.empty (0:Int) (List.replicate 32 (0:Int))) (0:Int) ByteArray.empty (S_api_Change.mk (0:Int) (0:Int))) else if (l.getD 0 ByteArray.empty)=str7 then (S_api_Act.mk (3:Int) (0:Int) (numR (l.getD 1 ByteArray.empty)) (0:Int) (S_api_Command.mk (0:Int) (0:Int) (0:Int) ByteArray.empty ByteArray.empty (0:Int) (List.replicate 32 (0:Int))) (0:Int) ByteArray.empty (S_api_Change.mk (0:Int) (0:Int))) else if (l.getD 0 ByteArray.empty)=str8 then (S_api_Act.mk (4:Int) (0:Int) (numR (l.getD 1 ByteArray.empty)) (0:Int) (S_api_Command.mk (0:Int) (0:Int) (0:Int) ByteArray.empty ByteArray.empty (0:Int) (List.replicate 32 (0:Int))) (0:Int) ByteArray.empty (S_api_Change.mk (0:Int) (0:Int))) else if (l.getD 0 ByteArray.empty)=str14 then (S_api_Act.mk (5:Int) (0:Int) (0:Int) (numR (l.getD 1 ByteArray.empty)) (S_api_Command.mk (1:Int) (0:Int) (0:Int) (l.getD 2 ByteArray.empty) (l.getD 3 ByteArray.empty) (0:Int) (List.replicate 32 (0:Int))) (0:Int) ByteArray.empty (S_api_Change.mk (0:Int) (0:Int))) else if (l.getD 0 ByteArray.empty)=str15 then (S_api_Act.mk (5:Int) (0:Int) (0:Int) (numR (l.getD 1 ByteArray.empty)) (S_api_Command.mk (2:Int) (0:Int) (0:Int) (l.getD 2 ByteArray.empty) (l.getD 3 ByteArray.empty) (0:Int) (List.replicate 32 (0:Int))) (0:Int) ByteArray.empty (S_api_Change.mk (0:Int) (0:Int))) else if (l.getD 0 ByteArray.empty)=str16 then (S_api_Act.mk (5:Int) (0:Int) (0:Int) (numR (l.getD 1 ByteArray.empty)) (S_api_Command.mk (3:Int) (0:Int) (0:Int) (l.getD 2 ByteArray.empty) ByteArray.empty (0:Int) (List.replicate 32 (0:Int))) (0:Int) ByteArray.empty (S_api_Change.mk (0:Int) (0:Int))) else if (l.getD 0 ByteArray.empty)=str11 then (S_api_Act.mk (6:Int) (0:Int) (0:Int) (numR (l.getD 1 ByteArray.empty)) (S_api_Command.mk (0:Int) (0:Int) (0:Int) ByteArray.empty ByteArray.empty (0:Int) (List.replicate 32 (0:Int))) (1:Int) (l.getD 2 ByteArray.empty) (S_api_Change.mk (0:Int) (0:Int))) else if (l.getD 0 ByteArray.empty)=str13 then (S_api_Act.mk (6:Int) (0:Int) (0:Int) (numR (l.getD 1 ByteArray.empty)) (S_api_Command.mk (0:Int) (0:Int) (0:Int) ByteArray.empty ByteArray.empty (0:Int) (List.replicate 32 (0:Int))) (2:Int) (l.getD 2 ByteArray.empty) (S_api_Change.mk (0:Int) (0:Int))) else if (l.getD 0 ByteArray.empty)=str10 then (S_api_Act.mk (6:Int) (0:Int) (0:Int) (numR (l.getD 1 ByteArray.empty)) (S_api_Command.mk (0:Int) (0:Int) (0:Int) ByteArray.empty ByteArray.empty (0:Int) (List.replicate 32 (0:Int))) (3:Int) ByteArray.empty (S_api_Change.mk (0:Int) (0:Int))) else if (l.getD 0 ByteArray.empty)=str9 then (S_api_Act.mk (7:Int) (0:Int) (0:Int) (numR (l.getD 1 ByteArray.empty)) (S_api_Command.mk (0:Int) (0:Int) (0:Int) ByteArray.empty ByteArray.empty (0:Int) (List.replicate 32 (0:Int))) (0:Int) ByteArray.empty (S_api_Change.mk (0:Int) (0:Int))) else if (l.getD 0 ByteArray.empty)=str17 then (S_api_Act.mk (11:Int) (numR (l.getD 1 ByteArray.empty)) (numR (l.getD 2 ByteArray.empty)) (0:Int) (S_api_Command.mk (0:Int) (0:Int) (0:Int) ByteArray.empty ByteArray.empty (0:Int) (List.replicate 32 (0:Int))) (0:Int) ByteArray.empty (S_api_Change.mk (0:Int) (0:Int))) else if (l.getD 0 ByteArray.empty)=str18 then (if (l.getD 2 ByteArray.empty)=str19 then (S_api_Act.mk (12:Int) (numR (l.getD 1 ByteArray.empty)) (-1:Int) (0:Int) (S_api_Command.mk (0:Int) (0:Int) (0:Int) ByteArray.empty ByteArray.empty (0:Int) (List.replicate 32 (0:Int))) (0:Int) ByteArray.empty (S_api_Change.mk (0:Int) (0:Int))) else (S_api_Act.mk (12:Int) (numR (l.getD 1 ByteArray.empty)) (numR (l.getD 2 ByteArray.empty)) (0:Int) (S_api_Command.mk (0:Int) (0:Int) (0:Int) ByteArray.empty ByteArray.empty (0:Int) (List.replicate 32 (0:Int))) (0:Int) ByteArray.empty (S_api_Change.mk (0:Int) (0:Int)))) else if (l.getD 0 ByteArray.empty)=str20 then (S_api_Act.mk (8:Int) (numR (l.getD 1 ByteArray.empty)) (0:Int) (0:Int) (S_api_Command.mk (0:Int) (0:Int) (0:Int) ByteArray.empty ByteArray.empty (0:Int) (List.replicate 32 (0:Int))) (0:Int) ByteArray.empty (S_api_Change.mk (1:Int) (numR (l.getD 2 ByteArray.empty)))) else if (l.getD 0 ByteArray.empty)=str21 then (S_api_Act.mk (8:Int) (numR (l.getD 1 ByteArray.empty)) (0:Int) (0:Int) (S_api_Command.mk (0:Int) (0:Int) (0:Int) ByteArray.empty ByteArray.empty (0:Int) (List.replicate 32 (0:Int))) (0:Int) ByteArray.empty (S_api_Change.mk (2:Int) (numR (l.getD 2 ByteArray.empty)))) else if (l.getD 0 ByteArray.empty)=str22 then (S_api_Act.mk (8:Int) (numR (l.getD 1 ByteArray.empty)) (0:Int) (0:Int) (S_api_Command.mk (0:Int) (0:Int) (0:Int) ByteArray.empty ByteArray.empty (0:Int) (List.replicate 32 (0:Int))) (0:Int) ByteArray.empty (S_api_Change.mk (3:Int) (numR (l.getD 2 ByteArray.empty)))) else (S_api_Act.mk (0:Int) (0:Int) (0:Int) (0:Int) (S_api_Command.mk (0:Int) (0:Int) (0:Int) ByteArray.empty ByteArray.empty (0:Int) (List.replicate 32 (0:Int))) (0:Int) ByteArray.empty (S_api_Change.mk (0:Int) (0:Int)))
abbrev KG:=Int->Int->Int->Int->Int->Int->Int->ByteArray->ByteArray->Int->List Int->Int->ByteArray->Int->Int->Prop
def gK(K:KG)(a:S_api_Act):Prop:=K a.f0 a.f1 a.f2 a.f3 a.f4.f0 a.f4.f1 a.f4.f2 a.f4.f3 a.f4.f4 a.f4.f5 a.f4.f6 a.f5 a.f6 a.f7.f0 a.f7.f1
theorem gK_if{c:Prop}[Decidable c]{K:KG}{a b:S_api_Act}:gK K (if c then a else b)=if c then gK K a else gK K b:=by split<;>rfl
theorem guess6_s(k:Nat){l w:List ByteArray}(hS:Sh l)(hw:∀ i,i<4->w.getD i ByteArray.empty=l.getD i ByteArray.empty){K:KG}(hk:200<=k){z0 z1 z2 z3 z4 z5 z6 z9 z11 z13 z14:Int}{z7 z8 z12:ByteArray}{z10:List Int}(h:gK K (guessM l)):C_r23_guess_6 k z0 z1 z2 z3 z4 z5 z6 z7 z8 z9 z10 z11 z12 z13 z14 w K:=by
 obtain⟨k,rfl⟩:∃ m,k=m+1:=⟨k-1,by omega⟩
 have sz:∀ i,(l.getD i ByteArray.empty).size<=1000:=fun i=>by
  by_cases hi:i<l.length
  ·rw[getD_at hi];exact hS _ (List.getElem_mem hi)
  ·rw[List.getD_eq_getElem?_getD,List.getElem?_eq_none (by omega)];exact Nat.zero_le _
 rw[C_r23_guess_6]
 simp only[Hold_eq]
 rw[show Int.toNat 1=1 from rfl,show Int.toNat 2=2 from rfl,show Int.toNat 0=0 from rfl,show Int.toNat 3=3 from rfl,hw 0 (by decide),hw 1 (by decide),hw 2 (by decide),hw 3 (by decide)]
 refine⟨by decide,rnumber_s k (by have:=sz 1;omega) (by omega) ⟨by decide,rnumber_s k (by have:=sz 2;omega) (by omega) ⟨by decide,?_⟩⟩⟩
 unfold guessM at h
 simp only[gK_if] at h
 refine cond_b (fun g=>?_) (fun g=>?_)
 ·rw[if_pos (seq_iff.1 g)] at h
  exact h
 rw[if_neg (fun e=>by rw[seq_iff.2 e] at g;cases g)] at h
 refine cond_b (fun g=>?_) (fun g=>?_)
 ·rw[if_pos (seq_iff.1 g)] at h
  exact h
 rw[if_neg (fun e=>by rw[seq_iff.2 e] at g;cases g)] at h
 refine cond_b (fun g=>?_) (fun g=>?_)
 ·rw[if_pos (seq_iff.1 g)] at h
  exact h
 rw[if_neg (fun e=>by rw[seq_iff.2 e] at g;cases g)] at h
 refine cond_b (fun g=>?_) (fun g=>?_)
 ·rw[if_pos (seq_iff.1 g)] at h
  exact h
 rw[if_neg (fun e=>by rw[seq_iff.2 e] at g;cases g)] at h
 refine cond_b (fun g=>?_) (fun g=>?_)
 ·rw[if_pos (seq_iff.1 g)] at h
  exact h
 rw[if_neg (fun e=>by rw[seq_iff.2 e] at g;cases g)] at h
 refine cond_b (fun g=>?_) (fun g=>?_)
 ·rw[if_pos (seq_iff.1 g)] at h
  exact h
 rw[if_neg (fun e=>by rw[seq_iff.2 e] at g;cases g)] at h
 refine cond_b (fun g=>?_) (fun g=>?_)
 ·rw[if_pos (seq_iff.1 g)] at h
  exact h
 rw[if_neg (fun e=>by rw[seq_iff.2 e] at g;cases g)] at h
 refine cond_b (fun g=>?_) (fun g=>?_)
 ·rw[if_pos (seq_iff.1 g)] at h
  refine⟨by decide,⟨by decide,?_⟩⟩
  exact h
 rw[if_neg (fun e=>by rw[seq_iff.2 e] at g;cases g)] at h
 refine cond_b (fun g=>?_) (fun g=>?_)
 ·rw[if_pos (seq_iff.1 g)] at h
  refine⟨by decide,⟨by decide,?_⟩⟩
  exact h
 rw[if_neg (fun e=>by rw[seq_iff.2 e] at g;cases g)] at h
 refine cond_b (fun g=>?_) (fun g=>?_)
 ·rw[if_pos (seq_iff.1 g)] at h
  refine⟨by decide,?_⟩
  exact h
 rw[if_neg (fun e=>by rw[seq_iff.2 e] at g;cases g)] at h
 refine cond_b (fun g=>?_) (fun g=>?_)
 ·rw[if_pos (seq_iff.1 g)] at h
  refine⟨by decide,?_⟩
  exact h
 rw[if_neg (fun e=>by rw[seq_iff.2 e] at g;cases g)] at h
 refine cond_b (fun g=>?_) (fun g=>?_)
 ·rw[if_pos (seq_iff.1 g)] at h
  refine⟨by decide,?_⟩
  exact h
 rw[if_neg (fun e=>by rw[seq_iff.2 e] at g;cases g)] at h
 refine cond_b (fun g=>?_) (fun g=>?_)
 ·rw[if_pos (seq_iff.1 g)] at h
  exact h
 rw[if_neg (fun e=>by rw[seq_iff.2 e] at g;cases g)] at h
 refine cond_b (fun g=>?_) (fun g=>?_)
 ·rw[if_pos (seq_iff.1 g)] at h
  exact h
 rw[if_neg (fun e=>by rw[seq_iff.2 e] at g;cases g)] at h
 refine cond_b (fun g=>?_) (fun g=>?_)
 ·rw[if_pos (seq_iff.1 g)] at h
  exact h
 rw[if_neg (fun e=>by rw[seq_iff.2 e] at g;cases g)] at h
 refine cond_b (fun g=>?_) (fun g=>?_)
 ·rw[if_pos (seq_iff.1 g)] at h
  refine⟨by decide,?_⟩
  refine cond_b (fun g=>?_) (fun g=>?_)
  ·rw[if_pos (seq_iff.1 g)] at h
   exact h
  rw[if_neg (fun e=>by rw[seq_iff.2 e] at g;cases g)] at h
  exact h
 rw[if_neg (fun e=>by rw[seq_iff.2 e] at g;cases g)] at h
 refine cond_b (fun g=>?_) (fun g=>?_)
 ·rw[if_pos (seq_iff.1 g)] at h
  exact h
 rw[if_neg (fun e=>by rw[seq_iff.2 e] at g;cases g)] at h
 refine cond_b (fun g=>?_) (fun g=>?_)
 ·rw[if_pos (seq_iff.1 g)] at h
  exact h
 rw[if_neg (fun e=>by rw[seq_iff.2 e] at g;cases g)] at h
 refine cond_b (fun g=>?_) (fun g=>?_)
 ·rw[if_pos (seq_iff.1 g)] at h
  exact h
 rw[if_neg (fun e=>by rw[seq_iff.2 e] at g;cases g)] at h
 exact h
theorem guess_loop{l:List ByteArray}(hS:Sh l)(hl:l.length<=100000){K:KG}{z0 z1 z2 z3 z4 z5 z6 z9 z11 z13 z14:Int}{z7 z8 z12:ByteArray}{z10:List Int}(h:gK K (guessM l)):∀ (m j k:Nat) (w:List ByteArray),j+m=min 4 l.length->m+300<=k->w.length=4->(∀ i,i<4->w.getD i ByteArray.empty=if i<j then l.getD i ByteArray.empty else ByteArray.empty) →
  C_r23_guess_3 k l (j:Int) z0 z1 z2 z3 z4 z5 z6 z7 z8 z9 z10 z11 z12 z13 z14 w K:=by
 intro m
 induction m with
 | zero=>
  intro j k w hj hk hwl hw
  obtain⟨k,rfl⟩:∃ m,k=m+1:=⟨k-1,by omega⟩
  rw[C_r23_guess_3]
  simp only[Hold_eq]
  have fin:C_r23_guess_6 k z0 z1 z2 z3 z4 z5 z6 z7 z8 z9 z10 z11 z12 z13 z14 w K:=guess6_s k hS (fun i hi=>by
   rw[hw i hi]
   by_cases g:i<j
   ·rw[if_pos g]
   ·rw[if_neg g,List.getD_eq_getElem?_getD,List.getElem?_eq_none (by omega)];rfl) (by omega) h
  exact cond_dec (fun _=>cond_dec (fun _=>by omega) (fun _=>fin)) (fun _=>fin)
 | succ m ih=>
  intro j k w hj hk hwl hw
  obtain⟨k,rfl⟩:∃ m,k=m+1:=⟨k-1,by omega⟩
  rw[C_r23_guess_3]
  simp only[Hold_eq]
  rw[Int.toNat_natCast,step64 j (by omega)]
  refine cond_dec (fun _=>cond_dec (fun _=>⟨by omega,by omega,ih (j+1) k _ (by omega) (by omega) (by rw[List.length_set];exact hwl) (fun i hi=>?_)⟩) (fun e=>by omega)) (fun e=>by omega)
  by_cases g:i=j
  ·subst g
   rw[if_pos (by omega),List.getD_eq_getElem?_getD,List.getElem?_set_self (by omega)];rfl
  ·rw[List.getD_eq_getElem?_getD,List.getElem?_set_ne (fun e=>g e.symm),<-List.getD_eq_getElem?_getD,hw i hi]
   by_cases g2:i<j
   ·rw[if_pos g2,if_pos (by omega)]
   ·rw[if_neg g2,if_neg (by omega)]
theorem guess_s(k:Nat){l:List ByteArray}(hS:Sh l)(hl:l.length<=100000){K:KG}(hk:400<=k)(h:gK K (guessM l)):F_r23_guess k l K:=by
 obtain⟨k,rfl⟩:∃ m,k=m+1:=⟨k-1,by omega⟩
 rw[F_r23_guess]
 simp only[Hold_eq]
 refine guess_loop hS hl h (min 4 l.length) 0 k _ (by omega) (by omega) (by simp) (fun i hi=>?_)
 rw[if_neg (by omega)]
 have:i=0\/i=1\/i=2\/i=3:=by omega
 rcases this with rfl|rfl|rfl|rfl<;>rfl
end Go.V
