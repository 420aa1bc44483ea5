import Derived.Test.YtgeonfbhejigjaaGreatDoorVI10V
import Derived.Test.YtgeonfbhejigjaaGreatDoorVI10E
import Derived.Test.YtgeonfbhejigjaaGreatDoorVJ09
set_option linter.unusedVariables false
set_option linter.unusedSimpArgs false
set_option maxRecDepth 4000
namespace Go.V
section
variable {e:Int} {us:List S_api_User} {hs:List S_api_Head} {ss:List S_api_Session}
theorem sess_loop(hn:ss.length<=100000):∀ (m j k:Nat) (ok:Bool) (last:Int) {K:Int->Prop},j+m=ss.length->4*m+20<=k->K (cond (ok&&sessGo e last (ss.drop j)) 0 70) →
  C_directory_Check_18 k ok last ss (ss.length:Int) (j:Int) e us hs ss K:=by
 intro m
 induction m with
 | zero=>
  intro j k ok last K hj hk h
  obtain⟨k,rfl⟩:∃ m,k=m+1:=⟨k-1,by omega⟩
  rw[C_directory_Check_18]
  rw[List.drop_of_length_le (by omega),sessGo,Bool.and_true] at h
  refine cond_dec (fun h1=>by omega) (fun h1=>?_)
  cases ok<;>exact h
 | succ m ih=>
  intro j k ok last K hj hk h
  obtain⟨k,rfl⟩:∃ m,k=m+3:=⟨k-3,by omega⟩
  rw[C_directory_Check_18]
  simp only[Hold_eq]
  have hj1:j<ss.length:=by omega
  refine cond_dec (fun h1=>?_) (fun h1=>by omega)
  rw[Int.toNat_natCast,getD_at hj1]
  rw[drop_cons hj1,sessGo,<-Bool.and_assoc] at h
  have next:∀ b:Bool,b=(ok&&sessOk last e ss[j])->C_directory_Check_21 (k+2) b ss (ss.length:Int) (j:Int) e us hs ss ss[j].f0 ss[j].f1 ss[j].f2 ss[j].f3 K:=by
   intro b hb
   rw[C_directory_Check_21]
   simp only[Hold_eq]
   rw[C_directory_Check_22]
   simp only[Hold_eq]
   rw[step64 j (by omega)]
   exact ih (j+1) k b _ (by omega) (by omega) (by rw[hb];exact h)
  refine⟨by omega,cond_b (fun h2=>cond_dec (fun h3=>cond_dec (fun h4=>within_s (k+2) (by omega) (cond_b (fun h5=>within_s (k+2) (by omega) (cond_b (fun h6=>within_s (k+2) (by omega) (next _ ?_)) (fun h6=>next _ ?_))) (fun h5=>next _ ?_))) (fun h4=>next _ ?_)) (fun h3=>next _ ?_)) (fun h2=>next _ ?_)⟩
  ·unfold sessOk;rw[h2,h5,h6,decide_eq_true h3,decide_eq_true h4];simp only[Bool.true_and]
  ·unfold sessOk;rw[h6,Bool.false_and,Bool.and_false,Bool.and_false,Bool.and_false,Bool.and_false]
  ·unfold sessOk;rw[h5,Bool.false_and,Bool.and_false,Bool.and_false,Bool.and_false]
  ·unfold sessOk;rw[decide_eq_false h4,Bool.false_and,Bool.and_false,Bool.and_false]
  ·unfold sessOk;rw[decide_eq_false h3,Bool.false_and,Bool.and_false]
  ·rw[h2,Bool.false_and]
theorem heads_loop(hh:∀ h∈hs,HeadOk h)(hn:hs.length<=100000)(hns:ss.length<=100000):∀ (m j k:Nat) (ok:Bool) {K:Int->Prop},j+m=hs.length->4*m+410000<=k->K (cond (ok&&(headsGo hs m j&&sessGo e 0 ss)) 0 70) →
  C_directory_Check_12 k ok hs (hs.length:Int) (j:Int) e us hs ss K:=by
 intro m
 induction m with
 | zero=>
  intro j k ok K hj hk h
  obtain⟨k,rfl⟩:∃ m,k=m+1:=⟨k-1,by omega⟩
  rw[C_directory_Check_12]
  simp only[Hold_eq]
  rw[headsGo,Bool.true_and] at h
  exact cond_dec (fun h1=>by omega) (fun h1=>sess_loop hns ss.length 0 k ok 0 (by omega) (by omega) h)
 | succ m ih=>
  intro j k ok K hj hk h
  obtain⟨k,rfl⟩:∃ m,k=m+2:=⟨k-2,by omega⟩
  rw[C_directory_Check_12]
  simp only[Hold_eq]
  have hj1:j<hs.length:=by omega
  refine cond_dec (fun h1=>?_) (fun h1=>by omega)
  rw[Int.toNat_natCast,getD_at hj1,step64 j (by omega)]
  rw[headsGo,getD_at hj1,Bool.and_assoc,<-Bool.and_assoc] at h
  have next:∀ b:Bool,b=(ok&&(decide (hs[j].f0=((j+1:Nat):Int))&&decide (hs[j].f2=prevL hs j)))->C_directory_Check_15 (k+1) b hs (hs.length:Int) (j:Int) e us hs ss K:=by
   intro b hb
   rw[C_directory_Check_15]
   simp only[Hold_eq]
   rw[step64 j (by omega)]
   exact ih (j+1) k b (by omega) (by omega) (by rw[hb];exact h)
  refine⟨by omega,cond_b (fun h2=>cond_dec (fun h3=>⟨by omega,prev_s (k+1) hh (by omega) hn (by omega) (next _ ?_)⟩) (fun h3=>next _ ?_)) (fun h2=>next _ ?_)⟩
  ·rw[h2,decide_eq_true h3,Bool.true_and,Bool.true_and]
  ·rw[decide_eq_false h3,Bool.false_and,Bool.and_false]
  ·rw[h2,Bool.false_and]
theorem users_loop2(he:0<=e/\e<=200)(hv:∀ u∈us,u.f1.length<=100000)(hu:us.length<=64)(hh:∀ h∈hs,HeadOk h)(hn:hs.length<=100000)(hns:ss.length<=100000):∀ (m j k:Nat) (ok:Bool) (was:ByteArray) {K:Int->Prop},j+m=us.length->4*m+820000<=k →
  K (cond (ok&&(usersGo e was (us.drop j)&&(headsB hs&&sessGo e 0 ss))) 0 70) →
  C_directory_Check_6 k ok was us (us.length:Int) (j:Int) e us hs ss K:=by
 intro m
 induction m with
 | zero=>
  intro j k ok was K hj hk h
  obtain⟨k,rfl⟩:∃ m,k=m+1:=⟨k-1,by omega⟩
  rw[C_directory_Check_6]
  simp only[Hold_eq]
  rw[List.drop_of_length_le (by omega),usersGo,Bool.true_and] at h
  exact cond_dec (fun h1=>by omega) (fun h1=>heads_loop hh hn hns hs.length 0 k ok (by omega) (by omega) h)
 | succ m ih=>
  intro j k ok was K hj hk h
  obtain⟨k,rfl⟩:∃ m,k=m+3:=⟨k-3,by omega⟩
  rw[C_directory_Check_6]
  simp only[Hold_eq]
  have hj1:j<us.length:=by omega
  refine cond_dec (fun h1=>?_) (fun h1=>by omega)
  have hv1:=hv _ (List.getElem_mem hj1)
  rw[Int.toNat_natCast,getD_at hj1,slt_tri]
  rw[drop_cons hj1,usersGo,Bool.and_assoc,<-Bool.and_assoc] at h
  have next:∀ b:Bool,b=(ok&&userOk was e us[j])->C_directory_Check_9 (k+2) b us (us.length:Int) (j:Int) e us hs ss us[j].f0 us[j].f1 K:=by
   intro b hb
   rw[C_directory_Check_9]
   simp only[Hold_eq]
   rw[C_directory_Check_10]
   simp only[Hold_eq]
   rw[step64 j (by omega)]
   exact ih (j+1) k b _ (by omega) (by omega) (by rw[hb];exact h)
  refine⟨by omega,cond_b (fun h2=>cond_b (fun h3=>name_s (k+2) (by omega) (cond_b (fun h4=>cond_dec (fun h5=>version_Check_s (k+2) (by omega) ?_) (fun h5=>next _ ?_)) (fun h4=>next _ ?_))) (fun h3=>next _ ?_)) (fun h2=>next _ ?_)⟩
  ·have h0:0<us[j].f1.length:=by omega
   cases h6:versB us[j].f1
   ·rw[cond_false]
    exact next false (by unfold userOk;rw[h6,Bool.false_and,Bool.and_false,Bool.and_false,Bool.and_false,Bool.and_false])
   ·rw[cond_true]
    have e2:IntKind.i64.wrap ((us[j].f1.length:Int)-1)=((us[j].f1.length-1:Nat):Int):=by rw[wrap64 (by omega)];omega
    have e3:IntKind.i64.wrap (e+1)=e+1:=wrap64 (by omega)
    rw[e2,e3,Int.toNat_natCast]
    show (0<=((us[j].f1.length-1:Nat):Int)/\((us[j].f1.length-1:Nat):Int)<(us[j].f1.length:Int))/\_
    refine⟨by omega,next _ ?_⟩
    unfold userOk
    rw[h2,h3,h4,h6,decide_eq_true h0,wasE_end h0]
    simp only[Bool.true_and]
  ·unfold userOk;rw[decide_eq_false (by omega:¬0<us[j].f1.length),Bool.false_and,Bool.and_false,Bool.and_false,Bool.and_false]
  ·unfold userOk;rw[h4,Bool.false_and,Bool.and_false,Bool.and_false]
  ·unfold userOk;rw[h3,Bool.false_and,Bool.and_false]
  ·rw[h2,Bool.false_and]
theorem Check_s(k:Nat){K:Int->Prop}(hv:∀ u∈us,u.f1.length<=100000)(hh:∀ h∈hs,HeadOk h)(hn:hs.length<=100000)(hns:ss.length<=100000)(hk:900000<=k)(h:K (cond (dirB e us hs ss) 0 70)):F_directory_Check k e us hs ss K:=by
 obtain⟨k,rfl⟩:∃ m,k=m+2:=⟨k-2,by omega⟩
 rw[F_directory_Check]
 simp only[Hold_eq]
 unfold dirB at h
 have e4:decide (((List.length ss:Nat):Int)<=(4:Int))=decide (ss.length<=4):=decide_eq_decide.2 (by omega)
 refine within_s (k+1) (by omega) (cond_b (fun h1=>cond_dec (fun h2=>cond_dec (fun h3=>?_) (fun h3=>?_)) (fun h2=>?_)) (fun h1=>?_))<;>rw[C_directory_Check_2]<;>simp only[Hold_eq]
 ·rw[h1,decide_eq_true (by omega:us.length<=64),decide_eq_true h3,Bool.true_and,Bool.true_and,Bool.true_and,<-e4] at h
  rw[Bool.and_eq_true] at h1
  have he:0<=e/\e<=200:=⟨of_decide_eq_true h1.1,of_decide_eq_true h1.2⟩
  cases h5:decide (((List.length ss:Nat):Int)<=(4:Int))
  ·rw[h5] at h;exact h
  ·rw[h5,Bool.true_and] at h
   exact users_loop2 he hv (by omega) hh hn hns us.length 0 k true str0 (by omega) (by omega) (by rw[Bool.true_and];exact h)
 ·rw[decide_eq_false h3,Bool.false_and,Bool.and_false,Bool.and_false] at h;exact h
 ·rw[decide_eq_false (by omega:¬us.length<=64),Bool.false_and,Bool.and_false] at h;exact h
 ·rw[h1,Bool.false_and] at h;exact h
end
section
variable {kd c s:Int} {u key:ByteArray} {ep:Int} {root:List Int}
def clientB(c s:Int)(u:ByteArray)(ep:Int)(root:List Int):Bool:=(decide (1<=c)&&decide (c<=4))&&((decide (1<=s)&&decide (s<=1000000))&&(nameB u&&(decide (ep=0)&&decide (root=z32))))
def nobodyB(c s:Int)(u key:ByteArray)(ep:Int):Bool:=decide (c=0)&&(decide (s=0)&&(seq u str0&&(seq key str0&&(decide (1<=ep)&&decide (ep<=200)))))
def key64(key:ByteArray):Bool:=decide (1<=key.size)&&decide (key.size<=64)
def mayC(kd c s:Int)(u key:ByteArray)(ep:Int)(root:List Int):Bool:=
 if kd=1\/kd=2 then clientB c s u ep root&&key64 key else if kd=3 then clientB c s u ep root&&seq key str0
 else if kd=4 then nobodyB c s u key ep&&decide (root=z32) else if kd=5 then nobodyB c s u key ep else false
theorem key64_s:(decide ((1:Int)<=((ByteArray.size key:Nat):Int))&&decide (((ByteArray.size key:Nat):Int)<=(64:Int)))=key64 key:=by
 unfold key64
 rw[show (1:Int)=((1:Nat):Int) from rfl,show (64:Int)=((64:Nat):Int) from rfl,nat_le,nat_le]
theorem May12_s(k:Nat){ok:Bool}{K:Bool->Prop}(hk:5<=k)(h:K (clientB c s u ep root&&ok)):C_directory_May_12 k ok kd c s u key ep root (0:Int) (0:Int) (0:Int) str0 str0 ep root K:=by
 obtain⟨k,rfl⟩:∃ m,k=m+1:=⟨k-1,by omega⟩
 rw[C_directory_May_12]
 simp only[Hold_eq,decide_true,Bool.true_and,Bool.and_true]
 rw[show seq str0 ByteArray.empty=true from decide_eq_true rfl,Bool.true_and,Bool.true_and]
 unfold clientB at h
 refine cond_b (fun h1=>cond_b (fun h2=>within_s k (by omega) (cond_b (fun h3=>within_s k (by omega) (cond_b (fun h4=>name_s k (by omega) ?_) (fun h4=>?_))) (fun h3=>?_))) (fun h2=>?_)) (fun h1=>?_)
 ·rw[h1,h2,h3,h4,Bool.true_and,Bool.true_and,Bool.and_true,Bool.and_true] at h;exact h
 ·rw[h4,Bool.false_and,Bool.and_false,Bool.false_and] at h;exact h
 ·rw[h3,Bool.false_and,Bool.false_and] at h;exact h
 ·rw[h2,Bool.and_false] at h;exact h
 ·rw[h1,Bool.and_false,Bool.and_false,Bool.and_false,Bool.false_and] at h;exact h
theorem May8_s(k:Nat){K:Bool->Prop}(hk:7<=k)(h:K (clientB c s u ep root&&cond (decide (kd=3)) (seq key str0) (key64 key))):C_directory_May_8 k kd c s u key ep root (0:Int) c s u key ep root K:=by
 obtain⟨k,rfl⟩:∃ m,k=m+1:=⟨k-1,by omega⟩
 rw[C_directory_May_8]
 simp only[Hold_eq]
 refine within_s k (by omega) ?_
 rw[key64_s]
 refine cond_dec (fun h1=>May12_s k (by omega) ?_) (fun h1=>May12_s k (by omega) ?_)
 ·rw[decide_eq_true h1] at h;exact h
 ·rw[decide_eq_false h1] at h;exact h
theorem May16_s(k:Nat){r:List Int}{K:Bool->Prop}(hk:5<=k)(h:K (nobodyB c s u key ep&&decide (r=z32))):C_directory_May_16 k kd c s u key ep root (0:Int) c s u key ep r K:=by
 obtain⟨k,rfl⟩:∃ m,k=m+2:=⟨k-2,by omega⟩
 rw[C_directory_May_16]
 simp only[Hold_eq]
 rw[C_directory_May_17]
 simp only[Hold_eq,decide_true,Bool.true_and,Bool.and_true]
 rw[show ByteArray.empty=str0 from rfl]
 unfold nobodyB at h
 refine cond_b (fun h1=>within_s k (by omega) ?_) (fun h1=>?_)
 ·simp only[Bool.and_eq_true] at h1
  obtain⟨a1,a2,a3,a4,a5⟩:=h1
  rw[a1,a2,a3,a4,a5,Bool.and_true,Bool.true_and,Bool.true_and,Bool.true_and,Bool.true_and] at h
  exact h
 ·have:(decide (c=0)&&(decide (s=0)&&(seq u str0&&(seq key str0&&(decide (1<=ep)&&decide (ep<=200)))))&&decide (r=z32))=false:=by
   revert h1
   cases decide (c=0)<;>cases decide (s=0)<;>cases seq u str0<;>cases seq key str0<;>cases decide (r=z32)<;>simp
  rw[this] at h;exact h
theorem May13_s(k:Nat){K:Bool->Prop}(hk:7<=k)(h:K (if kd=4 then nobodyB c s u key ep&&decide (root=z32) else if kd=5 then nobodyB c s u key ep else false)):C_directory_May_13 k kd kd c s u key ep root (0:Int) c s u key ep root K:=by
 obtain⟨k,rfl⟩:∃ m,k=m+1:=⟨k-1,by omega⟩
 rw[C_directory_May_13]
 simp only[Hold_eq]
 refine cond_dec (fun h1=>?_) (fun h1=>cond_dec (fun h2=>?_) (fun h2=>?_))
 ·rw[if_neg (by omega),if_pos h1] at h
  refine May16_s k (by omega) ?_
  rw[show decide (([0,0,0,0,0,0,0,0,0,0,0,0,0,0,0,0,0,0,0,0,0,0,0,0,0,0,0,0,0,0,0,0]:List Int)=z32)=true from decide_eq_true rfl,Bool.and_true]
  exact h
 ·rw[if_pos h2] at h
  exact May16_s k (by omega) h
 ·rw[if_neg h2,if_neg h1] at h;exact h
theorem directory_May_s(k:Nat){K:Bool->Prop}(hk:10<=k)(h:K (mayC kd c s u key ep root)):F_directory_May k kd c s u key ep root K:=by
 obtain⟨k,rfl⟩:∃ m,k=m+1:=⟨k-1,by omega⟩
 rw[F_directory_May]
 simp only[Hold_eq]
 unfold mayC at h
 refine cond_dec (fun h1=>cond_dec (fun _=>?_) (fun g=>absurd h1 g)) (fun h1=>cond_dec (fun h2=>cond_dec (fun _=>?_) (fun g=>absurd h2 g)) (fun h2=>cond_dec (fun h3=>?_) (fun h3=>?_)))
 ·rw[if_pos (.inl h1)] at h
  exact May8_s k (by omega) (by rw[decide_eq_false (by omega),cond_false];exact h)
 ·rw[if_pos (.inr h2)] at h
  exact May8_s k (by omega) (by rw[decide_eq_false (by omega),cond_false];exact h)
 ·rw[if_neg (by omega),if_pos h3] at h
  exact May8_s k (by omega) (by rw[decide_eq_true h3,cond_true];exact h)
 ·rw[if_neg (by omega),if_neg h3] at h
  exact May13_s k (by omega) h
end
end Go.V
