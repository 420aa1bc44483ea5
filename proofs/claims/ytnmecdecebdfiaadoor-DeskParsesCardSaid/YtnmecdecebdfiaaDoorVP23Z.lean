import Derived.Test.YtnmecdecebdfiaaDoorVP23Y
set_option linter.unusedVariables false
set_option linter.unusedSimpArgs false
set_option maxRecDepth 8000
namespace Go.V
theorem dec_cons:∀ (d u:Nat),u<10 ^ (d+1)->∃ c r,Lib.decDigits u=c::r/\48<=c.toNat/\c.toNat<=57:=by
 intro d u h
 cases hd:Lib.decDigits u with
 | nil=>
  rw[Lib.decDigits] at hd
  split at hd
  ·cases hd
  ·exact absurd hd (by simp)
 | cons c r=>exact⟨c,r,rfl,dec_digits d u h c (by rw[hd];simp)⟩
theorem parse_dec:∀ (d u:Nat),d<=8->u<10 ^ (d+1)->∀ r,Lib.parseUint10 0 (Lib.decDigits u++r)=Lib.parseUint10 u r
 | 0,u,hd,h,r=>by
  have hu:u<10:=by omega
  rw[Lib.decDigits,dif_pos hu,List.cons_append,List.nil_append,Lib.parseUint10,UInt8.toNat_ofNat',if_pos (by omega),if_neg (by omega),if_neg (by omega)]
  congr 1;omega
 | d+1,u,hd,h,r=>by
  have hp:10 ^ (d+1)<=10 ^ 8:=Nat.pow_le_pow_right (by decide) (by omega)
  have h8:(10:Nat) ^ 8=100000000:=rfl
  rw[Lib.decDigits]
  split
  ·rename_i hu
   rw[List.cons_append,List.nil_append,Lib.parseUint10,UInt8.toNat_ofNat',if_pos (by omega),if_neg (by omega),if_neg (by omega)]
   congr 1;omega
  ·have h':u / 10<10 ^ (d+1):=by rw[Nat.pow_succ] at h;omega
   rw[List.append_assoc,parse_dec d (u / 10) (by omega) h',List.cons_append,List.nil_append,Lib.parseUint10,UInt8.toNat_ofNat',if_pos (by omega),if_neg (by omega),if_neg (by omega)]
   congr 1;omega
theorem atoi_dec{n:Nat}(h:n<=1000000):Lib.atoiAll (BL (itoaL n))=.ok (n:Int):=by
 show Lib.atoiAll (Lib.itoa n)=_
 rw[itoa_nat]
 have hp:=parse_dec 6 n (by decide) (by omega) []
 rw[List.append_nil] at hp
 obtain⟨c,r,hc,h1,h2⟩:=dec_cons 6 n (by omega)
 rw[hc] at hp ⊢
 have e1:¬(c.toNat=43\/c.toNat=45):=by omega
 have e2:¬c.toNat=45:=by omega
 simp only[Lib.atoiAll,Lib.parseMag,if_neg e1,hp,Lib.parseUint10]
 simp[e2]
 omega
theorem okN_itoa{n:Nat}(h:n<=1000000):okN (itoaL n)=true/\atoiN (itoaL n)=n:=by
 have ha:=atoi_dec h
 have h1:atoiN (itoaL n)=n:=by unfold atoiN;rw[show (itoaL (n:Int)).data.toList=BL (itoaL n) from rfl,ha]
 have h2:atoiE (itoaL n)=.nil:=by unfold atoiE;rw[show (itoaL (n:Int)).data.toList=BL (itoaL n) from rfl,ha]
 have hl:=dec_len 6 n (by omega)
 have hz:(itoaL (n:Int)).size<=7:=by unfold itoaL;rw[ofL_size,itoa_nat];omega
 refine⟨?_,h1⟩
 unfold okN
 rw[h1,h2,decide_eq_true hz,decide_eq_true (by omega:(0:Int)<=n),decide_eq_true (by omega:(n:Int)<=1000000),seq_iff.2 rfl];rfl
theorem numP_cons{no:Bool}{n:Nat}{r:List ByteArray}(h:n<=1000000):numP no (itoaL n::r)=((n:Int),no,r):=by
 unfold numP wordP
 obtain⟨h1,h2⟩:=okN_itoa h
 simp only[h1,if_true,h2]
theorem numP_cases(no:Bool)(ws:List ByteArray):(∃ n:Nat,∃ r,n<=1000000/\ws=itoaL n::r/\numP no ws=((n:Int),no,r))\/((numP no ws).2.1=true/\∀ (n:Nat) r,n<=1000000->ws≠itoaL n::r):=by
 by_cases h:∃ n:Nat,∃ r,n<=1000000/\ws=itoaL n::r
 ·obtain⟨n,r,h1,rfl⟩:=h
  exact .inl ⟨n,r,h1,rfl,numP_cons h1⟩
 ·refine .inr ⟨?_,fun n r h1 h2=>h ⟨n,r,h1,h2⟩⟩
  unfold numP
  cases ws with
  | nil=>split<;>rfl
  | cons w r=>
   rw[if_neg]
   intro hok
   obtain⟨n,h1,h2,-⟩:=okN_of hok
   exact h ⟨n,r,h1,by rw[<-h2];rfl⟩
theorem numP_true(ws:List ByteArray):(numP true ws).2.1=true:=by
 have h:(wordP true ws).2.1=true:=by cases ws<;>rfl
 unfold numP
 split
 ·exact h
 ·rfl
theorem plainP_cases(no:Bool)(ws:List ByteArray):(∃ u r,wrdB u=true/\ws=u::r/\plainP no ws=(u,no,r))\/((plainP no ws).2.1=true/\∀ u r,wrdB u=true->ws≠u::r):=by
 cases ws with
 | nil=>exact .inr ⟨rfl,fun u r _ h=>nomatch h⟩
 | cons w r=>
  cases hw:wrdB w with
  | true=>exact .inl ⟨w,r,hw,rfl,by unfold plainP wordP;simp only[simB_eq,hw,Bool.not_true,Bool.or_false]⟩
  | false=>
   refine .inr ⟨by unfold plainP wordP;simp only[simB_eq,hw,Bool.not_false,Bool.or_true],fun u r' hu h=>?_⟩
   rw[List.cons.injEq] at h
   rw[<-h.1,hw] at hu;cases hu
theorem plainP_true(ws:List ByteArray):(plainP true ws).2.1=true:=by
 unfold plainP wordP
 cases ws<;>simp
def accP(r:S_api_Act×Bool×List ByteArray):S_api_Act×Int:=if r.2.1=true\/r.2.2≠[] then (zA,200) else (r.1,0)
def accR(s:ByteArray)(a:S_api_Act):S_api_Act×Int:=if a.f0=0\/fldB a=false\/textM a≠s then (zA,200) else (a,0)
theorem accP_no{r:S_api_Act×Bool×List ByteArray}(h:r.2.1=true\/r.2.2≠[]):accP r=(zA,200):=if_pos h
theorem accR_no{s:ByteArray}{a:S_api_Act}(h:¬(fldB a=true/\textM a=s)):accR s a=(zA,200):=by
 unfold accR
 split
 ·rfl
 ·rename_i g
  simp only[not_or,ne_eq,Decidable.not_not,Bool.not_eq_false] at g
  exact absurd ⟨g.2.1,g.2.2⟩ h
theorem accR_yes{s:ByteArray}{a:S_api_Act}(h0:a.f0≠0)(h1:fldB a=true)(h2:textM a=s):accR s a=(a,0):=by
 unfold accR
 rw[if_neg (by simp[h0,h1,h2])]
theorem mayB_iff{n:Int}:mayB n=true↔∃ m:Nat,m<=1000000/\n=m:=by
 unfold mayB
 simp only[Bool.and_eq_true,decide_eq_true_eq]
 constructor
 ·rintro⟨h1,h2⟩;exact⟨n.toNat,by omega,by omega⟩
 ·rintro⟨m,h1,rfl⟩;omega
theorem I64_nat{n:Nat}(h:n<=1000000):I64 n:=by unfold I64;omega
section
variable {w s:ByteArray} {ws:List ByteArray}
theorem cls1{A:Int->S_api_Act}(hs:wordsL s=w::ws)(hw:NoB (BL w))(h0:∀ n,(A n).f0≠0)(hf:∀ n,fldB (A n)=mayB n)(ht:∀ n,textM (A n)=ofL (joinB ([w,itoaL n].map BL))) :
  accP (A (numP false ws).1,(numP false ws).2)=accR s (A (numR (ws.getD 0 ByteArray.empty))):=by
 have line:∀ n:Nat,n<=1000000->(textM (A n)=s↔ws=[itoaL n]):=fun n hn=>by
  rw[ht,line_iff (by simp) (by intro x hx;simp only[List.mem_cons,List.not_mem_nil,or_false] at hx;rcases hx with rfl|rfl;exact hw;exact itoaL_noB _ (I64_nat hn)),hs]
  simp
 rcases numP_cases false ws with ⟨n,r,hn,rfl,e⟩|⟨e,h⟩
 ·rw[e]
  have e1:numR ((itoaL (n:Int)::r).getD 0 ByteArray.empty)=n:=numR_itoa hn
  rw[e1]
  cases r with
  | nil=>rw[accR_yes (h0 _) (by rw[hf];exact mayB_iff.2 ⟨n,hn,rfl⟩) ((line n hn).2 rfl)];rfl
  | cons x r=>
   rw[accP_no (.inr (by simp)),accR_no]
   rintro⟨-,h2⟩
   have:=(line n hn).1 h2
   simp at this
 ·rw[accP_no (.inl e),accR_no]
  rintro⟨h1,h2⟩
  rw[hf] at h1
  obtain⟨n,hn,e2⟩:=mayB_iff.1 h1
  rw[e2] at h2
  exact h n [] hn ((line n hn).1 h2)
theorem cls2{A:Int->Int->S_api_Act}(hs:wordsL s=w::ws)(hw:NoB (BL w))(h0:∀ n m,(A n m).f0≠0)(hf:∀ n m,0<=m->fldB (A n m)=(mayB n&&mayB m))(ht:∀ n m,0<=m->textM (A n m)=ofL (joinB ([w,itoaL n,itoaL m].map BL))) :
  accP (A (numP false ws).1 (numP (numP false ws).2.1 (numP false ws).2.2).1,(numP (numP false ws).2.1 (numP false ws).2.2).2)=accR s (A (numR (ws.getD 0 ByteArray.empty)) (numR (ws.getD 1 ByteArray.empty))):=by
 have line:∀ n m:Nat,n<=1000000->m<=1000000->(textM (A n m)=s↔ws=[itoaL n,itoaL m]):=fun n m hn hm=>by
  rw[ht _ _ (by omega),line_iff (by simp) (by intro x hx;simp only[List.mem_cons,List.not_mem_nil,or_false] at hx;rcases hx with rfl|rfl|rfl;exact hw;exact itoaL_noB _ (I64_nat hn);exact itoaL_noB _ (I64_nat hm)),hs]
  simp
 have no:(∀ n m:Nat,n<=1000000->m<=1000000->ws≠[itoaL n,itoaL m])->accR s (A (numR (ws.getD 0 ByteArray.empty)) (numR (ws.getD 1 ByteArray.empty)))=(zA,200):=fun h=>accR_no (by
  rintro⟨h1,h2⟩
  rw[hf _ _ (show (0:Int)<=numR _ from numG_nn _ _ (by decide)),Bool.and_eq_true] at h1
  obtain⟨n,hn,e2⟩:=mayB_iff.1 h1.1
  obtain⟨m,hm,e3⟩:=mayB_iff.1 h1.2
  rw[e2,e3] at h2
  exact h n m hn hm ((line n m hn hm).1 h2))
 rcases numP_cases false ws with ⟨n,r,hn,rfl,e⟩|⟨e,h⟩
 ·rw[e]
  rcases numP_cases false r with ⟨m,r',hm,rfl,e'⟩|⟨e',h'⟩
  ·show accP (A n (numP false (itoaL m::r')).1,(numP false (itoaL m::r')).2)=_
   rw[e']
   have e1:numR ((itoaL (n:Int)::itoaL (m:Int)::r').getD 0 ByteArray.empty)=n:=numR_itoa hn
   have e2:numR ((itoaL (n:Int)::itoaL (m:Int)::r').getD 1 ByteArray.empty)=m:=numR_itoa hm
   cases r' with
   | nil=>rw[e1,e2,accR_yes (h0 _ _) (by rw[hf _ _ (by omega),Bool.and_eq_true];exact⟨mayB_iff.2 ⟨n,hn,rfl⟩,mayB_iff.2 ⟨m,hm,rfl⟩⟩) ((line n m hn hm).2 rfl)];rfl
   | cons x r=>
    rw[accP_no (.inr (by simp)),no]
    intro n m _ _ h
    simp at h
  ·rw[accP_no (.inl e'),no]
   intro n' m hn' hm h
   rw[List.cons.injEq] at h
   exact h' m [] hm h.2
 ·rw[accP_no (.inl (by show (numP (numP false ws).2.1 _).2.1=true;rw[e];exact numP_true _)),no]
  intro n m hn hm h2
  exact h n _ hn h2
theorem cls1u{A:Int->ByteArray->S_api_Act}(hs:wordsL s=w::ws)(hw:NoB (BL w))(h0:∀ n u,(A n u).f0≠0)(hf:∀ n u,fldB (A n u)=(mayB n&&wrdB u))(ht:∀ n u,textM (A n u)=ofL (joinB ([w,itoaL n,u].map BL))) :
  accP (A (numP false ws).1 (plainP (numP false ws).2.1 (numP false ws).2.2).1,(plainP (numP false ws).2.1 (numP false ws).2.2).2)=accR s (A (numR (ws.getD 0 ByteArray.empty)) (ws.getD 1 ByteArray.empty)):=by
 have line:∀ (n:Nat) u,n<=1000000->wrdB u=true->(textM (A n u)=s↔ws=[itoaL n,u]):=fun n u hn hu=>by
  rw[ht,line_iff (by simp) (by intro x hx;simp only[List.mem_cons,List.not_mem_nil,or_false] at hx;rcases hx with rfl|rfl|rfl;exact hw;exact itoaL_noB _ (I64_nat hn);exact wrdB_noB hu),hs]
  simp
 have no:(∀ (n:Nat) u,n<=1000000->wrdB u=true->ws≠[itoaL n,u])->accR s (A (numR (ws.getD 0 ByteArray.empty)) (ws.getD 1 ByteArray.empty))=(zA,200):=fun h=>accR_no (by
  rintro⟨h1,h2⟩
  rw[hf,Bool.and_eq_true] at h1
  obtain⟨n,hn,e2⟩:=mayB_iff.1 h1.1
  rw[e2] at h2
  exact h n _ hn h1.2 ((line n _ hn h1.2).1 h2))
 rcases numP_cases false ws with ⟨n,r,hn,rfl,e⟩|⟨e,h⟩
 ·rw[e]
  rcases plainP_cases false r with ⟨u,r',hu,rfl,e'⟩|⟨e',h'⟩
  ·show accP (A n (plainP false (u::r')).1,(plainP false (u::r')).2)=_
   rw[e']
   have e1:numR ((itoaL (n:Int)::u::r').getD 0 ByteArray.empty)=n:=numR_itoa hn
   have e2:(itoaL (n:Int)::u::r').getD 1 ByteArray.empty=u:=rfl
   cases r' with
   | nil=>rw[e1,e2,accR_yes (h0 _ _) (by rw[hf,Bool.and_eq_true];exact⟨mayB_iff.2 ⟨n,hn,rfl⟩,hu⟩) ((line n u hn hu).2 rfl)];rfl
   | cons x r=>
    rw[accP_no (.inr (by simp)),no]
    intro n u _ _ h
    simp at h
  ·rw[accP_no (.inl e'),no]
   intro n' u hn' hu h
   rw[List.cons.injEq] at h
   exact h' u [] hu h.2
 ·rw[accP_no (.inl (by show (plainP (numP false ws).2.1 _).2.1=true;rw[e];exact plainP_true _)),no]
  intro n u hn hu h2
  exact h n _ hn h2
theorem cls2u{A:Int->ByteArray->ByteArray->S_api_Act}(hs:wordsL s=w::ws)(hw:NoB (BL w))(h0:∀ n u v,(A n u v).f0≠0)(hf:∀ n u v,fldB (A n u v)=(mayB n&&(wrdB u&&wrdB v)))(ht:∀ n u v,textM (A n u v)=ofL (joinB ([w,itoaL n,u,v].map BL))) :
  accP (A (numP false ws).1 (plainP (numP false ws).2.1 (numP false ws).2.2).1 (plainP (plainP (numP false ws).2.1 (numP false ws).2.2).2.1 (plainP (numP false ws).2.1 (numP false ws).2.2).2.2).1,(plainP (plainP (numP false ws).2.1 (numP false ws).2.2).2.1 (plainP (numP false ws).2.1 (numP false ws).2.2).2.2).2) =
   accR s (A (numR (ws.getD 0 ByteArray.empty)) (ws.getD 1 ByteArray.empty) (ws.getD 2 ByteArray.empty)):=by
 have line:∀ (n:Nat) u v,n<=1000000->wrdB u=true->wrdB v=true->(textM (A n u v)=s↔ws=[itoaL n,u,v]):=fun n u v hn hu hv=>by
  rw[ht,line_iff (by simp) (by intro x hx;simp only[List.mem_cons,List.not_mem_nil,or_false] at hx;rcases hx with rfl|rfl|rfl|rfl;exact hw;exact itoaL_noB _ (I64_nat hn);exact wrdB_noB hu;exact wrdB_noB hv),hs]
  simp
 have no:(∀ (n:Nat) u v,n<=1000000->wrdB u=true->wrdB v=true->ws≠[itoaL n,u,v])->accR s (A (numR (ws.getD 0 ByteArray.empty)) (ws.getD 1 ByteArray.empty) (ws.getD 2 ByteArray.empty))=(zA,200):=fun h=>accR_no (by
  rintro⟨h1,h2⟩
  rw[hf,Bool.and_eq_true,Bool.and_eq_true] at h1
  obtain⟨n,hn,e2⟩:=mayB_iff.1 h1.1
  rw[e2] at h2
  exact h n _ _ hn h1.2.1 h1.2.2 ((line n _ _ hn h1.2.1 h1.2.2).1 h2))
 rcases numP_cases false ws with ⟨n,r,hn,rfl,e⟩|⟨e,h⟩
 ·rw[e]
  rcases plainP_cases false r with ⟨u,r',hu,rfl,e'⟩|⟨e',h'⟩
  ·show accP (A n (plainP false (u::r')).1 (plainP (plainP false (u::r')).2.1 (plainP false (u::r')).2.2).1,(plainP (plainP false (u::r')).2.1 (plainP false (u::r')).2.2).2)=_
   rw[e']
   rcases plainP_cases false r' with ⟨v,r2,hv,rfl,e2⟩|⟨e2,h2⟩
   ·show accP (A n u (plainP false (v::r2)).1,(plainP false (v::r2)).2)=_
    rw[e2]
    have e3:numR ((itoaL (n:Int)::u::v::r2).getD 0 ByteArray.empty)=n:=numR_itoa hn
    have e4:(itoaL (n:Int)::u::v::r2).getD 1 ByteArray.empty=u:=rfl
    have e5:(itoaL (n:Int)::u::v::r2).getD 2 ByteArray.empty=v:=rfl
    cases r2 with
    | nil=>rw[e3,e4,e5,accR_yes (h0 _ _ _) (by rw[hf,Bool.and_eq_true,Bool.and_eq_true];exact⟨mayB_iff.2 ⟨n,hn,rfl⟩,hu,hv⟩) ((line n u v hn hu hv).2 rfl)];rfl
    | cons x r=>
     rw[accP_no (.inr (by simp)),no]
     intro n u v _ _ _ h
     simp at h
   ·rw[accP_no (.inl e2),no]
    intro n' u' v hn' hu' hv h
    simp only[List.cons.injEq] at h
    exact h2 v [] hv h.2.2
  ·rw[accP_no (.inl (by show (plainP (plainP false r).2.1 _).2.1=true;rw[e'];exact plainP_true _)),no]
   intro n' u v hn' hu hv h
   rw[List.cons.injEq] at h
   exact h' u _ hu h.2
 ·rw[accP_no (.inl (by show (plainP (plainP (numP false ws).2.1 _).2.1 _).2.1=true;rw[e,plainP_true];exact plainP_true _)),no]
  intro n u v hn hu hv h2
  exact h n _ hn h2
end
end Go.V
