import Derived.Test.YtnmecdecebdfiaaDoorVP23M
set_option linter.unusedVariables false
set_option linter.unusedSimpArgs false
set_option maxRecDepth 8000
namespace Go.V
section
variable {s:ByteArray} {ws:List ByteArray}
theorem BT_crash:BL str40=BL str18++[32]:=rfl
theorem BL_now:BL str41=32::BL str19:=rfl
theorem NoB_now:NoB (BL str19):=by unfold NoB;decide +kernel
theorem NoB_crash:NoB (BL str18):=by unfold NoB;decide +kernel
theorem now_ne{n:Nat}(h:n<=1000000):itoaL n≠str19:=by
 intro e
 obtain⟨c,r,hc,h1,h2⟩:=dec_cons 6 n (by omega)
 have:=congrArg BL e
 rw[show BL (itoaL (n:Int))=Lib.itoa n from rfl,itoa_nat,hc,show BL str19=[110,111,119] from rfl,List.cons.injEq] at this
 rw[this.1] at h2
 exact absurd h2 (by decide)
abbrev cr(n m:Int):S_api_Act:=S_api_Act.mk 12 n m 0 zC 0 ByteArray.empty zH
theorem fld_cr(n m:Int):fldB (cr n m)=(mayB n&&(mayB m||decide (m = -1))):=by simp[fldB,may0]
theorem par_crash(hs:wordsL s=str18::ws):accP (actW (str18::ws))=accR s (guessM (str18::ws)):=by
 have e1:actW (str18::ws)=res_crash false (str18::ws) 1:=by
  show actM str18 false (str18::ws) 1=_
  unfold actM
  rw[if_neg (by decide +kernel),if_neg (by decide +kernel),if_neg (by decide +kernel),if_neg (by decide +kernel),if_neg (by decide +kernel),if_neg (by decide +kernel),if_neg (by decide +kernel),if_neg (by decide +kernel),if_neg (by decide +kernel),if_neg (by decide +kernel),if_neg (by decide +kernel),if_neg (by decide +kernel),if_neg (by decide +kernel),if_neg (by decide +kernel),if_neg (by decide +kernel),if_pos rfl]
 have e2:guessM (str18::ws)=if ws.getD 1 ByteArray.empty=str19 then cr (numR (ws.getD 0 ByteArray.empty)) (-1) else cr (numR (ws.getD 0 ByteArray.empty)) (numR (ws.getD 1 ByteArray.empty)):=by
  unfold guessM
  rw[show (str18::ws).getD 0 ByteArray.empty=str18 from rfl,if_neg (by decide +kernel),if_neg (by decide +kernel),if_neg (by decide +kernel),if_neg (by decide +kernel),if_neg (by decide +kernel),if_neg (by decide +kernel),if_neg (by decide +kernel),if_neg (by decide +kernel),if_neg (by decide +kernel),if_neg (by decide +kernel),if_neg (by decide +kernel),if_neg (by decide +kernel),if_neg (by decide +kernel),if_neg (by decide +kernel),if_neg (by decide +kernel),if_pos rfl]
  rfl
 rw[e1,e2]
 have e3:res_crash false (str18::ws) 1=if (numP false ws).2.2=[str19] then (cr (numP false ws).1 (-1),(numP false ws).2.1,[]) else (cr (numP false ws).1 (numP (numP false ws).2.1 (numP false ws).2.2).1,(numP (numP false ws).2.1 (numP false ws).2.2).2):=rfl
 rw[e3]
 have t1:∀ n,textM (cr n (-1))=ofL (joinB ([str18,itoaL n,str19].map BL)):=fun n=>BL_eq (by show BL ((str40++itoaL n)++str41)=_;simp only[BT_crash,BL_now,BL_app,List.map_cons,List.map_nil,joinB,List.append_assoc,List.cons_append,List.nil_append])
 have line:∀ n:Nat,n<=1000000->(textM (cr n (-1))=s↔ws=[itoaL n,str19]):=fun n hn=>by
  rw[t1,line_iff (by simp) (by intro x hx;simp only[List.mem_cons,List.not_mem_nil,or_false] at hx;rcases hx with rfl|rfl|rfl;exact NoB_crash;exact itoaL_noB _ (I64_nat hn);exact NoB_now),hs]
  simp
 by_cases hnow:ws.getD 1 ByteArray.empty=str19
 ·rw[if_pos hnow]
  have no:(∀ n:Nat,n<=1000000->ws≠[itoaL n,str19])->accR s (cr (numR (ws.getD 0 ByteArray.empty)) (-1))=(zA,200):=fun h=>accR_no (by
   rintro⟨h1,h2⟩
   rw[fld_cr,Bool.and_eq_true] at h1
   obtain⟨n,hn,e⟩:=mayB_iff.1 h1.1
   rw[e] at h2
   exact h n hn ((line n hn).1 h2))
  rcases numP_cases false ws with ⟨n,r,hn,rfl,e⟩|⟨e,h⟩
  ·rw[e]
   have e4:numR ((itoaL (n:Int)::r).getD 0 ByteArray.empty)=n:=numR_itoa hn
   cases r with
   | nil=>
    have:(ByteArray.empty:ByteArray)=str19:=hnow
    exact absurd this (by decide +kernel)
   | cons v r=>
    have hv:v=str19:=hnow
    subst hv
    cases r with
    | nil=>
     rw[e4,accR_yes (by decide:(12:Int)≠0) (by rw[fld_cr,mayB_iff.2 ⟨n,hn,rfl⟩];rfl) ((line n hn).2 rfl)]
     rfl
    | cons x r=>
     show accP (if (str19::x::r)=[str19] then _ else _)=_
     rw[if_neg (by simp),no (by intro n _ h;simp at h)]
     rcases numP_cases false (str19::x::r) with ⟨m,r',hm,h2,-⟩|⟨h2,-⟩
     ·rw[List.cons.injEq] at h2
      exact absurd h2.1.symm (now_ne hm)
     ·exact accP_no (.inl h2)
  ·have p1:accP (if (numP false ws).2.2=[str19] then (cr (numP false ws).1 (-1),(numP false ws).2.1,[]) else (cr (numP false ws).1 (numP (numP false ws).2.1 (numP false ws).2.2).1,(numP (numP false ws).2.1 (numP false ws).2.2).2))=(zA,200):=by
    split
    ·exact accP_no (.inl e)
    ·exact accP_no (.inl (by show (numP (numP false ws).2.1 _).2.1=true;rw[e];exact numP_true _))
   rw[p1,no (fun n hn h2=>h n _ hn h2)]
 ·rw[if_neg hnow]
  have hne:(numP false ws).2.2≠[str19]\/(numP false ws).2.1=true:=by
   rcases numP_cases false ws with ⟨n,r,hn,rfl,e⟩|⟨e,h⟩
   ·refine .inl fun h=>hnow ?_
    rw[e] at h
    have h:r=[str19]:=h
    rw[h];rfl
   ·exact .inr e
  have main:=cls2 (A:=cr) hs NoB_crash (fun _ _=>(by decide:(12:Int)≠0)) (fun n m hm=>by rw[fld_cr,decide_eq_false (by omega),Bool.or_false])
   (fun n m hm=>BL_eq (by
    have:textM (cr n m)=((str40++itoaL n)++str0)++itoaL m:=by
     show (if m<0 then (str40++itoaL n)++str41 else ((str40++itoaL n)++str0)++itoaL m)=_
     rw[if_neg (by omega)]
    rw[this]
    simp only[BT_crash,BL_str0,BL_app,List.map_cons,List.map_nil,joinB,List.append_assoc,List.cons_append,List.nil_append]))
  rw[<-main]
  by_cases h:(numP false ws).2.2=[str19]
  ·rw[if_pos h,accP_no (.inl (hne.resolve_left fun e=>e h)),accP_no (.inl (by show (numP (numP false ws).2.1 _).2.1=true;rw[hne.resolve_left fun e=>e h];exact numP_true _))]
  ·rw[if_neg h]
end
def parR(s:ByteArray):S_api_Act×Int:=if 200<s.size then (zA,200) else accR s (guessM (wordsL s))
theorem par_none{s f:ByteArray}{ws:List ByteArray}(hf:∀ t∈[str2,str3,str4,str5,str6,str7,str8,str9,str10,str11,str13,str14,str15,str16,str17,str18,str20,str21,str22],f≠t):accP (actW (f::ws))=accR s (guessM (f::ws)):=by
 simp only[List.forall_mem_cons,List.not_mem_nil,false_imp_iff,implies_true,and_true] at hf
 obtain⟨h1,h2,h3,h4,h5,h6,h7,h8,h9,h10,h11,h12,h13,h14,h15,h16,h17,h18,h19⟩:=hf
 have e1:actW (f::ws)=(zA,true,ws):=by
  show actM f false (f::ws) 1=_
  unfold actM
  rw[if_neg h1,if_neg h2,if_neg h3,if_neg h4,if_neg h5,if_neg h6,if_neg h7,if_neg h8,if_neg h9,if_neg h10,if_neg h11,if_neg h12,if_neg h13,if_neg h14,if_neg h15,if_neg h16,if_neg h17,if_neg h18,if_neg h19]
  rfl
 have e2:guessM (f::ws)=zA:=by
  unfold guessM
  rw[show (f::ws).getD 0 ByteArray.empty=f from rfl]
  rw[if_neg h1,if_neg h2,if_neg h3,if_neg h4,if_neg h5,if_neg h6,if_neg h7,if_neg h12,if_neg h13,if_neg h14,if_neg h10,if_neg h11,if_neg h9,if_neg h8,if_neg h15,if_neg h16,if_neg h17,if_neg h18,if_neg h19]
 rw[e1,e2,accP_no (.inl rfl)]
 unfold accR
 rw[if_pos (.inl rfl)]
theorem par_eq(s:ByteArray):parM s=parR s:=by
 unfold parM parR
 by_cases hz:200<s.size
 ·rw[if_pos hz,if_pos hz]
 rw[if_neg hz,if_neg hz]
 show accP (actW (wordsL s))=_
 obtain⟨hS,hl,hne⟩:=wordsL_facts (s:=s) (by omega)
 cases hs:wordsL s with
 | nil=>exact absurd hs hne
 | cons f ws=>
  by_cases h:∃ t∈[str2,str3,str4,str5,str6,str7,str8,str9,str10,str11,str13,str14,str15,str16,str17,str18,str20,str21,str22],f=t
  ·obtain⟨t,ht,rfl⟩:=h
   simp only[List.mem_cons,List.not_mem_nil,or_false] at ht
   rcases ht with rfl|rfl|rfl|rfl|rfl|rfl|rfl|rfl|rfl|rfl|rfl|rfl|rfl|rfl|rfl|rfl|rfl|rfl|rfl
   ·exact par_tick hs
   ·exact par_start hs
   ·exact par_seal hs
   ·exact par_intent hs
   ·exact par_deliver hs
   ·exact par_drop hs
   ·exact par_double hs
   ·exact par_retry hs
   ·exact par_head hs
   ·exact par_lookup hs
   ·exact par_leased hs
   ·exact par_put hs
   ·exact par_rotate hs
   ·exact par_revoke hs
   ·exact par_sign hs
   ·exact par_crash hs
   ·exact par_learner hs
   ·exact par_voter hs
   ·exact par_leave hs
  ·exact par_none fun t ht e=>h ⟨t,ht,e⟩
end Go.V
