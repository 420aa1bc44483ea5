import Derived.Test.YtnmecdecebdfiaaDoorVP23O
set_option linter.unusedVariables false
set_option linter.unusedSimpArgs false
set_option maxRecDepth 8000
namespace Go.V
theorem par_inv{s:ByteArray}{a:S_api_Act}(h:parM s=(a,0)):s.size<=200/\a=guessM (wordsL s)/\textM a=s:=by
 rw[par_eq] at h
 unfold parR at h
 split at h
 ·exact absurd (congrArg Prod.snd h) (by show ¬(200:Int)=0;decide)
 ·next g=>
  unfold accR at h
  split at h
  ·exact absurd (congrArg Prod.snd h) (by show ¬(200:Int)=0;decide)
  ·next g2=>
   have e:guessM (wordsL s)=a:=congrArg Prod.fst h
   refine⟨by omega,e.symm,?_⟩
   rw[<-e]
   exact Classical.byContradiction fun c=>g2 (.inr (.inr c))
theorem spell_ok{s:ByteArray}{a:S_api_Act}(h:parM s=(a,0)):spellM a=textM a:=by
 rw[(par_inv h).2.1];exact spell_text _
theorem prM_eq(a:S_api_Act):prM spellM a=prM textM a:=by
 have e:(if parM (spellM a)=(a,0) then (spellM a,(0:Int)) else (str1,200))=(if parM (textM a)=(a,0) then (textM a,(0:Int)) else (str1,200)):=by
  by_cases h:parM (spellM a)=(a,0)
  ·rw[<-spell_ok h]
  ·rw[if_neg h]
   by_cases h2:parM (textM a)=(a,0)
   ·rw[<-spell_ok h2] at h2;exact absurd h2 h
   ·rw[if_neg h2]
 unfold prM
 rw[e]
theorem prM_ok{a:S_api_Act}{t:ByteArray}{sp:S_api_Act->ByteArray}(h:prM sp a=(t,0)):parM t=(a,0):=by
 have bad:¬((str1,(200:Int))=(t,0)):=fun e=>absurd (congrArg Prod.snd e) (by show ¬(200:Int)=0;decide)
 unfold prM at h
 split at h
 ·exact absurd h bad
 ·split at h
  ·exact absurd h bad
  ·split at h
   ·exact absurd h bad
   ·split at h
    ·next g=>
     have e:sp a=t:=congrArg Prod.fst h
     rw[<-e];exact g
    ·exact absurd h bad
theorem prM_par{s:ByteArray}{a:S_api_Act}(h:parM s=(a,0)):prM spellM a=(s,0):=by
 obtain⟨h1,h2,h3⟩:=par_inv h
 have e:=spell_ok h
 obtain⟨z1,z2,z3⟩:=guess_sz (l:=wordsL s) (n:=s.size) words_sz
 rw[<-h2] at z1 z2 z3
 unfold prM
 rw[if_neg (by omega),if_neg (by omega),if_neg (by omega),e,h3,if_pos h]
def aPut:S_api_Act:=S_api_Act.mk 5 0 0 1 (S_api_Command.mk 1 0 0 str47 str48 0 (List.replicate 32 0)) 0 ByteArray.empty (S_api_Change.mk 0 0)
theorem i1:itoaL 1=ofL [49]:=itoaL_dig (by decide) (by decide)
theorem i2:itoaL 2=ofL [50]:=itoaL_dig (by decide) (by decide)
theorem par45:parM str45=(aPut,0):=by
 have e:guessM (wordsL str45)=aPut:=by decide +kernel
 rw[par_eq]
 unfold parR
 rw[if_neg (by decide +kernel),e]
 unfold accR
 refine if_neg ?_
 rintro (h|h|h)
 ·exact absurd h (by decide)
 ·exact absurd h (by decide +kernel)
 ·refine h ?_
  have:textM aPut=((str32++((itoaL 1++str0)++str47))++str0)++str48:=rfl
  rw[this,i1]
  decide +kernel
theorem par46:parM str46=(zA,200):=by
 have e:guessM (wordsL str46)=aPut:=by decide +kernel
 rw[par_eq]
 unfold parR
 rw[if_neg (by decide +kernel),e]
 unfold accR
 refine if_pos (.inr (.inr ?_))
 have:textM aPut=((str32++((itoaL 1++str0)++str47))++str0)++str48:=rfl
 rw[this,i1]
 decide +kernel
def aNow:S_api_Act:=S_api_Act.mk 12 2 (-1) 0 (S_api_Command.mk 0 0 0 ByteArray.empty ByteArray.empty 0 (List.replicate 32 0)) 0 ByteArray.empty (S_api_Change.mk 0 0)
theorem par49:parM str49=(aNow,0):=by
 have e:guessM (wordsL str49)=aNow:=by decide +kernel
 rw[par_eq]
 unfold parR
 rw[if_neg (by decide +kernel),e]
 unfold accR
 refine if_neg ?_
 rintro (h|h|h)
 ·exact absurd h (by decide)
 ·exact absurd h (by decide +kernel)
 ·refine h ?_
  have:textM aNow=(str40++itoaL 2)++str41:=rfl
  rw[this,i2]
  decide +kernel
theorem aNow_I:ActI aNow:=by constructor<;>first|exact I0|exact Im|(unfold I64;decide)
theorem reads_s(k:Nat){K:Bool->Prop}(hk:500000<=k)(h:K true):F_l23_reads k K:=by
 obtain⟨k,rfl⟩:∃ m,k=m+1:=⟨k-1,by omega⟩
 rw[F_l23_reads]
 simp only[Hold_eq]
 refine Parse_s k (by omega) ?_
 rw[par45]
 unfold pK
 dsimp only
 refine Parse_s k (by omega) ?_
 rw[par46]
 unfold pK
 dsimp only
 refine Print_s k (a:=aNow) aNow_I (by omega) ?_
 rw[prM_par par49]
 refine c_yes (by decide) (c_yes (by decide) (c_yes (by decide +kernel) (c_yes (by decide +kernel) (c_yes (by decide) (c_yes (by decide) ?_)))))
 rw[show seq str49 str49=true from seq_iff.2 rfl]
 exact h
theorem par_e(s:ByteArray):(parM s).2=0\/(parM s).2=200:=by
 rw[par_eq]
 unfold parR accR
 repeat' refine ite_ind (fun q:S_api_Act×Int=>q.2=0\/q.2=200) (fun _=>?_) (fun _=>?_)
 all_goals first|exact .inl rfl|exact .inr rfl
theorem par_I{s:ByteArray}{a:S_api_Act}(h:parM s=(a,0)):ActI a:=by
 rw[(par_inv h).2.1];exact guess_I _
theorem DParses_s(k:Nat)(hk:600000<=k)(x:ByteArray){K:Bool->Prop}(h:K true):F_l23_DeskParses k x K:=by
 obtain⟨k,rfl⟩:∃ m,k=m+1:=⟨k-1,by omega⟩
 rw[F_l23_DeskParses]
 simp only[Hold_eq]
 refine cond_dec (fun _=>h) (fun _=>Parse_s k (by omega) ?_)
 unfold pK
 dsimp only
 refine rParse_s k (by omega) ?_
 rw[<-par_eq]
 unfold pK
 dsimp only
 have he:=par_e x
 generalize hq:parM x=q at he ⊢
 obtain⟨a,e⟩:=q
 refine cond_ndec (fun g=>absurd rfl g) (fun _=>cond_nb (fun g=>?_) (fun _=>cond_ndec (fun g=>reads_s k (by omega) h) (fun g=>?_)))
 ·have g:eqA a a=false:=g
  rw[eqA_iff.2 rfl] at g;cases g
 ·have g:e=0:=g
  subst g
  refine Print_s k (par_I hq) (by omega) ?_
  rw[prM_par hq]
  refine reads_s k (by omega) (c_yes rfl (c_yes (decide_eq_true rfl) ?_))
  rw[show seq x x=true from seq_iff.2 rfl]
  exact h
theorem DPrints_s(k:Nat)(hk:600000<=k){a:S_api_Act}(hI:ActI a){K:Bool->Prop}(h:K true):F_l23_DeskPrints k a.f0 a.f1 a.f2 a.f3 a.f4.f0 a.f4.f1 a.f4.f2 a.f4.f3 a.f4.f4 a.f4.f5 a.f4.f6 a.f5 a.f6 a.f7.f0 a.f7.f1 K:=by
 obtain⟨k,rfl⟩:∃ m,k=m+1:=⟨k-1,by omega⟩
 rw[F_l23_DeskPrints]
 simp only[Hold_eq]
 refine cond_dec (fun _=>h) (fun _=>cond_dec (fun _=>h) (fun _=>cond_dec (fun _=>h) (fun _=>Print_s k hI (by omega) (rPrint_s k hI (by omega) ?_))))
 rw[<-prM_eq]
 generalize hq:prM spellM a=q
 obtain⟨t,e⟩:=q
 refine cond_ndec (fun g=>absurd rfl g) (fun _=>cond_nb (fun g=>?_) (fun _=>cond_ndec (fun g=>reads_s k (by omega) h) (fun g=>?_)))
 ·have g:seq t t=false:=g
  rw[seq_iff.2 rfl] at g;cases g
 ·have g:e=0:=g
  subst g
  refine Parse_s k (by omega) ?_
  rw[prM_ok hq]
  unfold pK
  dsimp only
  refine reads_s k (by omega) (c_yes rfl (c_yes (by decide) ?_))
  have:eqA a a=true:=eqA_iff.2 rfl
  show K (eqA a a)
  rw[this]
  exact h
end Go.V
