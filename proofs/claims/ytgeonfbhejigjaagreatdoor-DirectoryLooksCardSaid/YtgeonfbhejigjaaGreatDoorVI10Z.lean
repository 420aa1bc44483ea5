import Derived.Test.YtgeonfbhejigjaaGreatDoorVI10W
set_option linter.unusedVariables false
set_option linter.unusedSimpArgs false
set_option maxRecDepth 4000
namespace Go.V
section
variable {e:Int} {us:List S_api_User} {hs:List S_api_Head} {ss:List S_api_Session}
structure Small (us:List S_api_User) (hs:List S_api_Head) (ss:List S_api_Session):Prop where
 u:us.length<=5000
 h:hs.length<=5000
 s:ss.length<=5000
 v:∀ x∈us,x.f1.length<=5000
theorem big_loop(hu:us.length<=5000):∀ (m j n k:Nat) {K:Bool->Prop},j+m=us.length->m+5<=k->n<=10001->(∀ i (hi:i<us.length),i<j->min us[i].f1.length 5001<=n) →
  (∀ b,(b=false->∀ x∈us,x.f1.length<=5000)->K b)->C_r08_BigDirectory_5 k (n:Int) (j:Int) e us hs ss K:=by
 intro m
 induction m with
 | zero=>
  intro j n k K hj hk hn hi h
  obtain⟨k,rfl⟩:∃ m,k=m+1:=⟨k-1,by omega⟩
  rw[C_r08_BigDirectory_5]
  refine cond_dec (fun h1=>by omega) (fun h1=>h _ fun hb x hx=>?_)
  obtain⟨i,hil,rfl⟩:=List.getElem_of_mem hx
  have:=hi i hil (by omega)
  have:=of_decide_eq_false hb
  omega
 | succ m ih=>
  intro j n k K hj hk hn hi h
  obtain⟨k,rfl⟩:∃ m,k=m+1:=⟨k-1,by omega⟩
  rw[C_r08_BigDirectory_5]
  simp only[Hold_eq]
  have hj1:j<us.length:=by omega
  rw[Int.toNat_natCast,getD_at hj1,step64 j (by omega)]
  refine cond_dec (fun h1=>cond_dec (fun h2=>⟨by omega,?_⟩) (fun h2=>h _ fun hb=>?_)) (fun h1=>by omega)
  ·have em:minI ((us[j].f1.length:Nat):Int) 5001=((min us[j].f1.length 5001:Nat):Int):=by
    unfold minI
    by_cases g:(5001:Int)<(us[j].f1.length:Int)
    ·rw[decide_eq_true g,cond_true];omega
    ·rw[decide_eq_false g,cond_false];omega
   have ew:IntKind.i64.wrap ((n:Int)+((min us[j].f1.length 5001:Nat):Int))=((n+min us[j].f1.length 5001:Nat):Int):=by rw[wrap64 (by omega)];rfl
   rw[em,ew]
   refine ih (j+1) _ k (by omega) (by omega) (by omega) (fun i hil hij=>?_) h
   by_cases g:i<j
   ·have:=hi i hil g;omega
   ·have:i=j:=by omega
    subst this
    omega
  ·exact absurd (of_decide_eq_false hb) (by omega)
theorem large_s(k:Nat){a b c:Int}{u key:ByteArray}{ep:Int}{root:List Int}{K:Bool->Prop}(hk:5100<=k)(h:∀ b,(b=false->Small us hs ss)->K b):F_l10_large k e us hs ss a b c u key ep root K:=by
 obtain⟨k,rfl⟩:∃ m,k=m+2:=⟨k-2,by omega⟩
 rw[F_l10_large]
 simp only[Hold_eq]
 rw[F_r08_BigDirectory]
 simp only[Hold_eq]
 have tr:cond true (K true) (cond (decide ((65536:Int)<((ByteArray.size u:Nat):Int))) (K true) (K (decide ((65536:Int)<((ByteArray.size key:Nat):Int))))):=h true fun e=>by cases e
 refine cond_dec (fun h1=>tr) (fun h1=>cond_dec (fun h2=>tr) (fun h2=>cond_dec (fun h3=>tr) (fun h3=>?_)))
 refine big_loop (by omega) us.length 0 0 k (by omega) (by omega) (by omega) (fun i hi hij=>by omega) fun b hb=>?_
 cases b with
 | true=>exact tr
 | false=>
  have sm:Small us hs ss:=⟨by omega,by omega,by omega,hb rfl⟩
  exact cond_dec (fun _=>h _ fun _=>sm) (fun _=>h _ fun _=>sm)
theorem sv_loop{l:List S_api_Version}(hn:l.length<=100000):∀ (m j k:Nat) {K:Bool->Prop},j+m=l.length->m+5<=k->K true->C_r08_SameVersions_4 k l l (j:Int) K:=by
 intro m
 induction m with
 | zero=>
  intro j k K hj hk h
  obtain⟨k,rfl⟩:∃ m,k=m+1:=⟨k-1,by omega⟩
  rw[C_r08_SameVersions_4]
  exact cond_dec (fun h1=>by omega) (fun h1=>h)
 | succ m ih=>
  intro j k K hj hk h
  obtain⟨k,rfl⟩:∃ m,k=m+1:=⟨k-1,by omega⟩
  rw[C_r08_SameVersions_4]
  rw[step64 j (by omega)]
  refine cond_dec (fun h1=>⟨by omega,by omega,?_⟩) (fun h1=>by omega)
  simp only[seq,decide_true,Bool.and_self,Bool.not_true,cond_false,Hold_eq]
  exact ih (j+1) k (by omega) (by omega) h
theorem SameVersions_s(k:Nat){l:List S_api_Version}{K:Bool->Prop}(hn:l.length<=100000)(hk:l.length+10<=k)(h:K true):F_r08_SameVersions k l l K:=by
 obtain⟨k,rfl⟩:∃ m,k=m+1:=⟨k-1,by omega⟩
 rw[F_r08_SameVersions]
 simp only[Hold_eq]
 exact cond_ndec (fun g=>absurd trivial g) (fun _=>sv_loop hn l.length 0 k (by omega) (by omega) h)
theorem same14(sm:Small us hs ss){x y:Int}:∀ (m j k:Nat) {K:Bool->Prop},j+m=ss.length->m+5<=k->K true->C_r08_SameDirectory_14 k (j:Int) x us hs ss y us hs ss K:=by
 have s3:=sm.s
 intro m
 induction m with
 | zero=>
  intro j k K hj hk h
  obtain⟨k,rfl⟩:∃ m,k=m+1:=⟨k-1,by omega⟩
  rw[C_r08_SameDirectory_14]
  exact cond_dec (fun h1=>by omega) (fun h1=>h)
 | succ m ih=>
  intro j k K hj hk h
  obtain⟨k,rfl⟩:∃ m,k=m+1:=⟨k-1,by omega⟩
  rw[C_r08_SameDirectory_14]
  rw[step64 j (by omega)]
  refine cond_dec (fun h1=>⟨by omega,by omega,?_⟩) (fun h1=>by omega)
  simp only[seq,decide_true,Bool.and_self,Bool.not_true,cond_false,Hold_eq]
  exact ih (j+1) k (by omega) (by omega) h
theorem same9(sm:Small us hs ss){x y:Int}:∀ (m j k:Nat) {K:Bool->Prop},j+m=hs.length->m+5100<=k->K true->C_r08_SameDirectory_9 k (j:Int) x us hs ss y us hs ss K:=by
 have s3:=sm.s
 have s2:=sm.h
 intro m
 induction m with
 | zero=>
  intro j k K hj hk h
  obtain⟨k,rfl⟩:∃ m,k=m+1:=⟨k-1,by omega⟩
  rw[C_r08_SameDirectory_9]
  simp only[Hold_eq]
  exact cond_dec (fun h1=>by omega) (fun h1=>same14 sm ss.length 0 k (by omega) (by omega) h)
 | succ m ih=>
  intro j k K hj hk h
  obtain⟨k,rfl⟩:∃ m,k=m+1:=⟨k-1,by omega⟩
  rw[C_r08_SameDirectory_9]
  rw[step64 j (by omega)]
  refine cond_dec (fun h1=>⟨by omega,by omega,?_⟩) (fun h1=>by omega)
  simp only[seq,decide_true,Bool.and_self,Bool.not_true,cond_false,Hold_eq]
  exact ih (j+1) k (by omega) (by omega) h
theorem same4(sm:Small us hs ss){x y:Int}:∀ (m j k:Nat) {K:Bool->Prop},j+m=us.length->m+10300<=k->K true->C_r08_SameDirectory_4 k (j:Int) x us hs ss y us hs ss K:=by
 have s1:=sm.u
 have s2:=sm.h
 intro m
 induction m with
 | zero=>
  intro j k K hj hk h
  obtain⟨k,rfl⟩:∃ m,k=m+1:=⟨k-1,by omega⟩
  rw[C_r08_SameDirectory_4]
  simp only[Hold_eq]
  exact cond_dec (fun h1=>by omega) (fun h1=>same9 sm hs.length 0 k (by omega) (by omega) h)
 | succ m ih=>
  intro j k K hj hk h
  obtain⟨k,rfl⟩:∃ m,k=m+1:=⟨k-1,by omega⟩
  have hj1:j<us.length:=by omega
  have hv:=sm.v _ (List.getElem_mem hj1)
  rw[C_r08_SameDirectory_4]
  rw[step64 j (by omega),Int.toNat_natCast,getD_at hj1]
  refine cond_dec (fun h1=>⟨by omega,by omega,?_⟩) (fun h1=>by omega)
  simp only[seq,decide_true,Bool.not_true,cond_false,Hold_eq]
  exact⟨by omega,by omega,SameVersions_s k (by omega) (by omega) (ih (j+1) k (by omega) (by omega) h)⟩
theorem same_s(sm:Small us hs ss)(k:Nat){K:Bool->Prop}(hk:16000<=k)(h:K true):F_r08_SameDirectory k e us hs ss e us hs ss K:=by
 obtain⟨k,rfl⟩:∃ m,k=m+1:=⟨k-1,by omega⟩
 have s1:=sm.u
 rw[F_r08_SameDirectory]
 simp only[Hold_eq]
 exact cond_ndec (fun g=>absurd trivial g) (fun _=>cond_ndec (fun g=>absurd trivial g) (fun _=>cond_ndec (fun g=>absurd trivial g) (fun _=>cond_ndec (fun g=>absurd trivial g) (fun _=>same4 sm us.length 0 k (by omega) (by omega) h))))
end
end Go.V
