import Derived.Test.YtgeonfbhejigjaaGreatDoorVL10W
set_option linter.unusedVariables false
set_option linter.unusedSimpArgs false
set_option maxRecDepth 4000
namespace Go.V
section
variable {e:Int} {us:List S_api_User} {hs:List S_api_Head} {ss:List S_api_Session}
structure Small (us:List S_api_User) (hs:List S_api_Head) (ss:List S_api_Session):Prop where
 u:us.length<=5000
 h:hs.length<=5000
 s:ss.length<=5000
 v:∀ x∈us,x.f1.length<=5000
theorem big_loop(hu:us.length<=5000):∀ (m j n k:Nat) {K:Bool->Prop},j+m=us.length->m+5<=k->n<=10001->(∀ i (hi:i<us.length),i<j->min us[i].f1.length 5001<=n) →
  (∀ b,(b=false->∀ x∈us,x.f1.length<=5000)->K b)->C_r08_BigDirectory_5 k (n:Int) (j:Int) e us hs ss K:=by
 intro m
 induction m with
 | zero=>
  intro j n k K hj hk hn hi h
  obtain⟨k,rfl⟩:∃ m,k=m+1:=⟨k-1,by omega⟩
  rw[C_r08_BigDirectory_5]
  refine cond_dec (fun h1=>by omega) (fun h1=>h _ fun hb x hx=>?_)
  obtain⟨i,hil,rfl⟩:=List.getElem_of_mem hx
  have:=hi i hil (by omega)
  have:=of_decide_eq_false hb
  omega
 | succ m ih=>
  intro j n k K hj hk hn hi h
  obtain⟨k,rfl⟩:∃ m,k=m+1:=⟨k-1,by omega⟩
  rw[C_r08_BigDirectory_5]
  simp only[Hold_eq]
  have hj1:j<us.length:=by omega
  rw[Int.toNat_natCast,getD_at hj1,step64 j (by omega)]
  refine cond_dec (fun h1=>cond_dec (fun h2=>⟨by omega,?_⟩) (fun h2=>h _ fun hb=>?_)) (fun h1=>by omega)
  ·have em:minI ((us[j].f1.length:Nat):Int) 5001=((min us[j].f1.length 5001:Nat):Int):=by
    unfold minI
    by_cases g:(5001:Int)<(us[j].f1.length:Int)
    ·rw[decide_eq_true g,cond_true];omega
    ·rw[decide_eq_false g,cond_false];omega
   have ew:IntKind.i64.wrap ((n:Int)+((min us[j].f1.length 5001:Nat):Int))=((n+min us[j].f1.length 5001:Nat):Int):=by rw[wrap64 (by omega)];rfl
   rw[em,ew]
   refine ih (j+1) _ k (by omega) (by omega) (by omega) (fun i hil hij=>?_) h
   by_cases g:i<j
   ·have:=hi i hil g;omega
   ·have:i=j:=by omega
    subst this
    omega
  ·exact absurd (of_decide_eq_false hb) (by omega)
end
end Go.V
