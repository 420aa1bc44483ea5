import Derived.Test.YtgeonfbhejigjaaGreatDoorVI10Rh
set_option linter.unusedVariables false
set_option linter.unusedSimpArgs false
set_option maxRecDepth 8000
namespace Go.V
def eqS(x y:S_api_Signed):Bool:=((decide (x.f0.f0=y.f0.f0))&&((decide (x.f0.f1=y.f0.f1))&&((decide (x.f0.f2=y.f0.f2))&&true)))&&((decide (x.f1=y.f1))&&true)
theorem eqS_iff{x y:S_api_Signed}:eqS x y=true↔x=y:=by
 unfold eqS
 simp only[Bool.and_eq_true,decide_eq_true_eq,and_true]
 constructor
 ·rintro⟨⟨h1,h2,h3⟩,h4⟩
  obtain⟨⟨a,b,c⟩,d⟩:=x
  obtain⟨⟨a',b',c'⟩,d'⟩:=y
  simp only at h1 h2 h3 h4
  subst h1 h2 h3 h4
  rfl
 ·rintro rfl
  exact⟨⟨rfl,rfl,rfl⟩,rfl⟩
instance:DecidableEq S_api_Signed:=fun x y=>decidable_of_iff _ (eqS_iff (x:=x) (y:=y))
abbrev KS:=Int->List Int->List Int->List Int->Bool->Int->Prop
def RU(l:List S_api_Signed)(j:Nat):Prop:=∀ i,0<i->i<j->(l.getD (i-1) G0).f0.f0<(l.getD i G0).f0.f0
theorem RU_zero(l:List S_api_Signed):RU l 0:=fun i _ h=>by omega
theorem RU_succ{l:List S_api_Signed}{j:Nat}:RU l (j+1)↔RU l j/\(j=0\/(l.getD (j-1) G0).f0.f0<(l.getD j G0).f0.f0):=by
 constructor
 ·intro h
  refine⟨fun i h1 h2=>h i h1 (by omega),?_⟩
  by_cases e:j=0
  ·exact .inl e
  ·exact .inr (h j (by omega) (by omega))
 ·rintro⟨h1,h2⟩ i h3 h4
  by_cases e:i=j
  ·subst e
   rcases h2 with h2|h2
   ·omega
   ·exact h2
  ·exact h1 i h3 (by omega)
instance:∀ (l:List S_api_Signed) (j:Nat),Decidable (RU l j)
 | l,0=>isTrue (RU_zero l)
 | l,j+1=>by
  have:=instDecidableRU l j
  exact decidable_of_iff _ RU_succ.symm
section
variable {d:S_api_Directory} {l:List S_api_Signed} {ep:Int} {key:ByteArray}
def sgnB(d:S_api_Directory)(l:List S_api_Signed)(ep:Int):Prop:=1<=ep/\ep<=(d.f2.length:Int)/\RU l l.length
instance:Decidable (sgnB d l ep):=by unfold sgnB;infer_instance
end
end Go.V
