/- what the laws' inputs are made of -/
import Derived.Test.YtepdmpjmlfeanaaDoorVE06E
import Derived.Test.YtepdmpjmlfeanaaDoorVE06M
import Derived.Test.YtepdmpjmlfeanaaDoorVOpen
set_option linter.unusedVariables false
namespace Go.V
theorem wf_dig {m : Nat} {d : List Int} (h : wf PE (m + 2) (.arr 5 32 d)) : Dig d := ⟨h.1, fun x hx => h.2 x hx⟩
theorem wf_claim {m : Nat} {x : S_api_Claim} (h : wf PE (m + 4) (PE.enc 25 x)) : Dig x.f1 := by
  have h : ∀ a ∈ [A.bool (U := PU) x.f0, .arr 5 32 x.f1], wf PE (m + 3) a := h
  exact wf_dig (m := m + 1) (h _ (by simp))
theorem wf_proof {m : Nat} {x : S_api_Proof} (h : wf PE (m + 4) (PE.enc 28 x)) : (∀ d ∈ x.f0, Dig d) ∧ Dig x.f2 ∧ Dig x.f3 := by
  have h : ∀ a ∈ [A.ro false 23 x.f0, A.bool (U := PU) x.f1, .arr 5 32 x.f2, .arr 5 32 x.f3], wf PE (m + 3) a := h
  have h0 : wf PE (m + 3) (.ro false 23 x.f0) := h _ (by simp)
  exact ⟨fun d hd => wf_dig (h0.2 d hd), wf_dig (m := m + 1) (h _ (by simp)), wf_dig (m := m + 1) (h _ (by simp))⟩
end Go.V
