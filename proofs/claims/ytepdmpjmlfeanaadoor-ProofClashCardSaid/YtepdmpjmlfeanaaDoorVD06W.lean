/- what the laws' inputs are made of -/
import Derived.Test.YtepdmpjmlfeanaaDoorVD06E
import Derived.Test.YtepdmpjmlfeanaaDoorVD06M
import Derived.Test.YtepdmpjmlfeanaaDoorVOpen
set_option linter.unusedVariables false
namespace Go.V
theorem wf_dig {m : Nat} {d : List Int} (h : wf PE (m + 2) (.arr 5 32 d)) : Dig d := ⟨h.1, fun x hx => h.2 x hx⟩
theorem wf_claim {m : Nat} {x : S_api_Claim} (h : wf PE (m + 4) (PE.enc 25 x)) : Dig x.f1 := by
  have h : ∀ a ∈ [A.bool (U := PU) x.f0, .arr 5 32 x.f1], wf PE (m + 3) a := h
  exact wf_dig (m := m + 1) (h _ (by simp))
theorem wf_proof {m : Nat} {x : S_api_Proof} (h : wf PE (m + 4) (PE.enc 28 x)) : (∀ d ∈ x.f0, Dig d) ∧ Dig x.f2 ∧ Dig x.f3 := by
  have h : ∀ a ∈ [A.ro false 23 x.f0, A.bool (U := PU) x.f1, .arr 5 32 x.f2, .arr 5 32 x.f3], wf PE (m + 3) a := h
  have h0 : wf PE (m + 3) (.ro false 23 x.f0) := h _ (by simp)
  exact ⟨fun d hd => wf_dig (h0.2 d hd), wf_dig (m := m + 1) (h _ (by simp)), wf_dig (m := m + 1) (h _ (by simp))⟩
theorem law_ProofChecks (x0 : Int) (x1 x2 : List Int) (x3 : S_api_Claim) (x4 : S_api_Proof) (hw : ∀ m, ∀ a ∈ [PE.enc 3 x0, PE.enc 23 x1, PE.enc 23 x2, PE.enc 25 x3, PE.enc 28 x4], wf PE m a) :
    ∃ k, F_l06_ProofChecks k x0 x1 x2 x3.f0 x3.f1 x4.f0 x4.f1 x4.f2 x4.f3 (fun b => b = true) := by
  have h1 : Dig x1 := wf_dig (m := 2) (hw 4 (PE.enc 23 x1) (by simp))
  have h2 : Dig x2 := wf_dig (m := 2) (hw 4 (PE.enc 23 x2) (by simp))
  have h3 := wf_claim (m := 0) (hw 4 (PE.enc 25 x3) (by simp))
  obtain ⟨h4, h5, h6⟩ := wf_proof (m := 0) (hw 4 (PE.enc 28 x4) (by simp))
  exact l06_Checks _ _ _ _ _ _ _ _ _ h1 h2 h3 h5 h6 h4
end Go.V
