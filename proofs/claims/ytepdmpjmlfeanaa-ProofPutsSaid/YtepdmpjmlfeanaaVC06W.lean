/- what the laws' inputs are made of -/
import Derived.Test.YtepdmpjmlfeanaaVC06E
import Derived.Test.YtepdmpjmlfeanaaVC06M
import Derived.Test.YtepdmpjmlfeanaaVOpen
set_option linter.unusedVariables false
namespace Go.V
theorem wf_bytes {m : Nat} {b : List Int} (h : wf PE (m + 2) (.ro false 5 b)) : B8 b := fun x hx => h.2 x hx
theorem wf_dig {m : Nat} {d : List Int} (h : wf PE (m + 2) (.arr 5 32 d)) : Dig d := ⟨h.1, fun x hx => h.2 x hx⟩
theorem wf_proof {m : Nat} {x : S_api_Proof} (h : wf PE (m + 4) (PE.enc 26 x)) : (∀ d ∈ x.f0, Dig d) ∧ Dig x.f2 ∧ Dig x.f3 := by
  have h : ∀ a ∈ [A.ro false 24 x.f0, A.bool (U := PU) x.f1, .arr 5 32 x.f2, .arr 5 32 x.f3], wf PE (m + 3) a := h
  have h0 : wf PE (m + 3) (.ro false 24 x.f0) := h _ (by simp)
  exact ⟨fun d hd => wf_dig (h0.2 d hd), wf_dig (m := m + 1) (h _ (by simp)), wf_dig (m := m + 1) (h _ (by simp))⟩
theorem law_ProofPuts (x : S_api_Proof) (hw : ∀ m, ∀ a ∈ [PE.enc 26 x], wf PE m a) : ∃ k, F_l06_ProofPuts k x.f0 x.f1 x.f2 x.f3 (fun b => b = true) := by
  obtain ⟨h1, h2, h3⟩ := wf_proof (m := 0) (hw 4 _ (List.mem_cons_self ..))
  exact l06_Puts _ _ _ _ h1 h2 h3
theorem law_ProofGets (b : List Int) (hw : ∀ m, ∀ a ∈ [PE.enc 28 b], wf PE m a) : ∃ k, F_l06_ProofGets k b (fun b => b = true) :=
  l06_Gets b (wf_bytes (m := 0) (hw 2 _ (List.mem_cons_self ..)))
end Go.V
