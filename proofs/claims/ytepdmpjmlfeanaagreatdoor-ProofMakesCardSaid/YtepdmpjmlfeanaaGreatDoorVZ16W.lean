/- the law of what is handed in -/
import Derived.Test.YtepdmpjmlfeanaaGreatDoorVZ16R
import Derived.Test.YtepdmpjmlfeanaaGreatDoorVZ16E
import Derived.Test.YtepdmpjmlfeanaaGreatDoorVJ11
set_option linter.unusedVariables false
set_option maxRecDepth 8000
namespace Go.V
theorem wf_dig {m : Nat} {d : List Int} (h : wf PE (m + 2) (.arr 5 32 d)) : Dig d := ⟨h.1, fun x hx => h.2 x hx⟩
theorem wf_leaf {m : Nat} {x : S_api_Leaf} (h : wf PE (m + 3) (PE.enc 42 x)) : Dig x.f0 ∧ Dig x.f1 := by
  have h : ∀ a ∈ [A.arr (U := PU) 5 32 x.f0, .arr 5 32 x.f1], wf PE (m + 2) a := h
  exact ⟨wf_dig (m := m) (h _ (by simp)), wf_dig (m := m) (h _ (by simp))⟩
theorem wf_leaves {l : List S_api_Leaf} (h : wf PE 4 (PE.enc 22 l)) : LDig l := by
  have h : wf PE 4 (.ro false 42 l) := h
  exact fun y hy => wf_leaf (m := 0) (h.2 y hy)
theorem law_ProofMakes (x0 : Int) (x1 : List S_api_Leaf) (x2 : List Int) (hw : ∀ m, ∀ a ∈ [PE.enc 3 x0, PE.enc 22 x1, PE.enc 24 x2], wf PE m a) : ∃ k, F_l06_ProofMakes k x0 x1 x2 (fun b => b = true) :=
  ⟨40000000, l06_Makes _ (wf_leaves (hw 4 (PE.enc 22 x1) (by simp))) (wf_dig (m := 0) (hw 2 (PE.enc 24 x2) (by simp))) (Nat.le_refl _) rfl⟩
end Go.V
