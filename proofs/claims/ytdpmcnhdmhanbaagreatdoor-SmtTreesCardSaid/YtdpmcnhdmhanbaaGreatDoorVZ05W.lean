/- the law of what is handed in -/
import Derived.Test.YtdpmcnhdmhanbaaGreatDoorVZ05R
set_option linter.unusedVariables false
set_option maxRecDepth 8000
namespace Go.V
theorem wf_dig {m : Nat} {d : List Int} (h : wf PE (m + 2) (.arr 5 32 d)) : Dig d := ⟨h.1, fun x hx => h.2 x hx⟩
theorem wf_leaf {m : Nat} {x : S_api_Leaf} (h : wf PE (m + 3) (PE.enc 50 x)) : Dig x.f0 ∧ Dig x.f1 := by
  have h : ∀ a ∈ [A.arr (U := PU) 5 32 x.f0, .arr 5 32 x.f1], wf PE (m + 2) a := h
  exact ⟨wf_dig (m := m) (h _ (by simp)), wf_dig (m := m) (h _ (by simp))⟩
theorem wf_op {m : Nat} {x : S_l05_Op} (h : wf PE (m + 5) (PE.enc 27 x)) : x.f1.length ≤ maxLen ∧ LDig x.f1 ∧ Dig x.f2 := by
  have h : ∀ a ∈ [A.int (U := PU) .i64 x.f0, .ro false 50 x.f1, .arr 5 32 x.f2], wf PE (m + 4) a := h
  have h1 : wf PE (m + 4) (.ro false 50 x.f1) := h _ (by simp)
  exact ⟨h1.1, fun y hy => wf_leaf (m := m) (h1.2 y hy), wf_dig (m := m + 2) (h _ (by simp))⟩
theorem law_SmtTrees (x0 : Int) (x1 : List S_l05_Op) (hw : ∀ m, ∀ a ∈ [PE.enc 3 x0, PE.enc 22 x1], wf PE m a) : ∃ k, F_l05_SmtTrees k x0 x1 (fun b => b = true) := by
  have h : wf PE 6 (.ro false 27 x1) := hw 6 (PE.enc 22 x1) (by simp)
  have h2 := fun o ho => wf_op (m := 0) (h.2 o ho)
  exact ⟨5000000, l05_Trees _ (fun o ho => (h2 o ho).2) (by decide) rfl⟩
end Go.V
