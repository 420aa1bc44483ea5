/- the laws of what is handed in -/
import Derived.Test.YtdpmcnhdmhanbaaDoorVS05Q
import Derived.Test.YtdpmcnhdmhanbaaDoorVS05E
set_option linter.unusedVariables false
set_option maxRecDepth 8000
namespace Go.V
theorem wf_dig {m : Nat} {d : List Int} (h : wf PE (m + 2) (.arr 5 32 d)) : Dig d := ⟨h.1, fun x hx => h.2 x hx⟩
theorem wf_leaf {m : Nat} {x : S_api_Leaf} (h : wf PE (m + 3) (PE.enc 36 x)) : Dig x.f0 ∧ Dig x.f1 := by
  have h : ∀ a ∈ [A.arr (U := PU) 5 32 x.f0, .arr 5 32 x.f1], wf PE (m + 2) a := h
  exact ⟨wf_dig (m := m) (h _ (by simp)), wf_dig (m := m) (h _ (by simp))⟩
theorem wf_leaves {l : List S_api_Leaf} (h : wf PE 4 (PE.enc 22 l)) : LDig l := by
  have h : wf PE 4 (.ro false 36 l) := h
  exact fun y hy => wf_leaf (m := 0) (h.2 y hy)
theorem wf_bytes {l : List Int} (h : wf PE 2 (PE.enc 38 l)) : B8 l := by
  have h : wf PE 2 (.ro false 5 l) := h
  exact fun y hy => h.2 y hy
theorem law_SmtRoots (x0 : Int) (x1 : List S_api_Leaf) (hw : ∀ m, ∀ a ∈ [PE.enc 3 x0, PE.enc 22 x1], wf PE m a) : ∃ k, F_l05_SmtRoots k x0 x1 (fun b => b = true) :=
  ⟨30000000, l05_Roots _ (wf_leaves (hw 4 (PE.enc 22 x1) (by simp))) (by decide) rfl⟩
theorem law_SmtShort (x0 : Int) (x1 : List Int) (x2 : S_api_Leaf) (x3 x4 : List Int) (hw : ∀ m, ∀ a ∈ [PE.enc 3 x0, PE.enc 38 x1, PE.enc 36 x2, PE.enc 24 x3, PE.enc 24 x4], wf PE m a) : ∃ k, F_l05_SmtShort k x0 x1 x2.f0 x2.f1 x3 x4 (fun b => b = true) :=
  have h := wf_leaf (m := 0) (hw 3 (PE.enc 36 x2) (by simp))
  ⟨100000, l05_Short _ (wf_bytes (hw 2 (PE.enc 38 x1) (by simp))) h.1 h.2 (wf_dig (m := 0) (hw 2 (PE.enc 24 x3) (by simp))) (wf_dig (m := 0) (hw 2 (PE.enc 24 x4) (by simp))) (by decide) rfl⟩
end Go.V
