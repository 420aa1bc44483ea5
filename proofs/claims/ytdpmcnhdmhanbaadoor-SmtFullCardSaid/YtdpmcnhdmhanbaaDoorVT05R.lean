/- the laws of what is handed in -/
import Derived.Test.YtdpmcnhdmhanbaaDoorVT05Q
import Derived.Test.YtdpmcnhdmhanbaaDoorVT05E
import Derived.Test.YtdpmcnhdmhanbaaDoorVJ11
set_option linter.unusedVariables false
set_option maxRecDepth 8000
namespace Go.V
theorem wf_dig {m : Nat} {d : List Int} (h : wf PE (m + 2) (.arr 5 32 d)) : Dig d := ⟨h.1, fun x hx => h.2 x hx⟩
theorem wf_leaf {m : Nat} {x : S_api_Leaf} (h : wf PE (m + 3) (PE.enc 36 x)) : Dig x.f0 ∧ Dig x.f1 := by
  have h : ∀ a ∈ [A.arr (U := PU) 5 32 x.f0, .arr 5 32 x.f1], wf PE (m + 2) a := h
  exact ⟨wf_dig (m := m) (h _ (by simp)), wf_dig (m := m) (h _ (by simp))⟩
theorem wf_leaves {l : List S_api_Leaf} (h : wf PE 4 (PE.enc 22 l)) : LDig l := by
  have h : wf PE 4 (.ro false 36 l) := h
  exact fun y hy => wf_leaf (m := 0) (h.2 y hy)
theorem wf_paths {l : List (List Int)} (h : wf PE 3 (PE.enc 58 l)) : ∀ p ∈ l, Dig p := by
  have h : wf PE 3 (.ro false 24 l) := h
  exact fun y hy => wf_dig (m := 0) (h.2 y hy)
theorem law_SmtNil (x0 : List S_api_Leaf) (x1 : List Int) (hw : ∀ m, ∀ a ∈ [PE.enc 22 x0, PE.enc 24 x1], wf PE m a) : ∃ k, F_l05_SmtNil k x0 x1 (fun b => b = true) :=
  ⟨20000, l05_Nil _ (by decide) rfl⟩
theorem law_SmtBack (x0 : Int) (x1 : List S_api_Leaf) (x2 : S_api_Leaf) (hw : ∀ m, ∀ a ∈ [PE.enc 3 x0, PE.enc 22 x1, PE.enc 36 x2], wf PE m a) : ∃ k, F_l05_SmtBack k x0 x1 x2.f0 x2.f1 (fun b => b = true) :=
  have h := wf_leaf (m := 0) (hw 3 (PE.enc 36 x2) (by simp))
  ⟨20000, l05_Back _ (wf_leaves (hw 4 (PE.enc 22 x1) (by simp))) h.1 h.2 (by decide) rfl⟩
theorem law_SmtOrder (x0 : Int) (x1 : List S_api_Leaf) (x2 : List Int) (hw : ∀ m, ∀ a ∈ [PE.enc 3 x0, PE.enc 22 x1, PE.enc 34 x2], wf PE m a) : ∃ k, F_l05_SmtOrder k x0 x1 x2 (fun b => b = true) :=
  ⟨20000, l05_Order _ (wf_leaves (hw 4 (PE.enc 22 x1) (by simp))) (by decide) rfl⟩
theorem law_SmtGrows (x0 : Int) (x1 : List S_api_Leaf) (x2 : List (List Int)) (hw : ∀ m, ∀ a ∈ [PE.enc 3 x0, PE.enc 22 x1, PE.enc 58 x2], wf PE m a) : ∃ k, F_l05_SmtGrows k x0 x1 x2 (fun b => b = true) :=
  ⟨20000, l05_Grows _ (wf_leaves (hw 4 (PE.enc 22 x1) (by simp))) (wf_paths (hw 3 (PE.enc 58 x2) (by simp))) (by decide) rfl⟩
theorem law_SmtBatches (x0 : Int) (x1 x2 : List S_api_Leaf) (hw : ∀ m, ∀ a ∈ [PE.enc 3 x0, PE.enc 22 x1, PE.enc 22 x2], wf PE m a) : ∃ k, F_l05_SmtBatches k x0 x1 x2 (fun b => b = true) :=
  ⟨2002000, l05_Batches _ (wf_leaves (hw 4 (PE.enc 22 x1) (by simp))) (wf_leaves (hw 4 (PE.enc 22 x2) (by simp))) (by decide) rfl⟩
end Go.V
