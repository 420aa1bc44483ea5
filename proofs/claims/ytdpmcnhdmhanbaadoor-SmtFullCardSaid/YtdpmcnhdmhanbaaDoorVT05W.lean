/- the law of a full tree, of what is handed in -/
import Derived.Test.YtdpmcnhdmhanbaaDoorVT05R
import Derived.Test.YtdpmcnhdmhanbaaDoorVT05U
namespace Go.V
theorem law_SmtFull (x0 : Int) (x1 : S_api_Leaf) (hw : ∀ m, ∀ a ∈ [PE.enc 3 x0, PE.enc 36 x1], wf PE m a) : ∃ k, F_l05_SmtFull k x0 x1.f0 x1.f1 (fun b => b = true) :=
  have h := wf_leaf (m := 0) (hw 3 (PE.enc 36 x1) (by simp))
  ⟨20000, l05_Full _ h.1 h.2 (by decide) rfl⟩
end Go.V
