/- Proved: the law CouncilHas returns true at every input, and leaves what it is handed as it was. Conditions: none. -/
import Derived.Test.YtilnpbcodachoaaVC15B
import Derived.Test.YtilnpbcodachoaaVC15U
import Derived.WalkKit
import Derived.ProofKit
import Derived.OpenShut
set_option linter.unusedVariables false
namespace Go.Proofs.Ytilnpbcodachoaa.law8
open Go.ChangeShapes Go.WideShapes Go.ChangeAt Go.RowKit Go.V
theorem tab (zs : List (A PU)) (h : EncL PE Try.f8.params.toList zs) : ∃ k, PT k 8 zs [] fun r _ => r = .bool true := by
  have h' : EncL PE [24, 22, 22] zs := h
  match zs, h' with
  | [_, _, _], ⟨⟨x0, rfl⟩, ⟨x1, rfl⟩, ⟨x2, rfl⟩, _⟩ =>
    obtain ⟨k, hk⟩ := f8_law x0.f0 x0.f1 x1 x2
    exact ⟨k, ((by kernel_rfl : Hold (F8 k x0.f0 x0.f1 x1 x2 (fun b => A.bool (U := PU) b = .bool true)) = PT k 8 [PE.enc 24 x0, PE.enc 22 x1, PE.enc 22 x2] [] fun r _ => r = .bool true)) ▸ ⟨by simpa using hk⟩⟩
theorem contract (H : Type) (enc : TypeId × Value → H) (W : World) (base : Nat) (args : Array Value) (ds gs : List (DataW H)) (before : List MemPlace)
    (hval : ∀ (j : Nat) t v, Try.f8.params[j]? = some t → args[j]? = some v → Value.okWide Try.prog W .any base t v)
    (hW : DataW.Whole enc Try.prog Try.f8.params.toList Rows.councilHasSpec.vars false W args.toList ds gs before) :
    Calls Try.prog 8 args W fun e W' => ∃ v, e = .returned v ∧ Rows.councilHasSpec.post enc Try.prog Try.f8 false true false false W args v W' :=
  law_contract (E := PE) (B := Rows.uptoBulk) PEok hD (hB H) (T := PT) (fun k => (PSound k).1) (f := 8) ⟨rfl, by kernel_rfl⟩ (Q := fun N => True) (fun zs N h hw hm hN => tab zs h) rfl
    (fun ds h => by match ds, h with | [_, _, _], _ => rfl) laidOut (by decide) (by decide +kernel) (tb := 4) rfl Try.underlying4 hval hW trivial
set_option maxRecDepth 100000 in
theorem lifted (os : Os) (started : os.Started) (H : Type) (enc : TypeId × Value → H) :
    ReturnsInHanded {} Try.checked os 8 .any (Rows.councilHasSpec.pre6 enc Try.prog Try.f8 Rows.councilHasRow.domain false) (Rows.councilHasSpec.post enc Try.prog Try.f8 false true false false) := by
  refine returnsInHanded_of_change (C := Try.checked) own started (by kernel_rfl) Try.func8
    (ChangeSpec.witness6 (enc := enc) (C := Try.checked) false ⟨#[], #[.agg #[.slice none 0 0, .slice none 0 0], .slice none 0 0, .slice none 0 0], []⟩ 8 (by kernel_rfl) (by kernel_rfl) (by kernel_rfl) (by kernel_rfl)) ?_
  intro W base args ds gs before hval hW _ _
  exact contract H enc W base args ds gs before hval hW
theorem holds : Rows.CouncilHasSaid :=
  OpenClaim.holds_of_wide 8 Try.f8 rfl rfl rfl rfl rfl rfl rfl ⟨rfl, rfl, rfl, rfl, rfl⟩ rfl rfl rfl rfl rfl (by kernel_rfl) Try.func8 (by kernel_rfl)
    (of_decide_eq_true (by kernel_rfl)) (by unfold Func.isWrapper; first | (rw [if_pos (by decide +kernel)]; kernel_rfl) | (rw [if_neg (by decide +kernel)]; exact ⟨rfl, rfl⟩))
    (fun os started H enc _ => lifted os started H enc)
end Go.Proofs.Ytilnpbcodachoaa.law8
#print axioms Go.Proofs.Ytilnpbcodachoaa.law8.holds
