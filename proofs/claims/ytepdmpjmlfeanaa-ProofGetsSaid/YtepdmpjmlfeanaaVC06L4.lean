/- Proved: the law ProofGets returns true at every input, and leaves what it is handed as it was. Conditions: none. -/
import Derived.Test.YtepdmpjmlfeanaaVC06B
import Derived.Test.YtepdmpjmlfeanaaVC06W
import Derived.WalkKit
import Derived.ProofKit
import Derived.OpenShut
set_option linter.unusedVariables false
namespace Go.Proofs.Ytepdmpjmlfeanaa.law4
open Go.ChangeShapes Go.WideShapes Go.ChangeAt Go.RowKit Go.V
theorem tab (zs : List (A PU)) (h : EncL PE Try.f4.params.toList zs) (hw : ∀ m, ∀ a ∈ zs, wf PE m a) : ∃ k, PT k 4 zs [] fun r _ => r = .bool true := by
  have h' : EncL PE [28] zs := h
  match zs, h', hw with
  | [_], ⟨⟨x0, rfl⟩, _⟩, hw =>
    obtain ⟨k, hk⟩ := law_ProofGets x0 hw
    exact ⟨k, ((by kernel_rfl : Hold (F_l06_ProofGets k x0 (fun b => A.bool (U := PU) b = .bool true)) = PT k 4 [PE.enc 28 x0] [] fun r _ => r = .bool true)) ▸ ⟨by simpa using hk⟩⟩
theorem contract (H : Type) (enc : TypeId × Value → H) (W : World) (base : Nat) (args : Array Value) (ds gs : List (DataW H)) (before : List MemPlace)
    (hval : ∀ (j : Nat) t v, Try.f4.params[j]? = some t → args[j]? = some v → Value.okWide Try.prog W .any base t v)
    (hW : DataW.Whole enc Try.prog Try.f4.params.toList Rows.proofGetsSpec.vars false W args.toList ds gs before) :
    Calls Try.prog 4 args W fun e W' => ∃ v, e = .returned v ∧ Rows.proofGetsSpec.post enc Try.prog Try.f4 false true false false W args v W' :=
  law_contract (E := PE) (B := Rows.uptoBulk) PEok hD (hB H) (T := PT) (fun k => (PSound k).1) (f := 4) ⟨rfl, by kernel_rfl⟩ (Q := fun N => True) (fun zs N h hw hm hN => tab zs h hw) rfl
    (fun ds h => by match ds, h with | [_], _ => rfl) laidOut (by decide) (by decide +kernel) (tb := 4) rfl Try.underlying4 (fun _ => trivial) hval hW trivial
set_option maxRecDepth 100000 in
theorem lifted (os : Os) (started : os.Started) (H : Type) (enc : TypeId × Value → H) :
    ReturnsInHanded {} Try.checked os 4 .any (Rows.proofGetsSpec.pre6 enc Try.prog Try.f4 Rows.proofGetsRow.domain false) (Rows.proofGetsSpec.post enc Try.prog Try.f4 false true false false) := by
  refine returnsInHanded_of_change (C := Try.checked) own started (by kernel_rfl) Try.func4
    (ChangeSpec.witness6 (enc := enc) (C := Try.checked) false ⟨#[], #[.slice none 0 0], []⟩ 8 (by kernel_rfl) (by kernel_rfl) (by kernel_rfl) (by kernel_rfl)) ?_
  intro W base args ds gs before hval hW _ _
  exact contract H enc W base args ds gs before hval hW
theorem holds : Rows.ProofGetsSaid :=
  OpenClaim.holds_of_wide 4 Try.f4 rfl rfl rfl rfl rfl rfl rfl ⟨rfl, rfl, rfl, rfl, rfl⟩ rfl rfl rfl rfl rfl (by kernel_rfl) Try.func4 (by kernel_rfl)
    (of_decide_eq_true (by kernel_rfl)) (by unfold Func.isWrapper; first | (rw [if_pos (by decide +kernel)]; kernel_rfl) | (rw [if_neg (by decide +kernel)]; exact ⟨rfl, rfl⟩))
    (fun os started H enc _ => lifted os started H enc)
end Go.Proofs.Ytepdmpjmlfeanaa.law4
#print axioms Go.Proofs.Ytepdmpjmlfeanaa.law4.holds
