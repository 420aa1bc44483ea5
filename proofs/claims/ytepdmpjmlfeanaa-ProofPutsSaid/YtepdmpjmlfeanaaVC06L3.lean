/- Proved: the law ProofPuts returns true at every input, and leaves what it is handed as it was. Conditions: none. -/
import Derived.Test.YtepdmpjmlfeanaaVC06B
import Derived.Test.YtepdmpjmlfeanaaVC06W
import Derived.WalkKit
import Derived.ProofKit
import Derived.OpenShut
set_option linter.unusedVariables false
namespace Go.Proofs.Ytepdmpjmlfeanaa.law3
open Go.ChangeShapes Go.WideShapes Go.ChangeAt Go.RowKit Go.V
theorem tab (zs : List (A PU)) (h : EncL PE Try.f3.params.toList zs) (hw : ∀ m, ∀ a ∈ zs, wf PE m a) : ∃ k, PT k 3 zs [] fun r _ => r = .bool true := by
  have h' : EncL PE [26] zs := h
  match zs, h', hw with
  | [_], ⟨⟨x0, rfl⟩, _⟩, hw =>
    obtain ⟨k, hk⟩ := law_ProofPuts x0 hw
    exact ⟨k, ((by kernel_rfl : Hold (F_l06_ProofPuts k x0.f0 x0.f1 x0.f2 x0.f3 (fun b => A.bool (U := PU) b = .bool true)) = PT k 3 [PE.enc 26 x0] [] fun r _ => r = .bool true)) ▸ ⟨by simpa using hk⟩⟩
theorem contract (H : Type) (enc : TypeId × Value → H) (W : World) (base : Nat) (args : Array Value) (ds gs : List (DataW H)) (before : List MemPlace)
    (hval : ∀ (j : Nat) t v, Try.f3.params[j]? = some t → args[j]? = some v → Value.okWide Try.prog W .any base t v)
    (hW : DataW.Whole enc Try.prog Try.f3.params.toList Rows.proofPutsSpec.vars false W args.toList ds gs before) :
    Calls Try.prog 3 args W fun e W' => ∃ v, e = .returned v ∧ Rows.proofPutsSpec.post enc Try.prog Try.f3 false true false false W args v W' :=
  law_contract (E := PE) (B := Rows.uptoBulk) PEok hD (hB H) (T := PT) (fun k => (PSound k).1) (f := 3) ⟨rfl, by kernel_rfl⟩ (Q := fun N => True) (fun zs N h hw hm hN => tab zs h hw) rfl
    (fun ds h => by match ds, h with | [_], _ => rfl) laidOut (by decide) (by decide +kernel) (tb := 4) rfl Try.underlying4 (fun _ => trivial) hval hW trivial
set_option maxRecDepth 100000 in
theorem lifted (os : Os) (started : os.Started) (H : Type) (enc : TypeId × Value → H) :
    ReturnsInHanded {} Try.checked os 3 .any (Rows.proofPutsSpec.pre6 enc Try.prog Try.f3 Rows.proofPutsRow.domain false) (Rows.proofPutsSpec.post enc Try.prog Try.f3 false true false false) := by
  refine returnsInHanded_of_change (C := Try.checked) own started (by kernel_rfl) Try.func3
    (ChangeSpec.witness6 (enc := enc) (C := Try.checked) false ⟨#[], #[.agg #[.slice none 0 0, .bool false, .int .u8 0, .int .u8 0, .int .u8 0, .int .u8 0, .int .u8 0, .int .u8 0, .int .u8 0, .int .u8 0, .int .u8 0, .int .u8 0, .int .u8 0, .int .u8 0, .int .u8 0, .int .u8 0, .int .u8 0, .int .u8 0, .int .u8 0, .int .u8 0, .int .u8 0, .int .u8 0, .int .u8 0, .int .u8 0, .int .u8 0, .int .u8 0, .int .u8 0, .int .u8 0, .int .u8 0, .int .u8 0, .int .u8 0, .int .u8 0, .int .u8 0, .int .u8 0, .int .u8 0, .int .u8 0, .int .u8 0, .int .u8 0, .int .u8 0, .int .u8 0, .int .u8 0, .int .u8 0, .int .u8 0, .int .u8 0, .int .u8 0, .int .u8 0, .int .u8 0, .int .u8 0, .int .u8 0, .int .u8 0, .int .u8 0, .int .u8 0, .int .u8 0, .int .u8 0, .int .u8 0, .int .u8 0, .int .u8 0, .int .u8 0, .int .u8 0, .int .u8 0, .int .u8 0, .int .u8 0, .int .u8 0, .int .u8 0, .int .u8 0, .int .u8 0]], []⟩ 8 (by kernel_rfl) (by kernel_rfl) (by kernel_rfl) (by kernel_rfl)) ?_
  intro W base args ds gs before hval hW _ _
  exact contract H enc W base args ds gs before hval hW
theorem holds : Rows.ProofPutsSaid :=
  OpenClaim.holds_of_wide 3 Try.f3 rfl rfl rfl rfl rfl rfl rfl ⟨rfl, rfl, rfl, rfl, rfl⟩ rfl rfl rfl rfl rfl (by kernel_rfl) Try.func3 (by kernel_rfl)
    (of_decide_eq_true (by kernel_rfl)) (by unfold Func.isWrapper; first | (rw [if_pos (by decide +kernel)]; kernel_rfl) | (rw [if_neg (by decide +kernel)]; exact ⟨rfl, rfl⟩))
    (fun os started H enc _ => lifted os started H enc)
end Go.Proofs.Ytepdmpjmlfeanaa.law3
#print axioms Go.Proofs.Ytepdmpjmlfeanaa.law3.holds
