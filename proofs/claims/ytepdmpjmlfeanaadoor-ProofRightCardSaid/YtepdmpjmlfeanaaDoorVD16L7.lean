/- Proved: the law ProofRight returns true at every input, and leaves what it is handed as it was. Conditions: none. -/
import Derived.Test.YtepdmpjmlfeanaaDoorVD16B
import Derived.Test.YtepdmpjmlfeanaaDoorVD16W
import Derived.WalkKit
import Derived.ProofKit
import Derived.OpenShut
import Derived.Test.YtepdmpjmlfeanaaDoorVJ11
import Derived.Test.YtepdmpjmlfeanaaDoorCards
import Derived.Test.YtepdmpjmlfeanaaDoorTie
import Derived.Deep.DeepHandedRow
import Derived.LaidMore
set_option maxRecDepth 100000
set_option linter.unusedVariables false
namespace Go.Proofs.YtepdmpjmlfeanaaDoor.law7
open Go.ChangeShapes Go.WideShapes Go.ChangeAt Go.RowKit Go.V
theorem tab (zs : List (A PU)) (h : EncL PE Tryd.f7.params.toList zs) (hw : ∀ m, ∀ a ∈ zs, wf PE m a) : ∃ k, PT k 7 zs [] fun r _ => r = .bool true := by
  have h' : EncL PE [3, 41, 23] zs := h
  match zs, h', hw with
  | [_, _, _], ⟨⟨x0, rfl⟩, ⟨x1, rfl⟩, ⟨x2, rfl⟩, _⟩, hw =>
    obtain ⟨k, hk⟩ := law_ProofRight x0 x1 x2 hw
    exact ⟨k, ((by kernel_rfl : Hold (F_l06_ProofRight k x0 x1 x2 (fun b => A.bool (U := PU) b = .bool true)) = PT k 7 [PE.enc 3 x0, PE.enc 41 x1, PE.enc 23 x2] [] fun r _ => r = .bool true)) ▸ ⟨by simpa using hk⟩⟩
theorem gN0 : Tryd.prog.globalNamed "tabellion/sha.keys" = some 1 := by kernel_rfl
theorem gT0 : (Tryd.prog.globals[1]?).map (·.type) = some 136 := by kernel_rfl
/-- what the row lists stays, as V has it -/
theorem glo {W : World} (h : laidMetH Tryd.prog Rows.proofRightRow.laid W) : ∀ g, RT PE W (Below W) noNm (PE.glob g) (.pointer (some ⟨g, 0, .none⟩)) := by
  rw [MakeChecks.laidMetH_plain _ _ _ (by kernel_rfl)] at h
  obtain ⟨ps, ⟨g0, t0, cs0, u0, p0, q0, hg0, ht0, hv0, hd0, _, _⟩, _⟩ := h
  obtain rfl := Option.some.inj (gN0.symm.trans hg0)
  obtain rfl := Option.some.inj (gT0.symm.trans ht0)
  have c0 := laid_ints (ns := G_sha_keys) Tryd.underlying136 Tryd.underlying104 (by kernel_rfl) (by kernel_rfl) (by decide) hd0
  intro g
  match g with
  | 0 => exact trivial
  | 1 => exact glob_arr (E := PE) (n := 0) (c := 136) (x := G_sha_keys) (e := 104) (l := G_sha_keys) hg0 hv0 c0 (by decide) rfl rfl
  | _ + 2 => exact trivial
theorem contract (H : Type) (enc : TypeId × Value → H) (W : World) (base : Nat) (args : Array Value) (ds gs : List (DataW H)) (before : List MemPlace)
    (hval : ∀ (j : Nat) t v, Tryd.f7.params[j]? = some t → args[j]? = some v → Value.okWide Tryd.prog W .any base t v)
    (hW : DataW.Whole enc Tryd.prog Tryd.f7.params.toList Rows.proofRightSpec.vars false W args.toList ds gs before) (hL : laidMetH Tryd.prog Rows.proofRightRow.laid W) :
    Calls Tryd.prog 7 args W fun e W' => ∃ v, e = .returned v ∧ Rows.proofRightSpec.post enc Tryd.prog Tryd.f7 false true false false W args v W' :=
  law_contract (E := PE) (B := Rows.uptoBulk) PEok hD (hB H) (T := PT) (fun k => (PSound k).1) (f := 7) ⟨rfl, by kernel_rfl⟩ (Q := fun N => True) (fun zs N h hw hm hN => tab zs h hw) rfl
    (fun ds h => by match ds, h with | [_, _, _], _ => rfl) laidOut (by decide) (by decide +kernel) (tb := 4) rfl Tryd.underlying4 (glo hL) hval hW trivial
def zargs : Array Value := #[.int .i64 0, .slice none 0 0, .agg #[.int .u8 0, .int .u8 0, .int .u8 0, .int .u8 0, .int .u8 0, .int .u8 0, .int .u8 0, .int .u8 0, .int .u8 0, .int .u8 0, .int .u8 0, .int .u8 0, .int .u8 0, .int .u8 0, .int .u8 0, .int .u8 0, .int .u8 0, .int .u8 0, .int .u8 0, .int .u8 0, .int .u8 0, .int .u8 0, .int .u8 0, .int .u8 0, .int .u8 0, .int .u8 0, .int .u8 0, .int .u8 0, .int .u8 0, .int .u8 0, .int .u8 0, .int .u8 0]]
def zds {H : Type} : List (DataW H) := [.lit (.int .i64 0), .nil, .agg [.lit (.int .u8 0), .lit (.int .u8 0), .lit (.int .u8 0), .lit (.int .u8 0), .lit (.int .u8 0), .lit (.int .u8 0), .lit (.int .u8 0), .lit (.int .u8 0), .lit (.int .u8 0), .lit (.int .u8 0), .lit (.int .u8 0), .lit (.int .u8 0), .lit (.int .u8 0), .lit (.int .u8 0), .lit (.int .u8 0), .lit (.int .u8 0), .lit (.int .u8 0), .lit (.int .u8 0), .lit (.int .u8 0), .lit (.int .u8 0), .lit (.int .u8 0), .lit (.int .u8 0), .lit (.int .u8 0), .lit (.int .u8 0), .lit (.int .u8 0), .lit (.int .u8 0), .lit (.int .u8 0), .lit (.int .u8 0), .lit (.int .u8 0), .lit (.int .u8 0), .lit (.int .u8 0), .lit (.int .u8 0)]]
/-- a world that the witness starts in: what the door leaves -/
theorem laid_met (os : Os) : laidMet Tryd.prog Rows.proofRightRow.laid ((World.doorLaid Tryd.prog 5000 os).forCall (fun _ _ => 0) ⟨#[], zargs, []⟩).memory :=
  laidMet_of_run' 8 (by kernel_rfl) (by kernel_rfl)
theorem reads (os : Os) {H : Type} (enc : TypeId × Value → H) : ∃ places, DataW.whole enc Tryd.prog ((World.doorLaid Tryd.prog 5000 os).forCall (fun _ _ => 0) ⟨#[], zargs, []⟩).memory Tryd.f7.params.toList Rows.proofRightSpec.vars false zargs.toList 8 = some (zds, [], places) :=
  ⟨[], by kernel_rfl⟩
theorem lifted (os : Os) (started : os.Started) (H : Type) (enc : TypeId × Value → H) (F : Stop.Interp) :
    ReturnsInHanded {} Tryd.checked os 7 .any ((OpenSpec.ofChange Rows.proofRightSpec).preRow enc Tryd.prog Tryd.f7 Rows.proofRightRow.domain false Rows.proofRightRow.laid) (((OpenSpec.ofChange Rows.proofRightSpec).at F).post enc Tryd.prog Tryd.f7 false true false false) := by
  obtain ⟨places, hx⟩ := reads os enc
  refine returnsInHanded_of_row (C := Tryd.checked) (s := OpenSpec.ofChange Rows.proofRightSpec) own started (by kernel_rfl) Tryd.func7
    (witness_row_at (enc := enc) (C := Tryd.checked) false (World.doorLaid Tryd.prog 5000 os) zargs rfl (by kernel_rfl) (by kernel_rfl) (by kernel_rfl)
      (OpenSpec.preRow_of_cond 8 hx (by kernel_rfl) (fun k hk => by cases hk) (by kernel_rfl) (laid_met os))) ?_
  intro W base args ds gs before hval hW _ _ _ hL _ _
  exact contract H enc W base args ds gs before hval hW hL
theorem said : Rows.ProofRightSaid :=
  OpenClaim.holds_of_cond 7 Tryd.f7 rfl rfl rfl rfl rfl rfl rfl ⟨rfl, rfl, rfl, rfl, rfl⟩ rfl rfl rfl rfl rfl (by kernel_rfl) Tryd.func7 (by kernel_rfl)
    (of_decide_eq_true (by kernel_rfl)) (by unfold Func.isWrapper; first | (rw [if_pos (by decide +kernel)]; kernel_rfl) | (rw [if_neg (by decide +kernel)]; exact ⟨rfl, rfl⟩))
    (fun os started H enc _ F => by rw [OpenClaim.pre_eq_preRow]; exact lifted os started H enc F)
theorem plain (f : FuncId) (fn : Func) (hf : Tryd.pinned.checked.prog.funcNamed "tabellion/tabellionlaw06.ProofRight" = some f) (hfn : Tryd.pinned.checked.prog.funcs[f]? = some fn) :
    false = Tryd.pinned.checked.prog.looks [] ∧ ∀ (j : Nat) t, fn.params[j]? = some t → Tryd.pinned.checked.prog.wantsStandIn t = false := by
  obtain rfl : f = 7 := Option.some.inj ((show Tryd.prog.funcNamed "tabellion/tabellionlaw06.ProofRight" = some 7 by kernel_rfl).symm.trans hf) |>.symm
  obtain rfl : fn = Tryd.f7 := (Option.some.inj (Tryd.func7.symm.trans hfn)).symm
  refine ⟨by kernel_rfl, fun j t ht => ?_⟩
  rw [Tryd.params7] at ht
  have hm : t ∈ [3, 41, 23] := by simpa using Array.mem_of_getElem? ht
  have hall : ([3, 41, 23].all fun u => !Tryd.prog.wantsStandIn u) = true := by kernel_rfl
  exact (show Tryd.prog.wantsStandIn t = false by simpa using List.all_eq_true.1 hall t hm)
/-- the card -/
theorem holds : Rows.ProofRightCardSaid :=
  Claim7.holds_tied_plain_at .later [] _ _ _ _ said (fun _ h => by cases h) (by kernel_rfl) (fun _ h => by cases h) proofRight_row_tie rfl ⟨rfl, rfl⟩ (by kernel_rfl) rfl plain (by kernel_rfl)
