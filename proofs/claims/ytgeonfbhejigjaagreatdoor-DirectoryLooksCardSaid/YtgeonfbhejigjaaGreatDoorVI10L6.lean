/- Proved: the law DirectoryLooks returns true at every input, and leaves what it is handed as it was. Conditions: none. -/
import Derived.Test.YtgeonfbhejigjaaGreatDoorVI10B
import Derived.Test.YtgeonfbhejigjaaGreatDoorVI10Sd
import Derived.WalkKit
import Derived.ProofKit
import Derived.OpenShut
import Derived.Test.YtgeonfbhejigjaaGreatDoorVJ09
import Derived.Test.YtgeonfbhejigjaaGreatDoorCards
import Derived.Test.YtgeonfbhejigjaaGreatDoorTie
import Derived.Deep.DeepHandedRow
import Derived.LaidMore
set_option maxRecDepth 100000
set_option maxHeartbeats 4000000
set_option linter.unusedVariables false
namespace Go.Proofs.YtgeonfbhejigjaaGreatDoor.law6
open Go.ChangeShapes Go.WideShapes Go.ChangeAt Go.RowKit Go.V
theorem tab (zs : List (A PU)) (h : EncL PE Tryz.f6.params.toList zs) (hw : ∀ m, ∀ a ∈ zs, wf PE m a) : ∃ k, PT k 6 zs [] fun r _ => r = .bool true := by
  have h' : EncL PE [26, 9, 3] zs := h
  match zs, h', hw with
  | [_, _, _], ⟨⟨x0, rfl⟩, ⟨x1, rfl⟩, ⟨x2, rfl⟩, _⟩, hw =>
    obtain ⟨k, hk⟩ := law_DirectoryLooks x0 x1 x2 hw
    exact ⟨k, ((by kernel_rfl : Hold (F_l10_DirectoryLooks k x0.f0 x0.f1 x0.f2 x0.f3 x1 x2 (fun b => A.bool (U := PU) b = .bool true)) = PT k 6 [PE.enc 26 x0, PE.enc 9 x1, PE.enc 3 x2] [] fun r _ => r = .bool true)) ▸ ⟨by simpa using hk⟩⟩
theorem gN0 : Tryz.prog.globalNamed "tabellion/sha.keys" = some 1 := by kernel_rfl
theorem gT0 : (Tryz.prog.globals[1]?).map (·.type) = some 226 := by kernel_rfl
theorem gN1 : Tryz.prog.globalNamed "tabellion/tabellionref02.key" = some 0 := by kernel_rfl
theorem gT1 : (Tryz.prog.globals[0]?).map (·.type) = some 226 := by kernel_rfl
/-- what the row lists stays, as V has it -/
theorem glo {W : World} (h : laidMetH Tryz.prog Rows.directoryLooksRow.laid W) : ∀ g, RT PE W (Below W) noNm (PE.glob g) (.pointer (some ⟨g, 0, .none⟩)) := by
  rw [MakeChecks.laidMetH_plain _ _ _ (by kernel_rfl)] at h
  obtain ⟨ps, ⟨g0, t0, cs0, u0, p0, q0, hg0, ht0, hv0, hd0, ⟨g1, t1, cs1, u1, p1, q1, hg1, ht1, hv1, hd1, _, _⟩, _⟩, _⟩ := h
  obtain rfl := Option.some.inj (gN0.symm.trans hg0)
  obtain rfl := Option.some.inj (gT0.symm.trans ht0)
  have c0 := laid_ints (ns := G_sha_keys) Tryz.underlying226 Tryz.underlying189 (by kernel_rfl) (by kernel_rfl) (by decide) hd0
  obtain rfl := Option.some.inj (gN1.symm.trans hg1)
  obtain rfl := Option.some.inj (gT1.symm.trans ht1)
  have c1 := laid_ints (ns := G_r02_key) Tryz.underlying226 Tryz.underlying189 (by kernel_rfl) (by kernel_rfl) (by decide) hd1
  intro g
  match g with
  | 0 => exact glob_arr (E := PE) (n := 0) (c := 226) (x := G_r02_key) (e := 189) (l := G_r02_key) hg1 hv1 c1 (by decide) rfl rfl
  | 1 => exact glob_arr (E := PE) (n := 0) (c := 226) (x := G_sha_keys) (e := 189) (l := G_sha_keys) hg0 hv0 c0 (by decide) rfl rfl
  | 2 => exact trivial
  | _ + 3 => exact trivial
theorem contract (H : Type) (enc : TypeId × Value → H) (W : World) (base : Nat) (args : Array Value) (ds gs : List (DataW H)) (before : List MemPlace)
    (hval : ∀ (j : Nat) t v, Tryz.f6.params[j]? = some t → args[j]? = some v → Value.okWide Tryz.prog W .any base t v)
    (hW : DataW.Whole enc Tryz.prog Tryz.f6.params.toList Rows.directoryLooksSpec.vars false W args.toList ds gs before) (hL : laidMetH Tryz.prog Rows.directoryLooksRow.laid W) :
    Calls Tryz.prog 6 args W fun e W' => ∃ v, e = .returned v ∧ Rows.directoryLooksSpec.post enc Tryz.prog Tryz.f6 false true false false W args v W' :=
  law_contract (E := PE) (B := Rows.uptoBulk) PEok hD (hB H) (T := PT) (fun k => (PSound k).1) (f := 6) ⟨rfl, by kernel_rfl⟩ (Q := fun N => True) (fun zs N h hw hm hN => tab zs h hw) rfl
    (fun ds h => by match ds, h with | [_, _, _], _ => rfl) laidOut (by decide) (by decide +kernel) (tb := 4) rfl Tryz.underlying4 (glo hL) hval hW trivial
def zargs : Array Value := #[.agg #[.int .i64 0, .slice none 0 0, .slice none 0 0, .slice none 0 0], .string .empty, .int .i64 0]
def zds {H : Type} : List (DataW H) := [.agg [.lit (.int .i64 0), .nil, .nil, .nil], .lit (.string []), .lit (.int .i64 0)]
/-- a world that the witness starts in: what the door leaves -/
theorem laid_met (os : Os) : laidMet Tryz.prog Rows.directoryLooksRow.laid ((World.doorLaid Tryz.prog 5000 os).forCall (fun _ _ => 0) ⟨#[], zargs, []⟩).memory :=
  laidMet_of_run' 8 (by kernel_rfl) (by kernel_rfl)
theorem reads (os : Os) {H : Type} (enc : TypeId × Value → H) : ∃ places, DataW.whole enc Tryz.prog ((World.doorLaid Tryz.prog 5000 os).forCall (fun _ _ => 0) ⟨#[], zargs, []⟩).memory Tryz.f6.params.toList Rows.directoryLooksSpec.vars false zargs.toList 8 = some (zds, [], places) :=
  ⟨[], by kernel_rfl⟩
theorem lifted (os : Os) (started : os.Started) (H : Type) (enc : TypeId × Value → H) (F : Stop.Interp) :
    ReturnsInHanded {} Tryz.checked os 6 .any ((OpenSpec.ofChange Rows.directoryLooksSpec).preRow enc Tryz.prog Tryz.f6 Rows.directoryLooksRow.domain false Rows.directoryLooksRow.laid) (((OpenSpec.ofChange Rows.directoryLooksSpec).at F).post enc Tryz.prog Tryz.f6 false true false false) := by
  obtain ⟨places, hx⟩ := reads os enc
  refine returnsInHanded_of_row (C := Tryz.checked) (s := OpenSpec.ofChange Rows.directoryLooksSpec) own started (by kernel_rfl) Tryz.func6
    (witness_row_at (enc := enc) (C := Tryz.checked) false (World.doorLaid Tryz.prog 5000 os) zargs rfl (by kernel_rfl) (by kernel_rfl) (by kernel_rfl)
      (OpenSpec.preRow_of_cond 8 hx (by kernel_rfl) (fun k hk => by cases hk) (by kernel_rfl) (laid_met os))) ?_
  intro W base args ds gs before hval hW _ _ _ hL _ _
  exact contract H enc W base args ds gs before hval hW hL
theorem closed : joinedFacts Tryz.pinned.checked.prog 6 Tryz.f6 (OpenSpec.ofChange Rows.directoryLooksSpec).bare Rows.directoryLooksRow = true := by
  show joinedFacts Tryz.prog 6 Tryz.f6 Rows.directoryLooksSpec Rows.directoryLooksRow = true
  unfold joinedFacts
  simp only [Bool.and_eq_true]
  refine ⟨⟨⟨⟨⟨⟨⟨⟨⟨⟨⟨⟨⟨⟨⟨⟨⟨⟨⟨⟨⟨⟨⟨⟨⟨⟨⟨⟨⟨⟨⟨?_, laidOut⟩, p_maps⟩, ?_⟩, ?_⟩, ?_⟩, ?_⟩, ?_⟩, ?_⟩, ?_⟩, ?_⟩, ?_⟩, ?_⟩, ?_⟩, ?_⟩, ?_⟩, ?_⟩, ?_⟩, ?_⟩, ?_⟩, ?_⟩, ?_⟩, p_keys⟩, ?_⟩, p_heard⟩, p_enter⟩, p_lifts⟩, p_make⟩, ?_⟩, ?_⟩, ?_⟩, ?_⟩
  all_goals as_aux_lemma => kernel_rfl
theorem said : Rows.DirectoryLooksSaid :=
  OpenClaim.holds_of_cond 6 Tryz.f6 rfl rfl rfl rfl rfl rfl rfl ⟨rfl, rfl, rfl, rfl, rfl⟩ rfl rfl rfl rfl rfl (by kernel_rfl) Tryz.func6 closed
    (of_decide_eq_true (by kernel_rfl)) (by unfold Func.isWrapper; first | (rw [if_pos (by decide +kernel)]; kernel_rfl) | (rw [if_neg (by decide +kernel)]; exact ⟨rfl, rfl⟩))
    (fun os started H enc _ F => by rw [OpenClaim.pre_eq_preRow]; exact lifted os started H enc F)
theorem plain (f : FuncId) (fn : Func) (hf : Tryz.pinned.checked.prog.funcNamed "tabellion/tabellionlaw10.DirectoryLooks" = some f) (hfn : Tryz.pinned.checked.prog.funcs[f]? = some fn) :
    false = Tryz.pinned.checked.prog.looks [] ∧ ∀ (j : Nat) t, fn.params[j]? = some t → Tryz.pinned.checked.prog.wantsStandIn t = false := by
  obtain rfl : f = 6 := Option.some.inj ((show Tryz.prog.funcNamed "tabellion/tabellionlaw10.DirectoryLooks" = some 6 by kernel_rfl).symm.trans hf) |>.symm
  obtain rfl : fn = Tryz.f6 := (Option.some.inj (Tryz.func6.symm.trans hfn)).symm
  refine ⟨by kernel_rfl, fun j t ht => ?_⟩
  rw [Tryz.params6] at ht
  have hm : t ∈ [26, 9, 3] := by simpa using Array.mem_of_getElem? ht
  have hall : ([26, 9, 3].all fun u => !Tryz.prog.wantsStandIn u) = true := by kernel_rfl
  exact (show Tryz.prog.wantsStandIn t = false by simpa using List.all_eq_true.1 hall t hm)
/-- the card -/
theorem holds : Rows.DirectoryLooksCardSaid :=
  Claim7.holds_tied_plain_at .later [] _ _ _ _ said (fun _ h => by cases h) (by kernel_rfl) (fun _ h => by cases h) directoryLooks_row_tie rfl ⟨rfl, rfl⟩ (by kernel_rfl) rfl plain (by kernel_rfl)
