/- Proved: the law DeskPrints returns true at every input, and leaves what it is handed as it was. Conditions: none. -/
import Derived.Test.YtnmecdecebdfiaaDoorVP23B
import Derived.Test.YtnmecdecebdfiaaDoorVP23U
import Derived.WalkKit
import Derived.ProofKit
import Derived.OpenShut
import Derived.Test.YtnmecdecebdfiaaDoorVJ09
import Derived.Test.YtnmecdecebdfiaaDoorCards
import Derived.Test.YtnmecdecebdfiaaDoorTie
import Derived.Deep.DeepHandedRow
import Derived.LaidMore
import Derived.Lay
import Derived.Deep.DeepWitnessRowRef
set_option maxRecDepth 100000
set_option maxHeartbeats 4000000
set_option linter.unusedVariables false
namespace Go.Proofs.YtnmecdecebdfiaaDoor.law4
open Go.ChangeShapes Go.WideShapes Go.ChangeAt Go.RowKit Go.V
theorem tab (zs : List (A PU)) (h : EncL PE Tryd.f4.params.toList zs) (hw : ∀ m, ∀ a ∈ zs, wf PE m a) : ∃ k, PT k 4 zs [] fun r _ => r = .bool true := by
  have h' : EncL PE [33] zs := h
  match zs, h', hw with
  | [_], ⟨⟨x0, rfl⟩, _⟩, hw =>
    obtain ⟨k, hk⟩ := law_DeskPrints x0 hw
    exact ⟨k, ((by kernel_rfl : Hold (F_l23_DeskPrints k x0.f0 x0.f1 x0.f2 x0.f3 x0.f4.f0 x0.f4.f1 x0.f4.f2 x0.f4.f3 x0.f4.f4 x0.f4.f5 x0.f4.f6 x0.f5 x0.f6 x0.f7.f0 x0.f7.f1 (fun b => A.bool (U := PU) b = .bool true)) = PT k 4 [PE.enc 33 x0] [] fun r _ => r = .bool true)) ▸ ⟨by simpa using hk⟩⟩
theorem gN0 : Tryd.prog.globalNamed "math/bits.deBruijn32tab" = some 6 := by kernel_rfl
theorem gT0 : (Tryd.prog.globals[6]?).map (·.type) = some 24 := by kernel_rfl
theorem gN1 : Tryd.prog.globalNamed "math/bits.deBruijn64tab" = some 7 := by kernel_rfl
theorem gT1 : (Tryd.prog.globals[7]?).map (·.type) = some 122 := by kernel_rfl
theorem gN2 : Tryd.prog.globalNamed "internal/strconv.uint64pow10" = some 5 := by kernel_rfl
theorem gT2 : (Tryd.prog.globals[5]?).map (·.type) = some 116 := by kernel_rfl
theorem gN4 : Tryd.prog.globalNamed "strconv.ErrRange" = some 4 := by kernel_rfl
theorem gT4 : (Tryd.prog.globals[4]?).map (·.type) = some 63 := by kernel_rfl
theorem gN5 : Tryd.prog.globalNamed "strconv.ErrSyntax" = some 3 := by kernel_rfl
theorem gT5 : (Tryd.prog.globals[3]?).map (·.type) = some 63 := by kernel_rfl
/-- what the row lists stays, as V has it -/
theorem glo {W : World} (h : laidMetH Tryd.prog Rows.deskPrintsRow.laid W) : ∀ g, GloAt PE W (Below W) g := by
  rw [MakeChecks.laidMetH_plain _ _ _ (by kernel_rfl)] at h
  obtain ⟨ps, ⟨g0, t0, cs0, u0, p0, q0, hg0, ht0, hv0, hd0, ⟨g1, t1, cs1, u1, p1, q1, hg1, ht1, hv1, hd1, ⟨g2, t2, cs2, u2, p2, q2, hg2, ht2, hv2, hd2, ⟨_, _, _, _, _, _, _, _, _, _, ⟨g4, t4, cs4, u4, p4, q4, hg4, ht4, hv4, hd4, ⟨g5, t5, cs5, u5, p5, q5, hg5, ht5, hv5, hd5, ⟨_, _, _, _, _, _, _, _, _, _, _, _⟩, _⟩, _⟩, _⟩, _⟩, _⟩, _⟩, _⟩ := h
  obtain rfl := Option.some.inj (gN0.symm.trans hg0)
  obtain rfl := Option.some.inj (gT0.symm.trans ht0)
  have c0 := laid_ints (ns := G_math_bits_deBruijn32tab) Tryd.underlying24 Tryd.underlying5 (by kernel_rfl) (by kernel_rfl) (by decide) hd0
  obtain rfl := Option.some.inj (gN1.symm.trans hg1)
  obtain rfl := Option.some.inj (gT1.symm.trans ht1)
  have c1 := laid_ints (ns := G_math_bits_deBruijn64tab) Tryd.underlying122 Tryd.underlying5 (by kernel_rfl) (by kernel_rfl) (by decide) hd1
  obtain rfl := Option.some.inj (gN2.symm.trans hg2)
  obtain rfl := Option.some.inj (gT2.symm.trans ht2)
  have c2 := laid_ints (ns := G_internal_strconv_uint64pow10) Tryd.underlying116 Tryd.underlying96 (by kernel_rfl) (by kernel_rfl) (by decide) hd2
  obtain rfl := Option.some.inj (gN4.symm.trans hg4)
  obtain rfl := Option.some.inj (gT4.symm.trans ht4)
  have c4 := laid_iv ⟨_, Tryd.underlying63⟩ hd4
  obtain rfl := Option.some.inj (gN5.symm.trans hg5)
  obtain rfl := Option.some.inj (gT5.symm.trans ht5)
  have c5 := laid_iv ⟨_, Tryd.underlying63⟩ hd5
  intro g
  match g with
  | 0 => exact .of_rt trivial rfl
  | 1 => exact .of_rt trivial rfl
  | 2 => exact .of_rt trivial rfl
  | 3 => exact gloAt_of (E := PE) hg5 hv5 (glob_iv (E := PE) (c := 63) (x := G_strconv_ErrSyntax) hg5 hv5 c5 rfl) (fun n e => nomatch e)
  | 4 => exact gloAt_of (E := PE) hg4 hv4 (glob_iv (E := PE) (c := 63) (x := G_strconv_ErrRange) hg4 hv4 c4 rfl) (fun n e => nomatch e)
  | 5 => exact gloAt_of (E := PE) hg2 hv2 (glob_arr (E := PE) (n := 0) (c := 116) (x := G_internal_strconv_uint64pow10) (e := 96) (l := G_internal_strconv_uint64pow10) hg2 hv2 c2 (by decide) rfl rfl) (fun n e => by rw [← Array.length_toList, c2, List.length_map]; exact Option.some.inj e)
  | 6 => exact gloAt_of (E := PE) hg0 hv0 (glob_arr (E := PE) (n := 0) (c := 24) (x := G_math_bits_deBruijn32tab) (e := 5) (l := G_math_bits_deBruijn32tab) hg0 hv0 c0 (by decide) rfl rfl) (fun n e => nomatch e)
  | 7 => exact gloAt_of (E := PE) hg1 hv1 (glob_arr (E := PE) (n := 0) (c := 122) (x := G_math_bits_deBruijn64tab) (e := 5) (l := G_math_bits_deBruijn64tab) hg1 hv1 c1 (by decide) rfl rfl) (fun n e => nomatch e)
  | _ + 8 => exact .of_rt trivial rfl
theorem contract (H : Type) (enc : TypeId × Value → H) (W : World) (base : Nat) (args : Array Value) (ds gs : List (DataW H)) (before : List MemPlace)
    (hval : ∀ (j : Nat) t v, Tryd.f4.params[j]? = some t → args[j]? = some v → Value.okWide Tryd.prog W .any base t v)
    (hW : DataW.Whole enc Tryd.prog Tryd.f4.params.toList Rows.deskPrintsSpec.vars false W args.toList ds gs before) (hL : laidMetH Tryd.prog Rows.deskPrintsRow.laid W) :
    Calls Tryd.prog 4 args W fun e W' => ∃ v, e = .returned v ∧ Rows.deskPrintsSpec.post enc Tryd.prog Tryd.f4 false true false false W args v W' :=
  law_contract (E := PE) (B := Rows.uptoBulk) PEok hD (hB H) (T := PT) (fun k => (PSound k).1) (f := 4) ⟨rfl, by kernel_rfl⟩ (Q := fun N => True) (fun zs N h hw hm hN => tab zs h hw) rfl
    (fun ds h => by match ds, h with | [_], _ => rfl) laidOut (by decide) (by decide +kernel) (tb := 4) rfl Tryd.underlying4 (glo hL) hval hW trivial
def zargs : Array Value := #[.agg #[.int .i64 0, .int .i64 0, .int .i64 0, .int .i64 0, .int .i64 0, .int .i64 0, .int .i64 0, .string .empty, .string .empty, .int .i64 0, .int .u8 0, .int .u8 0, .int .u8 0, .int .u8 0, .int .u8 0, .int .u8 0, .int .u8 0, .int .u8 0, .int .u8 0, .int .u8 0, .int .u8 0, .int .u8 0, .int .u8 0, .int .u8 0, .int .u8 0, .int .u8 0, .int .u8 0, .int .u8 0, .int .u8 0, .int .u8 0, .int .u8 0, .int .u8 0, .int .u8 0, .int .u8 0, .int .u8 0, .int .u8 0, .int .u8 0, .int .u8 0, .int .u8 0, .int .u8 0, .int .u8 0, .int .u8 0, .int .i64 0, .string .empty, .int .i64 0, .int .i64 0]]
def zds {H : Type} : List (DataW H) := [.agg [.lit (.int .i64 0), .lit (.int .i64 0), .lit (.int .i64 0), .lit (.int .i64 0), .agg [.lit (.int .i64 0), .lit (.int .i64 0), .lit (.int .i64 0), .lit (.string []), .lit (.string []), .lit (.int .i64 0), .agg [.lit (.int .u8 0), .lit (.int .u8 0), .lit (.int .u8 0), .lit (.int .u8 0), .lit (.int .u8 0), .lit (.int .u8 0), .lit (.int .u8 0), .lit (.int .u8 0), .lit (.int .u8 0), .lit (.int .u8 0), .lit (.int .u8 0), .lit (.int .u8 0), .lit (.int .u8 0), .lit (.int .u8 0), .lit (.int .u8 0), .lit (.int .u8 0), .lit (.int .u8 0), .lit (.int .u8 0), .lit (.int .u8 0), .lit (.int .u8 0), .lit (.int .u8 0), .lit (.int .u8 0), .lit (.int .u8 0), .lit (.int .u8 0), .lit (.int .u8 0), .lit (.int .u8 0), .lit (.int .u8 0), .lit (.int .u8 0), .lit (.int .u8 0), .lit (.int .u8 0), .lit (.int .u8 0), .lit (.int .u8 0)]], .lit (.int .i64 0), .lit (.string []), .agg [.lit (.int .i64 0), .lit (.int .i64 0)]]]
/-- a world that the witness starts in: what the row lists, laid -/
theorem laid_met (os : Os) : laidMet Tryd.prog Rows.deskPrintsRow.laid ((World.laidAll Tryd.prog os Rows.deskPrintsRow.laid).forCall (fun _ _ => 0) ⟨#[], zargs, []⟩).memory :=
  laidMet_laidAll _ (by kernel_rfl) (by kernel_rfl)
theorem reads (os : Os) {H : Type} (enc : TypeId × Value → H) : ∃ places, DataW.whole enc Tryd.prog ((World.laidAll Tryd.prog os Rows.deskPrintsRow.laid).forCall (fun _ _ => 0) ⟨#[], zargs, []⟩).memory Tryd.f4.params.toList Rows.deskPrintsSpec.vars false zargs.toList 8 = some (zds, [], places) :=
  ⟨[], by kernel_rfl⟩
theorem lifted (os : Os) (started : os.Started) (H : Type) (enc : TypeId × Value → H) (F : Stop.Interp) :
    ReturnsInHanded {} Tryd.checked os 4 .any ((OpenSpec.ofChange Rows.deskPrintsSpec).preRow enc Tryd.prog Tryd.f4 Rows.deskPrintsRow.domain false Rows.deskPrintsRow.laid) (((OpenSpec.ofChange Rows.deskPrintsSpec).at F).post enc Tryd.prog Tryd.f4 false true false false) := by
  obtain ⟨places, hx⟩ := reads os enc
  refine returnsInHanded_of_row (C := Tryd.checked) (s := OpenSpec.ofChange Rows.deskPrintsSpec) own started (by kernel_rfl) Tryd.func4
    (witness_row_atRef (enc := enc) (C := Tryd.checked) false (World.laidAll Tryd.prog os Rows.deskPrintsRow.laid) zargs (World.laidAll_os _ _ _) (by kernel_rfl) (by kernel_rfl) (by kernel_rfl)
      (OpenSpec.preRow_of_cond 8 hx (by kernel_rfl) (fun k hk => by cases hk) (by kernel_rfl) (laid_met os))) ?_
  intro W base args ds gs before hval hW _ _ _ hL _ _
  exact contract H enc W base args ds gs before hval hW hL
theorem closed : joinedFacts Tryd.pinned.checked.prog 4 Tryd.f4 (OpenSpec.ofChange Rows.deskPrintsSpec).bare Rows.deskPrintsRow = true := by
  show joinedFacts Tryd.prog 4 Tryd.f4 Rows.deskPrintsSpec Rows.deskPrintsRow = true
  unfold joinedFacts
  simp only [Bool.and_eq_true]
  refine ⟨⟨⟨⟨⟨⟨⟨⟨⟨⟨⟨⟨⟨⟨⟨⟨⟨⟨⟨⟨⟨⟨⟨⟨⟨⟨⟨⟨⟨⟨⟨?_, laidOut⟩, p_maps⟩, ?_⟩, ?_⟩, ?_⟩, ?_⟩, ?_⟩, ?_⟩, ?_⟩, ?_⟩, ?_⟩, ?_⟩, ?_⟩, ?_⟩, ?_⟩, ?_⟩, ?_⟩, ?_⟩, ?_⟩, ?_⟩, ?_⟩, p_keys⟩, ?_⟩, p_heard⟩, p_enter⟩, p_lifts⟩, p_make⟩, ?_⟩, ?_⟩, ?_⟩, ?_⟩
  all_goals as_aux_lemma => kernel_rfl
theorem said : Rows.DeskPrintsSaid :=
  OpenClaim.holds_of_cond 4 Tryd.f4 rfl rfl rfl rfl rfl rfl rfl ⟨rfl, rfl, rfl, rfl, rfl⟩ rfl rfl rfl rfl rfl (by kernel_rfl) Tryd.func4 closed
    (of_decide_eq_true (by kernel_rfl)) (by unfold Func.isWrapper; first | (rw [if_pos (by decide +kernel)]; kernel_rfl) | (rw [if_neg (by decide +kernel)]; exact ⟨rfl, rfl⟩))
    (fun os started H enc _ F => by rw [OpenClaim.pre_eq_preRow]; exact lifted os started H enc F)
theorem plain (f : FuncId) (fn : Func) (hf : Tryd.pinned.checked.prog.funcNamed "tabellion/tabellionlaw23.DeskPrints" = some f) (hfn : Tryd.pinned.checked.prog.funcs[f]? = some fn) :
    true = Tryd.pinned.checked.prog.looks [] ∧ ∀ (j : Nat) t, fn.params[j]? = some t → Tryd.pinned.checked.prog.wantsStandIn t = false := by
  obtain rfl : f = 4 := Option.some.inj ((show Tryd.prog.funcNamed "tabellion/tabellionlaw23.DeskPrints" = some 4 by kernel_rfl).symm.trans hf) |>.symm
  obtain rfl : fn = Tryd.f4 := (Option.some.inj (Tryd.func4.symm.trans hfn)).symm
  refine ⟨by kernel_rfl, fun j t ht => ?_⟩
  rw [Tryd.params4] at ht
  have hm : t ∈ [33] := by simpa using Array.mem_of_getElem? ht
  have hall : ([33].all fun u => !Tryd.prog.wantsStandIn u) = true := by kernel_rfl
  exact (show Tryd.prog.wantsStandIn t = false by simpa using List.all_eq_true.1 hall t hm)
/-- the card -/
theorem holds : Rows.DeskPrintsCardSaid :=
  Claim7.holds_tied_plain_at .later [] _ _ _ _ said (fun _ h => by cases h) (by kernel_rfl) (fun _ h => by cases h) deskPrints_row_tie rfl ⟨rfl, rfl⟩ (by kernel_rfl) rfl plain (by kernel_rfl)
