/- the chapter's example; the laws without the document's answer -/
import Derived.Test.YtepdmpjmlfeanaaGreatDoorVZ16N
set_option linter.unusedVariables false
set_option linter.unusedSimpArgs false
set_option maxRecDepth 8000
namespace Go.V
theorem dig_ok {d : List Int} (h : (decide (d.length = 32) && d.all fun x => decide (0 ≤ x) && decide (x ≤ 255)) = true) : Dig d := by
  rw [Bool.and_eq_true, List.all_eq_true] at h
  refine ⟨of_decide_eq_true h.1, fun x hx => ?_⟩
  have := h.2 x hx
  rw [Bool.and_eq_true] at this
  exact ⟨of_decide_eq_true this.1, of_decide_eq_true this.2⟩
/-- the sum, for the kernel -/
def shaC (m : List Int) : List Int := digL (match (m ++ tailOf m.length) with
  | l => if l.length = 64 then comp begin8 l else if l.length = 128 then comp (comp begin8 (l.take 64)) (l.drop 64) else [])
theorem shaC1 {m : List Int} (h : (m ++ tailOf m.length).length = 64) : shaL m = shaC m := by
  unfold shaL shaC
  simp only [h, if_true]
  rw [absorb_one h]
theorem shaC2 {m : List Int} (h : (m ++ tailOf m.length).length = 128) : shaL m = shaC m := by
  unfold shaL shaC
  have h0 : ¬ (128 = 64) := by decide
  simp only [h, h0, if_true, if_false]
  rw [absorb_long (by omega), absorb_one (by rw [List.length_drop, h])]
abbrev v5 : List Int := [(5 : Int), (0 : Int), (0 : Int), (0 : Int), (0 : Int), (0 : Int), (0 : Int), (0 : Int), (0 : Int), (0 : Int), (0 : Int), (0 : Int), (0 : Int), (0 : Int), (0 : Int), (0 : Int), (0 : Int), (0 : Int), (0 : Int), (0 : Int), (0 : Int), (0 : Int), (0 : Int), (0 : Int), (0 : Int), (0 : Int), (0 : Int), (0 : Int), (0 : Int), (0 : Int), (0 : Int), (0 : Int)]
abbrev p128 : List Int := [(128 : Int), (0 : Int), (0 : Int), (0 : Int), (0 : Int), (0 : Int), (0 : Int), (0 : Int), (0 : Int), (0 : Int), (0 : Int), (0 : Int), (0 : Int), (0 : Int), (0 : Int), (0 : Int), (0 : Int), (0 : Int), (0 : Int), (0 : Int), (0 : Int), (0 : Int), (0 : Int), (0 : Int), (0 : Int), (0 : Int), (0 : Int), (0 : Int), (0 : Int), (0 : Int), (0 : Int), (0 : Int)]
abbrev v6 : List Int := [(6 : Int), (0 : Int), (0 : Int), (0 : Int), (0 : Int), (0 : Int), (0 : Int), (0 : Int), (0 : Int), (0 : Int), (0 : Int), (0 : Int), (0 : Int), (0 : Int), (0 : Int), (0 : Int), (0 : Int), (0 : Int), (0 : Int), (0 : Int), (0 : Int), (0 : Int), (0 : Int), (0 : Int), (0 : Int), (0 : Int), (0 : Int), (0 : Int), (0 : Int), (0 : Int), (0 : Int), (0 : Int)]
abbrev lfA : S_api_Leaf := ⟨List.replicate 32 0, v5⟩
abbrev lfB : S_api_Leaf := ⟨p128, v6⟩
theorem v5_dig : Dig v5 := dig_ok (by decide +kernel)
theorem v6_dig : Dig v6 := dig_ok (by decide +kernel)
theorem p128_dig : Dig p128 := dig_ok (by decide +kernel)
theorem lA_dig : Dig lfA.f0 ∧ Dig lfA.f1 := ⟨Dig.zero, v5_dig⟩
theorem lB_dig : Dig lfB.f0 ∧ Dig lfB.f1 := ⟨p128_dig, v6_dig⟩
theorem LDig.cons {x : S_api_Leaf} {l : List S_api_Leaf} (hx : Dig x.f0 ∧ Dig x.f1) (h : LDig l) : LDig (x :: l) := List.forall_mem_cons.2 ⟨hx, h⟩
theorem eA : rootE 32 [lfA] = 0 := by decide +kernel
theorem eBA : rootE 32 [lfB, lfA] = 0 := by decide +kernel
theorem eAA : rootE 32 [lfA, lfA] = 30 := by decide +kernel
theorem eN : rootE 32 [] = 0 := by decide +kernel
theorem rA : rootR 32 [lfA] = rootL 32 [lfA] := by unfold rootR; rw [if_pos eA]
theorem rN : rootR 32 [] = digT 32 .nil := by unfold rootR; rw [if_pos eN]; rfl
theorem rBA : rootR 32 [lfB, lfA] = shortL 32 (1 :: (rootL 32 [lfA] ++ rootL 32 [lfB])) := by
  unfold rootR
  rw [if_pos eBA]
  unfold rootL
  rw [dig_two (m := 255) (n := 0) (q := []) rfl (.of (LDig.cons lB_dig (LDig.cons lA_dig LDig.nil)) (by decide +kernel) []) (by decide)]
  have h0 : halfL [lfB, lfA] 0 0 = [lfA] := by unfold halfL; rw [List.filter_cons, if_neg (by decide +kernel), List.filter_cons, if_pos (by decide +kernel)]; rfl
  have h1 : halfL [lfB, lfA] 0 1 = [lfB] := by unfold halfL; rw [List.filter_cons, if_pos (by decide +kernel), List.filter_cons, if_neg (by decide +kernel)]; rfl
  rw [h0, h1, bld_one, bld_one, bld_one, bld_one]
  rfl
theorem ne1 : ¬ digT 32 .nil = rootL 32 [lfA] := by
  unfold rootL
  rw [bld_one]
  show ¬ shortL 32 [2] = shortL 32 (0 :: (lfA.f0 ++ lfA.f1))
  unfold shortL
  rw [shaC1 (by decide +kernel), shaC2 (by decide +kernel)]
  decide +kernel
theorem gAB : setE [] [lfA, lfB] = 0 := by rw [setE_nil]; decide +kernel
-- no tree
-- a leaf that comes and goes
end Go.V
