/- the plain laws: checks -/
import Derived.Test.YtepdmpjmlfeanaaDoorVD06M
set_option linter.unusedVariables false
set_option linter.unusedSimpArgs false
set_option maxRecDepth 4000
namespace Go.V
def p9 : List Int := [9, 0, 0, 0, 0, 0, 0, 0, 0, 0, 0, 0, 0, 0, 0, 0, 0, 0, 0, 0, 0, 0, 0, 0, 0, 0, 0, 0, 0, 0, 0, 0]
theorem dig_ok {d : List Int} (h : (decide (d.length = 32) && d.all fun x => decide (0 ≤ x) && decide (x ≤ 255)) = true) : Dig d := by
  rw [Bool.and_eq_true, List.all_eq_true] at h
  refine ⟨of_decide_eq_true h.1, fun x hx => ?_⟩
  have := h.2 x hx
  rw [Bool.and_eq_true] at this
  exact ⟨of_decide_eq_true this.1, of_decide_eq_true this.2⟩
theorem p9_dig : Dig p9 := dig_ok (by decide +kernel)
/-- the sum, for the kernel -/
def shaC (m : List Int) : List Int := digL (match (m ++ tailOf m.length) with
  | l => if l.length = 64 then comp begin8 l else if l.length = 128 then comp (comp begin8 (l.take 64)) (l.drop 64) else [])
theorem shaC1 {m : List Int} (h : (m ++ tailOf m.length).length = 64) : shaL m = shaC m := by
  unfold shaL shaC
  simp only [h, if_true]
  rw [absorb_one h]
theorem shaC2 {m : List Int} (h : (m ++ tailOf m.length).length = 128) : shaL m = shaC m := by
  unfold shaL shaC
  have h0 : ¬ (128 = 64) := by decide
  simp only [h, h0, if_true, if_false]
  rw [absorb_long (by omega), absorb_one (by rw [List.length_drop, h])]
theorem sum_ne : ¬ shortL 32 (leafB p9 z32) = shortL 32 [2] := by
  unfold shortL
  rw [shaC2 (by decide +kernel), shaC1 (by decide +kernel)]
  decide +kernel
theorem checks1 : checkV 32 (shortL 32 [2]) p9 false z32 [] false z32 z32 = 0 := by
  unfold checkV
  rw [if_pos (by decide), show mayP p9 false z32 [] false z32 z32 = true by decide +kernel, cond_true]
  exact if_pos rfl
theorem checks2 : checkV 32 (shortL 32 [2]) p9 true z32 [] false z32 z32 = 41 := by
  unfold checkV
  rw [if_pos (by decide), show mayP p9 true z32 [] false z32 z32 = true by decide +kernel, cond_true]
  exact if_neg sum_ne
theorem checks3 : checkV 32 (shortL 32 [2]) p9 false p9 [] false z32 z32 = 40 := by
  unfold checkV
  rw [if_pos (by decide), show mayP p9 false p9 [] false z32 z32 = false by decide +kernel, cond_false]
theorem checks_s (k : Nat) {K : Bool → Prop} (hk : 6000 ≤ k) (h : K true) : F_l06_checks k K := by
  obtain ⟨k, rfl⟩ : ∃ m, k = m + 1 := ⟨k - 1, by omega⟩
  rw [F_l06_checks]
  simp only [Hold_eq]
  have e (K : List Int → Prop) (hK : K (shortL 32 [2])) : F_smt_Empty k (32 : Int) K := Empty_s k (W := 32) (by omega) (by omega) hK
  refine e _ (proof_Check_s k p9_dig Dig.zero Dig.zero Dig.zero (by simp) (by omega) (e _ (proof_Check_s k p9_dig Dig.zero Dig.zero Dig.zero (by simp) (by omega) (e _ (proof_Check_s k p9_dig p9_dig Dig.zero Dig.zero (by simp) (by omega) ?_)))))
  have c1 := checks1
  have c2 := checks2
  have c3 := checks3
  unfold p9 at c1 c2 c3
  rw [c1, c2, c3]
  exact h
theorem l06_Checks (w : Int) (root p : List Int) (has : Bool) (val : List Int) (s : List (List Int)) (oth : Bool) (op ov : List Int) (hr : Dig root) (hp : Dig p) (hv : Dig val) (hop : Dig op) (hov : Dig ov) (hs : ∀ d ∈ s, Dig d) :
    ∃ k, F_l06_ProofChecks k w root p has val s oth op ov (fun b => b = true) := by
  suffices h : ∀ k, 6100 ≤ k → F_l06_ProofChecks k w root p has val s oth op ov (fun b => b = true) from ⟨6100, h _ (Nat.le_refl _)⟩
  intro k hk
  obtain ⟨k, rfl⟩ : ∃ m, k = m + 1 := ⟨k - 1, by omega⟩
  rw [F_l06_ProofChecks]
  simp only [Hold_eq]
  refine cond_dec (fun h1 => by trivial) (fun h1 => ?_)
  refine r06_Own_s k (by omega) (by omega) (proof_Check_s k hp hv hop hov hs (by omega) (checks_s k (by omega) ?_))
  rw [cond_true]
  refine r06_Check_s k hp hv hop hov hs (by omega) ?_
  rw [decide_eq_true rfl, cond_true]
  exact r06_Same_s k (by omega) (by omega) (decide_eq_true ⟨rfl, rfl, rfl, rfl⟩)
end Go.V
