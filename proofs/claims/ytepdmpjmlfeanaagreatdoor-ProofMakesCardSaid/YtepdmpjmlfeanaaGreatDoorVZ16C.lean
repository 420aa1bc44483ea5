/- what the proofs' checks and their document compute -/
import Derived.Test.YtepdmpjmlfeanaaGreatDoorVZ16P
import Derived.Test.YtepdmpjmlfeanaaGreatDoorVJ11
set_option linter.unusedVariables false
set_option linter.unusedSimpArgs false
set_option maxRecDepth 4000
namespace Go.V
/-- a proof: its siblings, its other -/
def plainP (o : Bool) (p v : List Int) : Bool := o || (decide (p = z32) && decide (v = z32))
-- the first bytes of a sum
theorem pEmpty_s (k : Nat) {W : Nat} {K : List Int → Prop} (hW : W ≤ 32) (hk : 3010 ≤ k) (h : K (shortL W [2])) : F_smt_Empty k (W : Int) K := by
  obtain ⟨k, rfl⟩ : ∃ m, k = m + 2 := ⟨k - 2, by omega⟩
  rw [F_smt_Empty]
  simp only [Hold_eq]
  rw [F_smt_summed]
  simp only [Hold_eq]
  refine sha_New_s k (by omega) (Write_s k New_inv (by simp) (by simp; omega) fun ws' bl' n' I' => ?_)
  obtain ⟨k, rfl⟩ : ∃ m, k = m + 1 := ⟨k - 1, by omega⟩
  rw [C_smt_summed_4]
  simp only [Hold_eq]
  refine cond_dec (fun h1 => by simp at h1) (fun h1 => ?_)
  exact Sum_s k (m := [2]) (by simpa using I') (by simp) (by omega) (smt_short_s k hW (shaL_dig _).1 (by omega) h)

-- a path's bits
theorem pright_s (k : Nat) {p : List Int} {i : Nat} {K : Bool → Prop} (hp : Dig p) (hi : i < 256) (hk : 3 ≤ k) (h : K (decide (bitN p i = 1))) : F_proof_right k p (i : Int) K := by
  obtain ⟨k, rfl⟩ : ∃ m, k = m + 1 := ⟨k - 1, by omega⟩
  rw [F_proof_right]
  simp only [Hold_eq]
  refine path_Bit_s k hp hi (by omega) ?_
  rw [decide_eq_decide.2 (by omega : ((bitN p i : Nat) : Int) = 1 ↔ bitN p i = 1)]
  exact h
-- a byte's leading zeros
end Go.V
