/- leaves have just this root; what is summed; what is handed in -/
import Derived.Test.YtdpmcnhdmhanbaaDoorVS05P
import Derived.Test.YtdpmcnhdmhanbaaDoorVS05X
import Derived.Test.YtdpmcnhdmhanbaaDoorVS05E
import Derived.Test.YtdpmcnhdmhanbaaDoorVJ11
set_option linter.unusedVariables false
set_option linter.unusedSimpArgs false
set_option maxRecDepth 8000
namespace Go.V
theorem roots10_s (k : Nat) {a b : Int} {K : Bool → Prop} (hk : 10030 ≤ k) (e : a = b) (h : K true) : C_l05_SmtRoots_10 k a b K := by
  obtain ⟨k, rfl⟩ : ∃ m, k = m + 1 := ⟨k - 1, by omega⟩
  rw [C_l05_SmtRoots_10]
  simp only [Hold_eq]
  refine roots_s k (by omega) ?_
  rw [cond_true, decide_eq_true e]
  exact h
theorem l05_Roots (k : Nat) {w : Int} {l : List S_api_Leaf} {K : Bool → Prop} (hl : LDig l) (hk : 30000000 ≤ k) (h : K true) : F_l05_SmtRoots k w l K := by
  obtain ⟨k, rfl⟩ : ∃ m, k = m + 1 := ⟨k - 1, by omega⟩
  rw [F_l05_SmtRoots]
  simp only [Hold_eq]
  refine cond_dec (fun e1 => ?_) (fun e1 => ?_)
  · refine Root_s k hl (by omega) (r05_Width_s k (by omega) (cond_ndec (fun hw => ?_) (fun hw => ?_)))
    · exact roots10_s k (by omega) (by unfold rootE; rw [if_pos hw]) h
    · by_cases h1 : 4096 < l.length
      · rw [decide_eq_true (by omega), cond_true]
        exact roots10_s k (by omega) (by unfold rootE; rw [if_neg (not_not_intro hw), if_pos h1]) h
      · rw [decide_eq_false (by omega), cond_false]
        refine Twice_s k (by omega) (by omega) (cond_dec (fun h2 => ?_) (fun h2 => ?_))
        · exact roots10_s k (by omega) (by unfold rootE; rw [if_neg (not_not_intro hw), if_neg h1, if_pos h2]) h
        · exact roots10_s k (by omega) (by unfold rootE; rw [if_neg (not_not_intro hw), if_neg h1, if_neg h2]) h
  · refine own_s k (by omega) (by omega) (Root_s k hl (by omega) (r05_Root_s k hl (by omega) (roots_s k (by omega) ?_)))
    rw [cond_true]
    refine cond_dec (fun _ => cond_dec (fun _ => ?_) (fun e => absurd rfl e)) (fun e => absurd rfl e)
    exact same_s k (by omega) (by omega) h
theorem l05_Short (k : Nat) {w : Int} {b p v l r : List Int} {K : Bool → Prop} (hb : B8 b) (hp : Dig p) (hv : Dig v) (hl : Dig l) (hr : Dig r) (hk : 100000 ≤ k) (h : K true) : F_l05_SmtShort k w b p v l r K := by
  obtain ⟨k, rfl⟩ : ∃ m, k = m + 1 := ⟨k - 1, by omega⟩
  rw [F_l05_SmtShort]
  simp only [Hold_eq]
  refine cond_dec (fun _ => h) (fun e1 => ?_)
  refine smt_Short_x k (by omega) (by omega) (r05_Short_x k hb (by omega) (by omega) (roots_s k (by omega) ?_))
  rw [cond_true]
  refine cond_dec (fun _ => cond_dec (fun _ => ?_) (fun e => absurd rfl e)) (fun e => absurd rfl e)
  refine Empty_x k (by omega) (r05_Empty_s k (by omega) (cond_dec (fun _ => ?_) (fun e => absurd rfl e)))
  refine Leaf_x k hp hv (by omega) (r05_Leaf_s k hp hv (by omega) (cond_dec (fun _ => ?_) (fun e => absurd rfl e)))
  refine Node_x k hl hr (by omega) (r05_Node_s k hl hr (by omega) ?_)
  rw [decide_eq_true rfl]
  exact h
end Go.V
