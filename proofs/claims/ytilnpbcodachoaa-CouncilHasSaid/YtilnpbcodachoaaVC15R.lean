/- the law CouncilSure, in plain Lean -/
import Derived.Test.YtilnpbcodachoaaVC15Q
set_option linter.unusedVariables false
set_option linter.unusedSimpArgs false
namespace Go.V
theorem fin_spec (V L nodes h : List Int) : ∀ (l : List Int) (best : Int), (fin_ V L nodes h best l = best ∨ (fin_ V L nodes h best l ∈ l ∧ most V L (sel nodes h (fin_ V L nodes h best l)) = true)) ∧ best ≤ fin_ V L nodes h best l ∧
    ∀ x ∈ l, most V L (sel nodes h x) = true → x ≤ fin_ V L nodes h best l
  | [], best => ⟨.inl rfl, Int.le_refl _, fun x hx => by cases hx⟩
  | y :: l, best => by
    simp only [fin_]
    by_cases e : best < y ∧ most V L (sel nodes h y) = true
    · rw [if_pos e]
      obtain ⟨h1, h2, h3⟩ := fin_spec V L nodes h l y
      refine ⟨.inr ?_, by omega, fun x hx hg => ?_⟩
      · rcases h1 with h1 | ⟨h1, h4⟩
        · rw [h1]; exact ⟨by simp, e.2⟩
        · exact ⟨by simp [h1], h4⟩
      · rcases List.mem_cons.1 hx with rfl | hx
        · exact h2
        · exact h3 x hx hg
    · rw [if_neg e]
      obtain ⟨h1, h2, h3⟩ := fin_spec V L nodes h l best
      refine ⟨h1.imp id fun h => ⟨by simp [h.1], h.2⟩, h2, fun x hx hg => ?_⟩
      rcases List.mem_cons.1 hx with rfl | hx
      · have : ¬ best < x := fun hb => e ⟨hb, hg⟩
        omega
      · exact h3 x hx hg
theorem back_spec (V L nodes h : List Int) : ∀ (l : List Int), l.Pairwise (fun a b => b ≤ a) → (back V L nodes h l = 0 ∧ (∀ x ∈ l, ¬ (0 < x ∧ most V L (sel nodes h x) = true)) ∨
    (back V L nodes h l ∈ l ∧ 0 < back V L nodes h l ∧ most V L (sel nodes h (back V L nodes h l)) = true ∧ ∀ x ∈ l, most V L (sel nodes h x) = true → x ≤ back V L nodes h l))
  | [], _ => .inl ⟨rfl, fun x hx => by cases hx⟩
  | y :: l, hp => by
    obtain ⟨p1, p2⟩ := List.pairwise_cons.1 hp
    simp only [back]
    by_cases e : 0 < y ∧ most V L (sel nodes h y) = true
    · rw [if_pos e]
      refine .inr ⟨by simp, e.1, e.2, fun x hx _ => ?_⟩
      rcases List.mem_cons.1 hx with rfl | hx
      · exact Int.le_refl _
      · exact p1 x hx
    · rw [if_neg e]
      rcases back_spec V L nodes h l p2 with ⟨h1, h2⟩ | ⟨h1, h2, h3, h4⟩
      · refine .inl ⟨h1, fun x hx => ?_⟩
        rcases List.mem_cons.1 hx with rfl | hx
        · exact e
        · exact h2 x hx
      · refine .inr ⟨by simp [h1], h2, h3, fun x hx hg => ?_⟩
        rcases List.mem_cons.1 hx with rfl | hx
        · have : ¬ 0 < x := fun hb => e ⟨hb, hg⟩
          omega
        · exact h4 x hx hg
theorem sort_rev (l : List Int) : (sortI l).reverse.Pairwise (fun a b => b ≤ a) := by
  rw [List.pairwise_reverse]
  have := List.pairwise_mergeSort (le := fun x y : Int => decide (x ≤ y)) (fun a b c h1 h2 => by simp at *; omega) (fun a b => by simp; omega) l
  refine this.imp fun h => ?_
  simpa using h
theorem sort_mem (l : List Int) (x : Int) : x ∈ (sortI l).reverse ↔ x ∈ l := by
  rw [List.mem_reverse]; unfold sortI; exact List.mem_mergeSort
theorem sure_same (V L nodes h : List Int) : back V L nodes h (sortI h).reverse = fin_ V L nodes h 0 h := by
  obtain ⟨h1, h2, h3⟩ := fin_spec V L nodes h h 0
  rcases back_spec V L nodes h _ (sort_rev h) with ⟨b1, b2⟩ | ⟨b1, b2, b3, b4⟩
  · rw [b1]
    rcases h1 with h1 | ⟨h1, h4⟩
    · exact h1.symm
    · have := b2 _ ((sort_mem h _).2 h1)
      have : ¬ 0 < fin_ V L nodes h 0 h := fun hb => this ⟨hb, h4⟩
      omega
  · have q1 := h3 _ ((sort_mem h _).1 b1) b3
    rcases h1 with h1 | ⟨h1, h4⟩
    · omega
    · have := b4 _ ((sort_mem h _).2 h1) h4
      omega
theorem sureN_eq (V L nodes h : List Int) : sureN V L nodes h = if nodes.length = h.length then fin_ V L nodes h 0 h else 0 := by
  unfold sureN
  split
  · exact sure_same V L nodes h
  · rfl
theorem sure_one : sureN [1, 2, 3] [4] [1, 2, 3, 4] [5, 3, 2, 9] = 3 := by
  rw [sureN_eq]; decide +kernel
theorem F25_s (k : Nat) (K : Bool → Prop) (hk : 1000 ≤ k) : F25 k K = K true := by
  obtain ⟨k, rfl⟩ : ∃ m, k = m + 1 := ⟨k - 1, by omega⟩
  simp only [F25, Hold_eq]
  obtain ⟨k, rfl⟩ : ∃ m, k = m + 1 := ⟨k - 1, by omega⟩
  simp only [F35]
  rw [F26_s (k + 1) _ _ _ _ _ (by simp) (by simp) (by simp) (by simp; omega), sure_one]
  simp
theorem f7_law (V L nodes h : List Int) : ∃ k, F7 k V L nodes h (fun b => b = true) := by
  refine ⟨200001, ?_⟩
  show Hold (F9 200000 V L _)
  rw [Hold_eq, F9_s _ V L _ (by omega)]
  by_cases h0 : 300 < V.length ∨ 300 < L.length
  · simp [h0]
  · simp only [h0, decide_false, cond_false]
    by_cases h1 : (300 : Int) < (nodes.length : Int)
    · simp [h1]
    · by_cases h2 : (300 : Int) < (h.length : Int)
      · simp [h1, h2]
      · have hm : h.length * (h.length + 4) ≤ 300 * 304 := Nat.mul_le_mul (by omega) (by omega)
        simp only [h1, h2, decide_false, cond_false, Hold_eq]
        rw [F25_s _ _ (by omega)]
        simp only [cond_true, Hold_eq]
        rw [F26_s _ V L nodes h _ (by omega) (by omega) (by omega) (by omega), F27_s _ V L nodes h _ (by omega) (by omega) (by omega) (by omega), sureN_eq]
        simp
end Go.V
