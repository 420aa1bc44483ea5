/- the law CouncilHas, in plain Lean -/
import Derived.Test.YtilnpbcodachoaaVC15R
set_option linter.unusedVariables false
set_option linter.unusedSimpArgs false
namespace Go.V
/-- the nodes that have more than n -/
def selM (nodes h : List Int) (n : Int) : List Int := ((h.zip nodes).filter fun p => decide (n < p.1)).map (·.2)
/-- what the law asks in the end -/
def hasEnd (V L yes more : List Int) (n : Int) : Prop := 0 ≤ n ∧ (n = 0 ∨ most V L yes = true) ∧ most V L more = false
theorem sel_cons (x y : Int) (nodes h : List Int) (n : Int) : sel (x :: nodes) (y :: h) n = if n ≤ y then x :: sel nodes h n else sel nodes h n := by
  unfold sel
  simp only [List.zip_cons_cons, List.filter_cons]
  by_cases e : n ≤ y <;> simp [e]
theorem selM_cons (x y : Int) (nodes h : List Int) (n : Int) : selM (x :: nodes) (y :: h) n = if n < y then x :: selM nodes h n else selM nodes h n := by
  unfold selM
  simp only [List.zip_cons_cons, List.filter_cons]
  by_cases e : n < y <;> simp [e]
theorem C8_7_s (V L nodes h : List Int) (n : Int) (hl : nodes.length = h.length) (hn : h.length ≤ 300) (hV : V.length ≤ 300) (hL : L.length ≤ 300) :
    ∀ (m j k : Nat) (yes more : List Int), j + m = h.length → yes.length ≤ j → more.length ≤ j → 2 * m + 10000 ≤ k → hasEnd V L (yes ++ sel (nodes.drop j) (h.drop j) n) (more ++ selM (nodes.drop j) (h.drop j) n) n →
      C8_7 k nodes h n (j : Int) V L yes more (fun b => b = true) := by
  intro m
  induction m with
  | zero =>
    intro j k yes more hj hy hm hk he
    obtain ⟨k, rfl⟩ : ∃ m, k = m + 1 := ⟨k - 1, by omega⟩
    have : ¬ ((j : Int) < (nodes.length : Int)) := by omega
    rw [List.drop_of_length_le (l := h) (i := j) (by omega)] at he
    simp only [sel, selM, List.zip_nil_left, List.filter_nil, List.map_nil, List.append_nil] at he
    obtain ⟨e1, e2, e3⟩ := he
    simp only [C8_7, this, decide_false, cond_false, Hold_eq]
    rw [F20_s _ _ (by omega)]
    simp only [cond_true, Hold_eq]
    rw [F25_s _ _ (by omega)]
    simp only [cond_true, e1, decide_true, Hold_eq]
    by_cases e : n = 0
    · simp only [e, decide_true, cond_true]
      rw [F21_s k V L more _ (by omega) (by omega) (by omega) (by omega), e3]; rfl
    · simp only [e, decide_false, cond_false]
      rw [F21_s k V L yes _ (by omega) (by omega) (by omega) (by omega), e2.resolve_left e]
      simp only [cond_true, Hold_eq]
      rw [F21_s k V L more _ (by omega) (by omega) (by omega) (by omega), e3]; rfl
  | succ m ih =>
    intro j k yes more hj hy hm hk he
    obtain ⟨k, rfl⟩ : ∃ m, k = m + 2 := ⟨k - 2, by omega⟩
    have h1 : ((j : Int) < (h.length : Int)) := by omega
    have h2 : ((j : Int) < (nodes.length : Int)) := by omega
    have h0 : (0 : Int) ≤ j := by omega
    have hw : IntKind.i64.wrap ((j : Int) + 1) = ((j + 1 : Nat) : Int) := by rw [wrap64 (by omega)]; rfl
    have ha : j < h.length := by omega
    have hb : j < nodes.length := by omega
    have hr : room (yes.length + 1) 8 := by unfold room; omega
    have hr2 : room (more.length + 1) 8 := by unfold room; omega
    rw [drop_cons ha, drop_cons hb, sel_cons, selM_cons] at he
    simp only [C8_7, h1, h2, h0, decide_true, cond_true, true_and, Int.toNat_natCast, getD_at ha, getD_at hb, Hold_eq, List.length_cons, List.length_nil, Nat.zero_add, hr]
    by_cases e : n ≤ h[j]
    · simp only [e, decide_true, cond_true, C8_11, h1, h2, h0, true_and, Int.toNat_natCast, getD_at ha, getD_at hb, hw, Hold_eq, List.length_cons, List.length_nil, Nat.zero_add, hr2]
      rw [if_pos e] at he
      by_cases e2 : n < h[j]
      · simp only [e2, decide_true, cond_true]
        rw [if_pos e2] at he
        exact ih (j + 1) k _ _ (by omega) (by simp; omega) (by simp; omega) (by omega) (by simpa using he)
      · simp only [e2, decide_false, cond_false]
        rw [if_neg e2] at he
        exact ih (j + 1) k _ _ (by omega) (by simp; omega) (by omega) (by omega) (by simpa using he)
    · have e2 : ¬ n < h[j] := by omega
      simp only [e, e2, decide_false, cond_false, C8_11, h1, h2, h0, true_and, Int.toNat_natCast, getD_at ha, getD_at hb, hw, Hold_eq]
      rw [if_neg e, if_neg e2] at he
      exact ih (j + 1) k _ _ (by omega) (by omega) (by omega) (by omega) he
theorem selM_le {nodes h : List Int} {n m : Int} (hm : ∀ x ∈ h, n < x ↔ m ≤ x) : selM nodes h n = sel nodes h m := by
  unfold selM sel
  congr 1
  refine List.filter_congr fun p hp => ?_
  have hx := hm p.1 (List.of_mem_zip hp).1
  by_cases e : n < p.1
  · have := hx.1 e; simp [e, this]
  · have : ¬ m ≤ p.1 := fun h => e (hx.2 h)
    simp [e, this]
theorem least_above (n : Int) : ∀ h : List Int, (∀ x ∈ h, ¬ n < x) ∨ ∃ m ∈ h, n < m ∧ ∀ x ∈ h, n < x ↔ m ≤ x
  | [] => .inl fun x hx => by cases hx
  | y :: h => by
    rcases least_above n h with h1 | ⟨m, h1, h2, h3⟩
    · by_cases e : n < y
      · refine .inr ⟨y, by simp, e, fun x hx => ?_⟩
        rcases List.mem_cons.1 hx with rfl | hx
        · simp [e]
        · have := h1 x hx; constructor <;> intro <;> omega
      · refine .inl fun x hx => ?_
        rcases List.mem_cons.1 hx with rfl | hx
        · exact e
        · exact h1 x hx
    · by_cases e : n < y ∧ y < m
      · refine .inr ⟨y, by simp, e.1, fun x hx => ?_⟩
        rcases List.mem_cons.1 hx with rfl | hx
        · simp [e.1]
        · have := h3 x hx; constructor <;> intro <;> omega
      · refine .inr ⟨m, by simp [h1], h2, fun x hx => ?_⟩
        rcases List.mem_cons.1 hx with rfl | hx
        · constructor <;> intro <;> omega
        · exact h3 x hx
theorem most_nil (V L : List Int) : most V L [] = false := by
  have : (List.filter (fun _ : Int => false) V).length = 0 := by rw [List.filter_eq_nil_iff.2 (by simp)]; rfl
  simp [most, yesIn, this]
theorem has_end (V L nodes h : List Int) (hl : nodes.length = h.length) : hasEnd V L (sel nodes h (sureN V L nodes h)) (selM nodes h (sureN V L nodes h)) (sureN V L nodes h) := by
  rw [sureN_eq, if_pos hl]
  obtain ⟨h1, h2, h3⟩ := fin_spec V L nodes h h 0
  refine ⟨h2, h1.imp id fun h => h.2, ?_⟩
  rcases least_above (fin_ V L nodes h 0 h) h with q | ⟨m, q1, q2, q3⟩
  · have : selM nodes h (fin_ V L nodes h 0 h) = [] := by
      unfold selM
      rw [List.map_eq_nil_iff, List.filter_eq_nil_iff]
      intro p hp
      have := q p.1 (List.of_mem_zip hp).1
      simpa using this
    rw [this]; exact most_nil V L
  · rw [selM_le q3]
    cases e : most V L (sel nodes h m) with
    | false => rfl
    | true => have := h3 m q1 e; omega
theorem C8_2_s (k : Nat) (hk : 2000 ≤ k) : C8_2 k (fun b => b = true) := by
  obtain ⟨k, rfl⟩ : ∃ m, k = m + 1 := ⟨k - 1, by omega⟩
  simp only [C8_2, Hold_eq]
  rw [F20_s _ _ (by omega)]
  simp only [cond_true, Hold_eq]
  rw [F25_s _ _ (by omega)]
theorem f8_law (V L nodes h : List Int) : ∃ k, F8 k V L nodes h (fun b => b = true) := by
  refine ⟨200001, ?_⟩
  show Hold (F9 200000 V L _)
  rw [Hold_eq, F9_s _ V L _ (by omega)]
  have c2 := C8_2_s 200000 (by omega)
  by_cases h0 : 300 < V.length ∨ 300 < L.length
  · simp only [h0, decide_true, cond_true, Hold_eq]; exact c2
  · simp only [h0, decide_false, cond_false]
    by_cases h1 : (300 : Int) < (nodes.length : Int)
    · simp only [h1, decide_true, cond_true, Hold_eq]; exact c2
    · by_cases h2 : ((h.length : Nat) : Int) = ((nodes.length : Nat) : Int)
      · have hl : nodes.length = h.length := by omega
        simp only [h1, h2, decide_true, decide_false, Bool.not_true, cond_false, Hold_eq]
        rw [F15_s _ V L _ (by omega) (by omega) (by omega)]
        by_cases h3 : chk V L = 0
        · simp only [h3, decide_true, Bool.not_true, cond_false, Hold_eq]
          rw [F26_s _ V L nodes h _ (by omega) (by omega) (by omega) (by omega)]
          exact C8_7_s V L nodes h _ hl (by omega) (by omega) (by omega) h.length 0 200000 [] [] (by omega) (by simp) (by simp) (by omega) (by simpa using has_end V L nodes h hl)
        · simp only [h3, decide_false, Bool.not_false, cond_true, Hold_eq]; exact c2
      · simp only [h1, h2, decide_false, Bool.not_false, cond_true, cond_false, Hold_eq]; exact c2
end Go.V
