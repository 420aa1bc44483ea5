/- the council's laws Sure and Has: what the functions give -/
import Derived.Test.YtilnpbcodachoaaVC15N
set_option linter.unusedVariables false
set_option linter.unusedSimpArgs false
namespace Go.V
/-- the nodes that have at least n -/
def sel (nodes h : List Int) (n : Int) : List Int := ((h.zip nodes).filter fun p => decide (n ≤ p.1)).map (·.2)
theorem sel_length (nodes h : List Int) (n : Int) : (sel nodes h n).length ≤ h.length := by
  unfold sel
  rw [List.length_map]
  refine Nat.le_trans (List.length_filter_le _ _) ?_
  rw [List.length_zip]; omega
theorem C40_3_s (n : Int) (h nodes V L : List Int) (hl : nodes.length = h.length) (hn : h.length < 500000) (hV : V.length < 1000000) (hL : L.length < 1000000) :
    ∀ (m j k : Nat) (acc : List Int) (K : Bool → List Int → List Int → List Int → List Int → Prop), j + m = h.length → acc.length ≤ j → m + 2 * V.length + 2 * L.length + 2 * h.length + 60 ≤ k →
      C40_3 k n h (h.length : Int) (j : Int) h nodes V L acc K = K (most V L (acc ++ sel (nodes.drop j) (h.drop j) n)) h nodes V L := by
  intro m
  induction m with
  | zero =>
    intro j k acc K hj hacc hk
    obtain ⟨k, rfl⟩ : ∃ m, k = m + 1 := ⟨k - 1, by omega⟩
    have : ¬ ((j : Int) < (h.length : Int)) := by omega
    simp only [C40_3, this, decide_false, cond_false, Hold_eq]
    rw [F21_s k V L acc _ hV hL (by omega) (by omega), List.drop_of_length_le (l := h) (by omega)]
    simp [sel]
  | succ m ih =>
    intro j k acc K hj hacc hk
    obtain ⟨k, rfl⟩ : ∃ m, k = m + 1 := ⟨k - 1, by omega⟩
    have h1 : ((j : Int) < (h.length : Int)) := by omega
    have h2 : ((j : Int) < (nodes.length : Int)) := by omega
    have h0 : (0 : Int) ≤ j := by omega
    have hw : IntKind.i64.wrap ((j : Int) + 1) = ((j + 1 : Nat) : Int) := by rw [wrap64 (by omega)]; rfl
    have ha : j < h.length := by omega
    have hb : j < nodes.length := by omega
    have hr : room (acc.length + 1) 8 := by unfold room; omega
    have hs : sel (nodes[j] :: nodes.drop (j + 1)) (h[j] :: h.drop (j + 1)) n = if n ≤ h[j] then nodes[j] :: sel (nodes.drop (j + 1)) (h.drop (j + 1)) n else sel (nodes.drop (j + 1)) (h.drop (j + 1)) n := by
      unfold sel
      simp only [List.zip_cons_cons, List.filter_cons]
      by_cases e : n ≤ h[j] <;> simp [e]
    simp only [C40_3, h1, h2, h0, decide_true, cond_true, true_and, Int.toNat_natCast, getD_at ha, getD_at hb, hw, Hold_eq, drop_cons ha, drop_cons hb, List.length_cons, List.length_nil, Nat.zero_add, hr, hs]
    by_cases e : n ≤ h[j]
    · simp only [e, decide_true, cond_true, if_true]
      rw [ih (j + 1) k _ K (by omega) (by simp; omega) (by omega), List.append_assoc]
      rfl
    · simp only [e, decide_false, cond_false, if_false]
      rw [ih (j + 1) k acc K (by omega) (by omega) (by omega)]
theorem F40_s (k : Nat) (n : Int) (h nodes V L : List Int) (K : Bool → List Int → List Int → List Int → List Int → Prop) (hl : nodes.length = h.length) (hn : h.length < 500000) (hV : V.length < 1000000) (hL : L.length < 1000000)
    (hk : 2 * V.length + 2 * L.length + 3 * h.length + 70 ≤ k) : F40 k n h nodes V L K = K (most V L (sel nodes h n)) h nodes V L := by
  obtain ⟨k, rfl⟩ : ∃ m, k = m + 1 := ⟨k - 1, by omega⟩
  simp only [F40, Hold_eq]
  exact C40_3_s n h nodes V L hl hn hV hL h.length 0 k [] K (by omega) (by simp) (by omega)

/-- the first number, from the end, that a majority has -/
def back (V L nodes h : List Int) : List Int → Int
  | [] => 0
  | x :: l => if 0 < x ∧ most V L (sel nodes h x) = true then x else back V L nodes h l
theorem C48_1_s (all h nodes V L : List Int) (hl : nodes.length = h.length) (hn : h.length < 500000) (ha : all.length < 500000) (hV : V.length < 1000000) (hL : L.length < 1000000) (K : Int → Prop) :
    ∀ (j k : Nat), j ≤ all.length → j + 2 * V.length + 2 * L.length + 3 * h.length + 90 ≤ k →
      C48_1 k ((j : Int) - 1) 0 all h nodes V L (fun r8 _ _ _ _ _ => K r8) (fun _ _ _ _ _ _ => K 0) = K (back V L nodes h (all.take j).reverse) := by
  intro j
  induction j with
  | zero =>
    intro k hj hk
    obtain ⟨k, rfl⟩ : ∃ m, k = m + 1 := ⟨k - 1, by omega⟩
    have : ¬ ((0 : Int) ≤ ((0 : Nat) : Int) - 1) := by omega
    simp only [C48_1, this, decide_false, cond_false, List.take_zero, List.reverse_nil, back]
  | succ j ih =>
    intro k hj hk
    obtain ⟨k, rfl⟩ : ∃ m, k = m + 1 := ⟨k - 1, by omega⟩
    have e0 : ((j + 1 : Nat) : Int) - 1 = (j : Int) := by omega
    have h0 : (0 : Int) ≤ (j : Int) := by omega
    have h1 : (j : Int) < (all.length : Int) := by omega
    have hj' : j < all.length := by omega
    have hw : IntKind.i64.wrap ((j : Int) - 1) = (j : Int) - 1 := wrap64 (by omega)
    rw [e0]
    simp only [C48_1, h0, h1, decide_true, cond_true, true_and, Int.toNat_natCast, getD_at hj', hw, Hold_eq]
    obtain ⟨k, rfl⟩ : ∃ m, k = m + 1 := ⟨k - 1, by omega⟩
    have ht : (all.take (j + 1)).reverse = all[j] :: (all.take j).reverse := by rw [List.take_succ_eq_append_getElem hj']; simp
    rw [ht]
    simp only [F26y7, back, Hold_eq]
    by_cases e : 0 < all[j]
    · simp only [e, decide_true, cond_true, true_and]
      rw [F40_s k _ h nodes V L _ hl hn hV hL (by omega)]
      cases hm : most V L (sel nodes h all[j]) with
      | true => simp only [cond_true, if_true]
      | false => simp only [cond_false, Bool.false_eq_true, if_false]; exact ih (k + 1) (by omega) (by omega)
    · simp only [e, decide_false, cond_false, false_and, if_false]
      exact ih (k + 1) (by omega) (by omega)
/-- what is sure: of the rising numbers, from the end -/
def sureN (V L nodes h : List Int) : Int := if nodes.length = h.length then back V L nodes h (sortI h).reverse else 0
theorem sortI_length (l : List Int) : (sortI l).length = l.length := by unfold sortI; simp
theorem F26_s (k : Nat) (V L nodes h : List Int) (K : Int → Prop) (hn : h.length < 500000) (hV : V.length < 1000000) (hL : L.length < 1000000) (hk : 2 * V.length + 2 * L.length + 4 * h.length + 120 ≤ k) : F26 k V L nodes h K = K (sureN V L nodes h) := by
  obtain ⟨k, rfl⟩ : ∃ m, k = m + 1 := ⟨k - 1, by omega⟩
  have hs := sortI_length h
  by_cases e : nodes.length = h.length
  · have e' : ((nodes.length : Nat) : Int) = ((h.length : Nat) : Int) := by omega
    simp only [F26, e', decide_true, Bool.not_true, cond_false, Hold_eq]
    obtain ⟨k, rfl⟩ : ∃ m, k = m + 1 := ⟨k - 1, by omega⟩
    have hr : room (([] : List Int).length + h.length) 8 := by unfold room; simp; omega
    have hw : IntKind.i64.wrap (((sortI h).length : Int) - 1) = ((sortI h).length : Int) - 1 := wrap64 (by omega)
    have key : F48 (k + 1) 0 (sortI h) h nodes V L (fun r8 _ _ _ _ _ => K r8) (fun _ _ _ _ _ _ => K 0) = K (sureN V L nodes h) := by
      simp only [F48, Hold_eq, hw, sureN, if_pos e]
      have := C48_1_s (sortI h) h nodes V L e hn (by omega) hV hL K (sortI h).length k (Nat.le_refl _) (by omega)
      rw [List.take_of_length_le (Nat.le_refl _)] at this
      exact this
    simp only [F41, F42, F43, Hold_eq, List.nil_append, hr, true_and]
    apply propext
    constructor
    · intro q
      have := q false (by intro h; cases h)
      simp only [cond_false] at this
      rw [← key]; exact this.2
    · intro q c hc
      cases c with
      | false => simp only [cond_false]; rw [key]; exact ⟨by omega, q⟩
      | true =>
        have := hc rfl
        subst this
        simp only [cond_true]
        rw [key]; exact ⟨by simp, q⟩
  · have e' : ¬ ((nodes.length : Nat) : Int) = ((h.length : Nat) : Int) := by omega
    simp only [F26, e', decide_false, Bool.not_false, cond_true, sureN, if_neg e]
end Go.V
