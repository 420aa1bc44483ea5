/- the document's answer to Sure, and the law -/
import Derived.Test.YtilnpbcodachoaaVC15P
set_option linter.unusedVariables false
set_option linter.unusedSimpArgs false
namespace Go.V
/-- the greatest number that a majority has, as the document goes through them -/
def fin_ (V L nodes h : List Int) : Int → List Int → Int
  | best, [] => best
  | best, x :: l => fin_ V L nodes h (if best < x ∧ most V L (sel nodes h x) = true then x else best) l
theorem C27_9_s (V L nodes h : List Int) (hl : nodes.length = h.length) (hn : h.length < 500000) (hV : V.length < 1000000) (hL : L.length < 1000000) (K : Int → Prop) (best : Int) (i f : Nat) (hi : i < h.length) (hf : 2 * V.length + L.length + h.length + 100 ≤ f)
    (ih : ∀ k best, f ≤ k → C27_5 k nodes h best ((i + 1 : Nat) : Int) V L K = K (fin_ V L nodes h best (h.drop (i + 1)))) :
    ∀ (m j k : Nat) (acc : List Int), j + m = h.length → acc.length ≤ j → m + f + 2 ≤ k →
      C27_9 k nodes h best (i : Int) (j : Int) V L acc K = K (fin_ V L nodes h (if best < h[i] ∧ most V L (acc ++ sel (nodes.drop j) (h.drop j) h[i]) = true then h[i] else best) (h.drop (i + 1))) := by
  have h0i : (0 : Int) ≤ i := by omega
  have h1i : (i : Int) < (h.length : Int) := by omega
  have hwi : IntKind.i64.wrap ((i : Int) + 1) = ((i + 1 : Nat) : Int) := by rw [wrap64 (by omega)]; rfl
  intro m
  induction m with
  | zero =>
    intro j k acc hj hacc hk
    obtain ⟨k, rfl⟩ : ∃ m, k = m + 1 := ⟨k - 1, by omega⟩
    have : ¬ ((j : Int) < (h.length : Int)) := by omega
    simp only [C27_9, this, decide_false, cond_false, h0i, h1i, true_and, Int.toNat_natCast, getD_at hi, hwi, Hold_eq]
    rw [List.drop_of_length_le (l := h) (i := j) (by omega)]
    simp only [sel, List.zip_nil_left, List.filter_nil, List.map_nil, List.append_nil]
    by_cases e : best < h[i]
    · simp only [e, decide_true, cond_true, true_and]
      rw [F22_s k V L acc _ hV hL (by omega) (by omega)]
      cases hm : most V L acc with
      | true => simp only [cond_true, if_true]; exact ih k _ (by omega)
      | false => simp only [cond_false, Bool.false_eq_true, if_false]; exact ih k _ (by omega)
    · simp only [e, decide_false, cond_false, false_and, if_false]
      exact ih k _ (by omega)
  | succ m ihm =>
    intro j k acc hj hacc hk
    obtain ⟨k, rfl⟩ : ∃ m, k = m + 1 := ⟨k - 1, by omega⟩
    have h1 : ((j : Int) < (h.length : Int)) := by omega
    have h2 : ((j : Int) < (nodes.length : Int)) := by omega
    have h0 : (0 : Int) ≤ j := by omega
    have hw : IntKind.i64.wrap ((j : Int) + 1) = ((j + 1 : Nat) : Int) := by rw [wrap64 (by omega)]; rfl
    have ha : j < h.length := by omega
    have hb : j < nodes.length := by omega
    have hr : room (acc.length + 1) 8 := by unfold room; omega
    have hs : sel (nodes[j] :: nodes.drop (j + 1)) (h[j] :: h.drop (j + 1)) h[i] = if h[i] ≤ h[j] then nodes[j] :: sel (nodes.drop (j + 1)) (h.drop (j + 1)) h[i] else sel (nodes.drop (j + 1)) (h.drop (j + 1)) h[i] := by
      unfold sel
      simp only [List.zip_cons_cons, List.filter_cons]
      by_cases e : h[i] ≤ h[j] <;> simp [e]
    simp only [C27_9, h1, h2, h0, h0i, h1i, decide_true, cond_true, true_and, Int.toNat_natCast, getD_at ha, getD_at hb, getD_at hi, hw, Hold_eq, drop_cons ha, drop_cons hb, List.length_cons, List.length_nil, Nat.zero_add, hr, hs]
    by_cases e : h[i] ≤ h[j]
    · simp only [e, decide_true, cond_true, if_true]
      rw [ihm (j + 1) k _ (by omega) (by simp; omega) (by omega), List.append_assoc]
      rfl
    · simp only [e, decide_false, cond_false, if_false]
      rw [ihm (j + 1) k acc (by omega) (by omega) (by omega)]
theorem C27_5_s (V L nodes h : List Int) (hl : nodes.length = h.length) (hn : h.length < 500000) (hV : V.length < 1000000) (hL : L.length < 1000000) (K : Int → Prop) :
    ∀ (m i k : Nat) (best : Int), i + m = h.length → m * (h.length + 4) + 2 * V.length + L.length + h.length + 110 ≤ k → C27_5 k nodes h best (i : Int) V L K = K (fin_ V L nodes h best (h.drop i)) := by
  intro m
  induction m with
  | zero =>
    intro i k best hi hk
    obtain ⟨k, rfl⟩ : ∃ m, k = m + 1 := ⟨k - 1, by omega⟩
    have : ¬ ((i : Int) < (h.length : Int)) := by omega
    simp only [C27_5, this, decide_false, cond_false]
    rw [List.drop_of_length_le (by omega)]; rfl
  | succ m ih =>
    intro i k best hi hk
    obtain ⟨k, rfl⟩ : ∃ m, k = m + 1 := ⟨k - 1, by omega⟩
    have h1 : ((i : Int) < (h.length : Int)) := by omega
    have hi' : i < h.length := by omega
    simp only [C27_5, h1, decide_true, cond_true, Hold_eq]
    rw [Nat.add_mul, Nat.one_mul] at hk
    have := C27_9_s V L nodes h hl hn hV hL K best i (m * (h.length + 4) + 2 * V.length + L.length + h.length + 110) hi' (by omega) (fun k best hk => ih (i + 1) k best (by omega) hk) h.length 0 k [] (by omega) (by simp) (by omega)
    rw [show ((0 : Nat) : Int) = 0 from rfl] at this
    rw [this, drop_cons hi']
    simp only [List.nil_append, List.drop_zero, fin_]
theorem F27_s (k : Nat) (V L nodes h : List Int) (K : Int → Prop) (hn : h.length < 500000) (hV : V.length < 1000000) (hL : L.length < 1000000) (hk : h.length * (h.length + 4) + 2 * V.length + L.length + h.length + 120 ≤ k) :
    F27 k V L nodes h K = K (if nodes.length = h.length then fin_ V L nodes h 0 h else 0) := by
  obtain ⟨k, rfl⟩ : ∃ m, k = m + 1 := ⟨k - 1, by omega⟩
  by_cases e : nodes.length = h.length
  · have e' : ((nodes.length : Nat) : Int) = ((h.length : Nat) : Int) := by omega
    simp only [F27, e', decide_true, Bool.not_true, cond_false, Hold_eq, if_pos e]
    exact C27_5_s V L nodes h e hn hV hL K h.length 0 k 0 (by omega) (by omega)
  · have e' : ¬ ((nodes.length : Nat) : Int) = ((h.length : Nat) : Int) := by omega
    simp only [F27, e', decide_false, Bool.not_false, cond_true, if_neg e]
end Go.V
