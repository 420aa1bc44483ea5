/- the council's other laws, in plain Lean -/
import Derived.Test.YtilnpbcodachoaaVC15M
set_option linter.unusedVariables false
set_option linter.unusedSimpArgs false
namespace Go.V

-- All
def allN (V L : List Int) : List Int := cond (may V L) (listN (ofN V ||| ofN L)) []
theorem allN_length (V L : List Int) : (allN V L).length ≤ 8 := by
  unfold allN
  cases may V L
  · simp
  · exact listN_length _
theorem F16_s (k : Nat) (V L : List Int) (K : List Int → Prop) (hn : V.length < 1000000) (hm : L.length < 1000000) (hk : 2 * V.length + 2 * L.length + 50 ≤ k) : F16 k V L K = K (allN V L) := by
  obtain ⟨k, rfl⟩ : ∃ m, k = m + 1 := ⟨k - 1, by omega⟩
  have q4 : ofN V ||| ofN L < 256 := Nat.or_lt_two_pow (n := 8) (ofN_lt V) (ofN_lt L)
  simp only [F16, Hold_eq, F15_s k V L _ hn hm (by omega), F29_s k V _ hn (by omega), F29_s k L _ hm (by omega), ior8 (ofN_lt V) (ofN_lt L), F30_s k _ _ q4 (by omega), chk, allN]
  rcases Bool.eq_false_or_eq_true (may V L) with h | h <;> simp [h]
/-- the document's All, from i on -/
def all_ (V L : List Int) : (n i : Nat) → List Int
  | 0, _ => []
  | n + 1, i => if may V L = true ∧ ((i : Int) ∈ V ∨ (i : Int) ∈ L) then (i : Int) :: all_ V L n (i + 1) else all_ V L n (i + 1)
theorem C18_3_s (V L : List Int) (hV : V.length < 1000000) (hL : L.length < 1000000) : ∀ (n i k : Nat) (acc : List Int) (K : List Int → Prop), i + n = 8 → acc.length ≤ i → n + V.length + L.length + 20 ≤ k → C18_3 k (i : Int) V L acc K = K (acc ++ all_ V L n i) := by
  intro n
  induction n with
  | zero =>
    intro i k acc K hi hacc hk
    obtain ⟨k, rfl⟩ : ∃ m, k = m + 1 := ⟨k - 1, by omega⟩
    have : ¬ ((i : Int) ≤ 7) := by omega
    simp only [C18_3, this, decide_false, cond_false, all_, List.append_nil]
  | succ n ih =>
    intro i k acc K hi hacc hk
    obtain ⟨k, rfl⟩ : ∃ m, k = m + 1 := ⟨k - 1, by omega⟩
    have h1 : ((i : Int) ≤ 7) := by omega
    have hw : IntKind.i64.wrap ((i : Int) + 1) = ((i + 1 : Nat) : Int) := by rw [wrap64 (by omega)]; rfl
    have hr : room (acc.length + 1) 8 := by unfold room; omega
    have ih' := fun acc h => ih (i + 1) k acc K (by omega) h (by omega)
    simp only [C18_3, h1, decide_true, cond_true, hw, Hold_eq, List.length_cons, List.length_nil, Nat.zero_add, hr, true_and, F19_s k V L _ hV hL (by omega), F31_s k V _ _ hV (by omega), F31_s k L _ _ hL (by omega), all_]
    cases hmay : may V L with
    | false =>
      simp only [cond_false, Bool.false_eq_true, false_and, if_false]
      exact ih' _ (by omega)
    | true =>
      simp only [cond_true, true_and]
      by_cases e : (i : Int) ∈ V
      · simp only [e, decide_true, cond_true, true_or, if_true]
        rw [ih' _ (by simp; omega), List.append_assoc]
        rfl
      · by_cases e2 : (i : Int) ∈ L
        · simp only [e, e2, decide_true, decide_false, cond_true, cond_false, or_true, if_true]
          rw [ih' _ (by simp; omega), List.append_assoc]
          rfl
        · simp only [e, e2, decide_false, cond_false, or_self, if_false]
          exact ih' _ (by omega)
theorem all_mem (V L : List Int) (hm : may V L = true) : ∀ (n i : Nat) (y : Int), y ∈ all_ V L n i ↔ ∃ j : Nat, y = j ∧ i ≤ j ∧ j < i + n ∧ ((j : Int) ∈ V ∨ (j : Int) ∈ L)
  | 0, i, y => by simp [all_]; intro j _ h1 h2; omega
  | n + 1, i, y => by
    have ih := all_mem V L hm n (i + 1) y
    unfold all_
    split
    · rename_i h
      rw [List.mem_cons, ih]
      constructor
      · rintro (rfl | ⟨j, h1, h2, h3, h4⟩)
        · exact ⟨i, rfl, Nat.le_refl _, by omega, h.2⟩
        · exact ⟨j, h1, by omega, by omega, h4⟩
      · rintro ⟨j, h1, h2, h3, h4⟩
        by_cases e : j = i
        · exact .inl (by rw [h1, e])
        · exact .inr ⟨j, h1, by omega, by omega, h4⟩
    · rename_i h
      rw [ih]
      constructor
      · rintro ⟨j, h1, h2, h3, h4⟩
        exact ⟨j, h1, by omega, by omega, h4⟩
      · rintro ⟨j, h1, h2, h3, h4⟩
        have : j ≠ i := by rintro rfl; exact h ⟨hm, h4⟩
        exact ⟨j, h1, by omega, by omega, h4⟩
theorem all_sorted (V L : List Int) (hm : may V L = true) : ∀ (n i : Nat), (all_ V L n i).Pairwise (· < ·)
  | 0, i => by simp [all_]
  | n + 1, i => by
    have ih := all_sorted V L hm n (i + 1)
    unfold all_
    split
    · refine List.pairwise_cons.2 ⟨fun y hy => ?_, ih⟩
      obtain ⟨j, h1, h2, -⟩ := (all_mem V L hm n (i + 1) y).1 hy
      omega
    · exact ih
theorem all_no (V L : List Int) (hm : may V L = false) : ∀ n i, all_ V L n i = []
  | 0, i => rfl
  | n + 1, i => by rw [all_, if_neg (by simp [hm])]; exact all_no V L hm n (i + 1)
theorem all_eq (V L : List Int) : all_ V L 7 1 = allN V L := by
  unfold allN
  cases hm : may V L with
  | false => rw [all_no V L hm]; rfl
  | true =>
    simp only [cond_true]
    obtain ⟨⟨h1, h2⟩, ⟨h3, h4⟩, h5, h6⟩ := (may_spec V L).1 hm
    refine sorted_ext (all_sorted V L hm 7 1) (listN_sorted _) fun x => ?_
    rw [all_mem V L hm, listN_mem]
    constructor
    · rintro ⟨j, rfl, q1, q2, q3⟩
      refine ⟨j, rfl, by omega, ?_⟩
      rw [Nat.testBit_or, ofN_bit, ofN_bit]
      simp only [Bool.or_eq_true, decide_eq_true_eq]
      rcases q3 with q | q
      · exact .inl ⟨q, by omega, by omega⟩
      · exact .inr ⟨q, by omega, by omega⟩
    · rintro ⟨j, rfl, q1, q2⟩
      rw [Nat.testBit_or, ofN_bit, ofN_bit] at q2
      simp only [Bool.or_eq_true, decide_eq_true_eq] at q2
      refine ⟨j, rfl, ?_, ?_, ?_⟩
      · omega
      · omega
      · rcases q2 with q | q
        · exact .inl q.1
        · exact .inr q.1
theorem F18_s (k : Nat) (V L : List Int) (K : List Int → Prop) (hV : V.length < 1000000) (hL : L.length < 1000000) (hk : V.length + L.length + 50 ≤ k) : F18 k V L K = K (allN V L) := by
  obtain ⟨k, rfl⟩ : ∃ m, k = m + 1 := ⟨k - 1, by omega⟩
  simp only [F18, Hold_eq]
  rw [← all_eq]
  exact C18_3_s V L hV hL 7 1 k [] K rfl (by simp) (by omega)
theorem C17_4_s (a b : List Int) (hl : a.length = b.length) (hn : a.length < 1000000) : ∀ (n j k : Nat) (K : Bool → Prop), j + n = a.length → n + 1 ≤ k → C17_4 k a b (j : Int) K = K (decide (a.drop j = b.drop j)) := by
  intro n
  induction n with
  | zero =>
    intro j k K hj hk
    obtain ⟨k, rfl⟩ : ∃ m, k = m + 1 := ⟨k - 1, by omega⟩
    have : ¬ ((j : Int) < (a.length : Int)) := by omega
    simp only [C17_4, this, decide_false, cond_false]
    rw [List.drop_of_length_le (by omega), List.drop_of_length_le (by omega)]; simp
  | succ n ih =>
    intro j k K hj hk
    obtain ⟨k, rfl⟩ : ∃ m, k = m + 1 := ⟨k - 1, by omega⟩
    have h1 : ((j : Int) < (a.length : Int)) := by omega
    have h2 : ((j : Int) < (b.length : Int)) := by omega
    have h0 : (0 : Int) ≤ j := by omega
    have hw : IntKind.i64.wrap ((j : Int) + 1) = ((j + 1 : Nat) : Int) := by rw [wrap64 (by omega)]; rfl
    have ha : j < a.length := by omega
    have hb : j < b.length := by omega
    simp only [C17_4, h1, h2, h0, decide_true, cond_true, true_and, Int.toNat_natCast, getD_at ha, getD_at hb, hw, Hold_eq, drop_cons ha, drop_cons hb, List.cons.injEq]
    by_cases e : a[j] = b[j]
    · simp only [e, decide_true, Bool.not_true, cond_false, true_and]
      exact ih (j + 1) k K (by omega) (by omega)
    · simp only [e, decide_false, Bool.not_false, cond_true, false_and]
theorem F17_s (k : Nat) (a b : List Int) (K : Bool → Prop) (hn : a.length < 1000000) (hk : a.length + 3 ≤ k) : F17 k a b K = K (decide (a = b)) := by
  obtain ⟨k, rfl⟩ : ∃ m, k = m + 1 := ⟨k - 1, by omega⟩
  simp only [F17, Hold_eq]
  by_cases h : a.length = b.length
  · simp only [h, decide_true, Bool.not_true, cond_false]
    exact C17_4_s a b h hn a.length 0 k K (by omega) (by omega)
  · have h2 : ¬ ((a.length : Int) = (b.length : Int)) := by omega
    have h3 : ¬ (a = b) := fun e => h (by rw [e])
    simp only [h2, h3, decide_false, Bool.not_false, cond_true]

-- how many
def cnt8 (a : Nat) : Int := IntKind.i64.wrap (bt str0 a)
theorem F38_s (k a : Nat) (K : Int → Prop) (ha : a < 256) (hk : 5 ≤ k) : F38 k (a : Int) K = K (cnt8 a) := by
  obtain ⟨k, rfl⟩ : ∃ m, k = m + 2 := ⟨k - 2, by omega⟩
  have h1 : (0 : Int) ≤ a := by omega
  have h2 : (a : Int) < ((ByteArray.size str0 : Nat) : Int) := by
    have : ByteArray.size str0 = 256 := by decide +kernel
    omega
  simp only [F38, F44, Hold_eq, h1, h2, true_and, Int.toNat_natCast, cnt8]
theorem cnt8_all : ∀ a : Fin 256, cnt8 a.val = ((listN a.val).length : Int) := by decide +kernel
theorem cnt8_eq {a : Nat} (h : a < 256) : cnt8 a = ((listN a).length : Int) := cnt8_all ⟨a, h⟩

/-- a majority: how many voters are among the yes -/
def yesIn (V yes : List Int) : Nat := (V.filter fun v => decide (v ∈ yes)).length
def most (V L yes : List Int) : Bool := may V L && decide (V.length < 2 * yesIn V yes)
theorem filter_sorted {V : List Int} (h : V.Pairwise (· < ·)) (p : Int → Bool) : (V.filter p).Pairwise (· < ·) := h.filter _
theorem and_filter {V yes : List Int} (h1 : V.Pairwise (· < ·)) (h2 : ∀ x ∈ V, 1 ≤ x ∧ x ≤ 7) : listN (ofN V &&& ofN yes) = V.filter fun v => decide (v ∈ yes) := by
  refine sorted_ext (listN_sorted _) (filter_sorted h1 _) fun x => ?_
  rw [listN_mem, List.mem_filter]
  constructor
  · rintro ⟨j, rfl, q1, q2⟩
    rw [Nat.testBit_and, ofN_bit, ofN_bit] at q2
    simp only [Bool.and_eq_true, decide_eq_true_eq] at q2
    exact ⟨q2.1.1, by simpa using q2.2.1⟩
  · rintro ⟨q1, q2⟩
    have := h2 x q1
    refine ⟨x.toNat, by omega, by omega, ?_⟩
    rw [Nat.testBit_and, ofN_bit, ofN_bit, Int.toNat_of_nonneg (by omega)]
    simp only [decide_eq_true_eq] at q2
    simp only [Bool.and_eq_true, decide_eq_true_eq]
    exact ⟨⟨q1, by omega, by omega⟩, q2, by omega, by omega⟩
theorem F21_s (k : Nat) (V L yes : List Int) (K : Bool → Prop) (hV : V.length < 1000000) (hL : L.length < 1000000) (hy : yes.length < 1000000) (hk : 2 * V.length + 2 * L.length + 2 * yes.length + 50 ≤ k) : F21 k V L yes K = K (most V L yes) := by
  obtain ⟨k, rfl⟩ : ∃ m, k = m + 1 := ⟨k - 1, by omega⟩
  have q : ofN V &&& ofN yes < 256 := Nat.and_lt_two_pow (n := 8) _ (ofN_lt yes)
  simp only [F21, Hold_eq, F29_s k V _ hV (by omega), F15_s k V L _ hV hL (by omega), F29_s k yes _ hy (by omega), iand8 (ofN_lt V) (ofN_lt yes), F38_s k _ _ q (by omega), F38_s k _ _ (ofN_lt V) (by omega), chk, most]
  rcases Bool.eq_false_or_eq_true (may V L) with hm | hm
  rotate_left
  · simp [hm]
  ·
    obtain ⟨⟨h1, h2⟩, ⟨h3, h4⟩, h5, h6⟩ := (may_spec V L).1 hm
    have l1 := listN_length (ofN V &&& ofN yes)
    have l2 := listN_length (ofN V)
    simp only [hm, cond_true, decide_true, Bool.true_and]
    rw [cnt8_eq q, cnt8_eq (ofN_lt V), wrap64 (by omega), and_filter h1 h2, listN_ofN h1 h2]
    congr 1
    apply decide_eq_decide.2
    unfold yesIn
    omega
theorem C45_2_p (l : List Int) (x : Int) (P : Bool → Prop) (hn : l.length < 1000000) : ∀ (n j k : Nat), j + n = l.length → n + 1 ≤ k → C45_2 k l x (l.length : Int) (j : Int) (fun r => P (decide (0 ≤ r))) = P (decide (x ∈ l.drop j)) := by
  intro n
  induction n with
  | zero =>
    intro j k hj hk
    obtain ⟨k, rfl⟩ : ∃ m, k = m + 1 := ⟨k - 1, by omega⟩
    have : ¬ ((j : Int) < (l.length : Int)) := by omega
    simp only [C45_2, this, decide_false, cond_false]
    rw [List.drop_of_length_le (by omega)]; simp
  | succ n ih =>
    intro j k hj hk
    obtain ⟨k, rfl⟩ : ∃ m, k = m + 1 := ⟨k - 1, by omega⟩
    have h1 : ((j : Int) < (l.length : Int)) := by omega
    have h0 : (0 : Int) ≤ j := by omega
    have hw : IntKind.i64.wrap ((j : Int) + 1) = ((j + 1 : Nat) : Int) := by rw [wrap64 (by omega)]; rfl
    have ha : j < l.length := by omega
    simp only [C45_2, h1, h0, decide_true, cond_true, true_and, Int.toNat_natCast, getD_at ha, hw, Hold_eq, drop_cons ha, List.mem_cons]
    by_cases e : x = l[j]
    · simp only [e, decide_true, cond_true, true_or]
    · simp only [e, decide_false, cond_false, false_or]
      exact ih (j + 1) k (by omega) (by omega)
theorem F39_s (k : Nat) (l : List Int) (x : Int) (K : Bool → Prop) (hn : l.length < 1000000) (hk : l.length + 5 ≤ k) : F39 k l x K = K (decide (x ∈ l)) := by
  obtain ⟨k, rfl⟩ : ∃ m, k = m + 2 := ⟨k - 2, by omega⟩
  simp only [F39, F45, Hold_eq]
  exact C45_2_p l x K hn l.length 0 k (by omega) (by omega)
def voter (V L : List Int) (n : Int) : Bool := may V L && decide (n ∈ V)
theorem F23_s (k : Nat) (V L : List Int) (n : Int) (K : Bool → Prop) (hV : V.length < 1000000) (hL : L.length < 1000000) (hk : 2 * V.length + 2 * L.length + 50 ≤ k) : F23 k V L n K = K (voter V L n) := by
  obtain ⟨k, rfl⟩ : ∃ m, k = m + 1 := ⟨k - 1, by omega⟩
  simp only [F23, Hold_eq, F15_s k V L _ hV hL (by omega), F39_s k V n _ hV (by omega), chk, voter]
  rcases Bool.eq_false_or_eq_true (may V L) with h | h <;> simp [h]
theorem F24_s (k : Nat) (V L : List Int) (n : Int) (K : Bool → Prop) (hV : V.length < 1000000) (hL : L.length < 1000000) (hk : 2 * V.length + 2 * L.length + 50 ≤ k) : F24 k V L n K = K (voter V L n) := by
  obtain ⟨k, rfl⟩ : ∃ m, k = m + 1 := ⟨k - 1, by omega⟩
  simp only [F24, Hold_eq, F19_s k V L _ hV hL (by omega), F31_s k V n _ hV (by omega), voter]
  rcases Bool.eq_false_or_eq_true (may V L) with h | h <;> simp [h]
theorem C22_3_s (V L yes : List Int) (hV : V.length < 1000000) (hL : L.length < 1000000) (hy : yes.length < 1000000) : ∀ (n j k c : Nat) (K : Bool → Prop), j + n = V.length → c ≤ j → n + V.length + L.length + yes.length + 50 ≤ k →
    C22_3 k yes (c : Int) (j : Int) V L K = K (may V L && decide (V.length < 2 * (c + yesIn (V.drop j) yes))) := by
  intro n
  induction n with
  | zero =>
    intro j k c K hj hc hk
    obtain ⟨k, rfl⟩ : ∃ m, k = m + 1 := ⟨k - 1, by omega⟩
    have : ¬ ((j : Int) < (V.length : Int)) := by omega
    simp only [C22_3, this, decide_false, cond_false, Hold_eq, F19_s k V L _ hV hL (by omega)]
    rw [List.drop_of_length_le (by omega), wrap64 (by omega)]
    cases may V L with
    | false => simp
    | true =>
      simp only [cond_true, Bool.true_and, yesIn, List.filter_nil, List.length_nil, Nat.add_zero]
      congr 1
      apply decide_eq_decide.2
      omega
  | succ n ih =>
    intro j k c K hj hc hk
    obtain ⟨k, rfl⟩ : ∃ m, k = m + 1 := ⟨k - 1, by omega⟩
    have h1 : ((j : Int) < (V.length : Int)) := by omega
    have h0 : (0 : Int) ≤ j := by omega
    have hw : IntKind.i64.wrap ((j : Int) + 1) = ((j + 1 : Nat) : Int) := by rw [wrap64 (by omega)]; rfl
    have hw2 : IntKind.i64.wrap ((c : Int) + 1) = ((c + 1 : Nat) : Int) := by rw [wrap64 (by omega)]; rfl
    have ha : j < V.length := by omega
    simp only [C22_3, h1, h0, decide_true, cond_true, true_and, Int.toNat_natCast, getD_at ha, hw, hw2, Hold_eq, drop_cons ha, F31_s k yes _ _ hy (by omega), yesIn, List.filter_cons]
    by_cases e : V[j] ∈ yes
    · simp only [e, decide_true, cond_true, if_true, List.length_cons]
      rw [ih (j + 1) k (c + 1) K (by omega) (by omega) (by omega)]
      congr 3
      unfold yesIn
      apply propext
      omega
    · simp only [e, decide_false, cond_false, Bool.false_eq_true, if_false]
      exact ih (j + 1) k c K (by omega) (by omega) (by omega)
theorem F22_s (k : Nat) (V L yes : List Int) (K : Bool → Prop) (hV : V.length < 1000000) (hL : L.length < 1000000) (hy : yes.length < 1000000) (hk : 2 * V.length + L.length + yes.length + 60 ≤ k) : F22 k V L yes K = K (most V L yes) := by
  obtain ⟨k, rfl⟩ : ∃ m, k = m + 1 := ⟨k - 1, by omega⟩
  simp only [F22, Hold_eq]
  have := C22_3_s V L yes hV hL hy V.length 0 k 0 K (by omega) (by omega) (by omega)
  simpa [most] using this
theorem F20_s (k : Nat) (K : Bool → Prop) (hk : 200 ≤ k) : F20 k K = K true := by
  obtain ⟨k, rfl⟩ : ∃ m, k = m + 2 := ⟨k - 2, by omega⟩
  simp only [F20, Hold_eq, F35]
  rw [F15_s (k + 1) [1, 2, 3] [4] _ (by decide) (by decide) (by simp; omega)]
  simp only [show chk [1, 2, 3] [4] = 0 by decide, decide_true, cond_true]
  rw [F16_s (k + 1) [1, 2, 3] [4] _ (by decide) (by decide) (by simp; omega)]
  rw [F17_s (k + 1) _ _ _ (by decide +kernel) (by have := allN_length [1, 2, 3] [4]; omega)]
  simp only [show decide (allN [1, 2, 3] [4] = [1, 2, 3, 4]) = true by decide +kernel, cond_true]
  rw [F21_s (k + 1) [1, 2, 3] [4] [3, 1, 1] _ (by decide) (by decide) (by decide) (by simp; omega)]
  simp only [show most [1, 2, 3] [4] [3, 1, 1] = true by decide, cond_true]
  rw [F21_s (k + 1) [1, 2, 3] [4] [1, 4, 4] _ (by decide) (by decide) (by decide) (by simp; omega)]
  simp only [show most [1, 2, 3] [4] [1, 4, 4] = false by decide, Bool.not_false, cond_true]
  rw [F23_s (k + 1) [1, 2, 3] [4] 3 _ (by decide) (by decide) (by simp; omega)]
  simp only [show voter [1, 2, 3] [4] 3 = true by decide, cond_true]
  rw [F23_s (k + 1) [1, 2, 3] [4] 4 _ (by decide) (by decide) (by simp; omega)]
  simp only [show voter [1, 2, 3] [4] 4 = false by decide, Bool.not_false]

-- CouncilAsks
theorem C4_8_s (V L yes : List Int) (n : Int) (K : Bool → Prop) (hV : V.length < 1000) (hL : L.length < 1000) (hy : yes.length < 1000) : ∀ (m j k : Nat) (x : List Int), j + m = x.length → x.length < 1000 → m + 10000 ≤ k →
    C4_8 k yes n (chk V L) true (j : Int) V L x V L K = K true := by
  intro m
  induction m with
  | zero =>
    intro j k x hj hx hk
    obtain ⟨k, rfl⟩ : ∃ m, k = m + 2 := ⟨k - 2, by omega⟩
    have : ¬ ((j : Int) < (x.length : Int)) := by omega
    simp only [C4_8, this, decide_false, cond_false, Hold_eq, F19_s (k + 1) V L _ (by omega : V.length < 1000000) (by omega : L.length < 1000000) (by omega), C4_12, F20_s k _ (by omega), cond_true,
      F21_s k V L yes _ (by omega) (by omega) (by omega) (by omega), F22_s k V L yes _ (by omega) (by omega) (by omega) (by omega), F23_s k V L n _ (by omega) (by omega) (by omega), F24_s k V L n _ (by omega) (by omega) (by omega),
      F13_s k V L V L _ (by omega) (by omega) (by omega), beq_self_eq_true, decide_true, Bool.and_self]
    unfold chk
    rcases Bool.eq_false_or_eq_true (may V L) with h | h <;> simp [h]
  | succ m ih =>
    intro j k x hj hx hk
    obtain ⟨k, rfl⟩ : ∃ m, k = m + 1 := ⟨k - 1, by omega⟩
    have h1 : ((j : Int) < (x.length : Int)) := by omega
    have h0 : (0 : Int) ≤ j := by omega
    have hw : IntKind.i64.wrap ((j : Int) + 1) = ((j + 1 : Nat) : Int) := by rw [wrap64 (by omega)]; rfl
    simp only [C4_8, h1, h0, decide_true, cond_true, true_and, Hold_eq, hw, Int.toNat_natCast]
    exact ih (j + 1) k _ (by rw [set_len]; omega) (by rw [set_len]; omega) (by omega)
theorem f4_law (V L yes : List Int) (n : Int) : ∃ k, F4 k V L yes n (fun b => b = true) := by
  refine ⟨20001, ?_⟩
  show Hold (F9 20000 V L _)
  rw [Hold_eq, F9_s _ V L _ (by omega)]
  by_cases h : 300 < V.length ∨ 300 < L.length
  · simp [h]
  · simp only [h, decide_false, cond_false]
    by_cases h2 : (300 : Int) < (yes.length : Int)
    · simp [h2]
    · have a1 := allN_length V L
      simp only [h2, decide_false, cond_false, Hold_eq]
      rw [F10_s _ V L _ (by omega) (by omega) (by omega), F15_s _ V L _ (by omega) (by omega) (by omega), F16_s _ V L _ (by omega) (by omega) (by omega), F18_s _ V L _ (by omega) (by omega) (by omega), F17_s _ _ _ _ (by omega) (by omega)]
      simp only [decide_true]
      exact (C4_8_s V L yes n _ (by omega) (by omega) (by omega) (allN V L).length 0 20000 (allN V L) (by omega) (by omega) (by omega)).mpr rfl

-- CouncilMeets
theorem pigeon (p q : Int → Bool) : ∀ (l : List Int), l.length < (l.filter p).length + (l.filter q).length → ∃ x ∈ l, p x = true ∧ q x = true
  | [], h => by simp at h
  | x :: l, h => by
    by_cases hp : p x = true
    · by_cases hq : q x = true
      · exact ⟨x, by simp, hp, hq⟩
      · simp only [List.filter_cons, hp, hq, if_true, List.length_cons, Bool.false_eq_true, if_false] at h
        obtain ⟨y, h1, h2⟩ := pigeon p q l (by omega)
        exact ⟨y, by simp [h1], h2⟩
    · have : (List.filter p (x :: l)).length = (l.filter p).length := by simp [List.filter_cons, hp]
      have h2 : (List.filter q (x :: l)).length ≤ (l.filter q).length + 1 := by
        simp only [List.filter_cons]; split <;> simp
      obtain ⟨y, h1, h2⟩ := pigeon p q l (by simp only [List.length_cons] at h; omega)
      exact ⟨y, by simp [h1], h2⟩
theorem count_wo (n : Int) (p : Int → Bool) : ∀ (l : List Int), l.Pairwise (· < ·) → n ∈ l → l.length = (wo n l).length + 1 ∧ (l.filter p).length ≤ ((wo n l).filter p).length + 1
  | [], _, h => by simp at h
  | x :: l, hs, h => by
    obtain ⟨h1, h2⟩ := List.pairwise_cons.1 hs
    by_cases e : x = n
    · subst e
      have hn : x ∉ l := fun hx => by have := h1 x hx; omega
      have : wo x (x :: l) = l := by
        have := wo_no hn
        unfold wo at this ⊢
        rw [List.filter_cons]
        simp [this]
      rw [this]
      refine ⟨rfl, ?_⟩
      simp only [List.filter_cons]; split <;> simp
    · have hn : n ∈ l := (List.mem_cons.1 h).resolve_left fun h => e h.symm
      obtain ⟨q1, q2⟩ := count_wo n p l h2 hn
      have : wo n (x :: l) = x :: wo n l := by unfold wo; rw [List.filter_cons]; simp [e]
      rw [this]
      refine ⟨by simp [q1], ?_⟩
      simp only [List.filter_cons]
      split
      · simp only [List.length_cons]; omega
      · omega
/-- majorities of a set and of one with one node more meet -/
theorem meet_wo {W : List Int} {n : Int} (hs : W.Pairwise (· < ·)) (hn : n ∈ W) (a b : List Int) (h1 : W.length < 2 * yesIn W a) (h2 : (wo n W).length < 2 * yesIn (wo n W) b) : ∃ x ∈ wo n W, x ∈ a ∧ x ∈ b := by
  obtain ⟨q1, q2⟩ := count_wo n (fun v => decide (v ∈ a)) W hs hn
  unfold yesIn at h1 h2
  obtain ⟨x, h3, h4, h5⟩ := pigeon (fun v => decide (v ∈ a)) (fun v => decide (v ∈ b)) (wo n W) (by omega)
  exact ⟨x, h3, by simpa using h4, by simpa using h5⟩
theorem meet_same {W : List Int} (a b : List Int) (h1 : W.length < 2 * yesIn W a) (h2 : W.length < 2 * yesIn W b) : ∃ x ∈ W, x ∈ a ∧ x ∈ b := by
  unfold yesIn at h1 h2
  obtain ⟨x, h3, h4, h5⟩ := pigeon (fun v => decide (v ∈ a)) (fun v => decide (v ∈ b)) W (by omega)
  exact ⟨x, h3, by simpa using h4, by simpa using h5⟩
theorem wo_with {L : List Int} {n : Int} (h1 : L.Pairwise (· < ·)) (h2 : ∀ x ∈ L, 1 ≤ x ∧ x ≤ 7) (h3 : n ∉ L) : wo n (withN L n) = L :=
  sorted_ext (wo_sorted (withN_sorted _ _)) h1 fun x => by
    rw [wo_mem, withN_mem]
    constructor
    · rintro ⟨⟨q1, q2⟩, q3⟩; exact q2.resolve_left q3
    · intro hx
      exact ⟨⟨h2 x hx, .inr hx⟩, fun e => h3 (e ▸ hx)⟩

set_option maxRecDepth 100000 in
/-- a node that both may have as a voter -/
theorem C5_found (a b V L V' L' : List Int) (K : Bool → Prop) (hK : K true) (ha : a.length < 1000) (hb : b.length < 1000) (hV : V.length < 1000) (hL : L.length < 1000) (hV' : V'.length < 1000) (hL' : L'.length < 1000) :
    ∀ (m i : Nat), i + m = a.length → (∀ k, m * 5000 + 10000 ≤ k → (∃ x ∈ a.drop i, x ∈ b ∧ voter V L x = true ∧ voter V' L' x = true) → C5_11 k a b (i : Int) V L V' L' K) := by
  intro m
  induction m with
  | zero =>
    intro i hi k hk hex
    rw [List.drop_of_length_le (by omega)] at hex
    obtain ⟨x, hx, -⟩ := hex
    simp at hx
  | succ m ih =>
    intro i hi k hk hex
    obtain ⟨k, rfl⟩ : ∃ q, k = q + 1 := ⟨k - 1, by omega⟩
    have h1 : ((i : Int) < (a.length : Int)) := by omega
    have hia : i < a.length := by omega
    have h0 : (0 : Int) ≤ i := by omega
    have hw : IntKind.i64.wrap ((i : Int) + 1) = ((i + 1 : Nat) : Int) := by rw [wrap64 (by omega)]; rfl
    simp only [C5_11, h1, decide_true, cond_true, Hold_eq]
    have inner : ∀ (r j : Nat), j + r = b.length → ∀ k, r * 4 + m * 5000 + 10100 ≤ k →
        ((a[i] ∈ b.drop j ∧ voter V L a[i] = true ∧ voter V' L' a[i] = true) ∨ ∃ x ∈ a.drop (i + 1), x ∈ b ∧ voter V L x = true ∧ voter V' L' x = true) → C5_14 k a b (i : Int) (j : Int) V L V' L' K := by
      intro r
      induction r with
      | zero =>
        intro j hj k hk hex
        obtain ⟨k, rfl⟩ : ∃ q, k = q + 1 := ⟨k - 1, by omega⟩
        have h2 : ¬ ((j : Int) < (b.length : Int)) := by omega
        simp only [C5_14, h2, decide_false, cond_false, Hold_eq, hw]
        rw [List.drop_of_length_le (by omega)] at hex
        have hk2 : m * 5000 + 10000 ≤ k := by clear ih hex; omega
        have hx := hex.resolve_left (fun h => (List.not_mem_nil h.1))
        have hi2 : i + 1 + m = a.length := by omega
        exact ih (i + 1) hi2 k hk2 hx
      | succ r ih2 =>
        intro j hj k hk hex
        obtain ⟨k, rfl⟩ : ∃ q, k = q + 3 := ⟨k - 3, by omega⟩
        have h2 : ((j : Int) < (b.length : Int)) := by omega
        have hjb : j < b.length := by omega
        have g0 : (0 : Int) ≤ j := by omega
        have hw2 : IntKind.i64.wrap ((j : Int) + 1) = ((j + 1 : Nat) : Int) := by rw [wrap64 (by omega)]; rfl
        simp only [C5_14, C5_16, C5_15, h1, h2, h0, g0, decide_true, cond_true, true_and, Hold_eq, Int.toNat_natCast, getD_at hia, getD_at hjb, hw2,
          F23_s (k + 1) V L _ _ (by omega : V.length < 1000000) (by omega : L.length < 1000000) (by omega), F23_s (k + 1) V' L' _ _ (by omega : V'.length < 1000000) (by omega : L'.length < 1000000) (by omega), F20_s (k + 1) _ (by omega), F14_s (k + 1) _ (by omega)]
        have next : (a[i] = b[j] → voter V L a[i] = true → voter V' L' a[i] = true → False) → C5_14 k a b (i : Int) ((j + 1 : Nat) : Int) V L V' L' K := by
          intro hno
          refine ih2 (j + 1) (by omega) k (by omega) (hex.imp (fun h => ⟨?_, h.2⟩) id)
          have := h.1
          rw [drop_cons hjb, List.mem_cons] at this
          exact this.resolve_left fun e => hno e h.2.1 h.2.2
        by_cases e : a[i] = b[j]
        · simp only [e, decide_true, cond_true]
          rw [e] at next
          cases v1 : voter V L b[j] with
          | false => exact next fun _ h _ => by rw [v1] at h; cases h
          | true =>
            cases v2 : voter V' L' b[j] with
            | false => exact next fun _ _ h => by rw [v2] at h; cases h
            | true => exact hK
        · simp only [e, decide_false, cond_false]
          exact next fun h _ _ => e h
    have := inner b.length 0 (by omega) k (by omega) (by
      obtain ⟨x, hx, hb', hv1, hv2⟩ := hex
      rw [drop_cons hia, List.mem_cons] at hx
      rcases hx with rfl | hx
      · exact .inl ⟨by simpa using hb', hv1, hv2⟩
      · exact .inr ⟨x, hx, hb', hv1, hv2⟩)
    simpa using this
theorem C5_8_p (k : Nat) (a b V L V' L' : List Int) (K : Bool → Prop) (hK : K true) (ha : a.length < 1000) (hb : b.length < 1000) (hV : V.length < 1000) (hL : L.length < 1000) (hV' : V'.length < 1000) (hL' : L'.length < 1000) (hk : 6000000 ≤ k)
    (hm : most V L a = true → most V' L' b = true → ∃ x ∈ a, x ∈ b ∧ voter V L x = true ∧ voter V' L' x = true) : C5_8 k a b V L V' L' K := by
  obtain ⟨k, rfl⟩ : ∃ q, k = q + 2 := ⟨k - 2, by omega⟩
  simp only [C5_8, C5_9, Hold_eq, F21_s (k + 1) V L a _ (by omega : V.length < 1000000) (by omega : L.length < 1000000) (by omega : a.length < 1000000) (by omega), F21_s (k + 1) V' L' b _ (by omega : V'.length < 1000000) (by omega : L'.length < 1000000) (by omega : b.length < 1000000) (by omega),
    F20_s k _ (by omega), F14_s k _ (by omega), cond_true]
  cases h1 : most V L a with
  | false => simpa using hK
  | true =>
    cases h2 : most V' L' b with
    | false => simpa using hK
    | true =>
      simp only [Bool.not_true, cond_false]
      have := C5_found a b V L V' L' K hK ha hb hV hL hV' hL' a.length 0 (by omega) (k + 1) (by omega) (by simpa using hm h1 h2)
      simpa using this
theorem f5_law (V L : List Int) (kd n : Int) (a b : List Int) : ∃ k, F5 k V L kd n a b (fun b => b = true) := by
  have key : ∀ k, 6000100 ≤ k → F5 (k + 1) V L kd n a b (fun b => b = true) := by
    intro k hk
    simp only [F5, Hold_eq]
    rw [F9_s _ V L _ (by omega)]
    by_cases h : 300 < V.length ∨ 300 < L.length
    · simp [h]
    · simp only [h, decide_false, cond_false]
      by_cases h2 : (300 : Int) < (a.length : Int)
      · simp [h2]
      · simp only [h2, decide_false, cond_false]
        by_cases h3 : (300 : Int) < (b.length : Int)
        · simp [h3]
        · simp only [h3, decide_false, cond_false]
          have hc := chg_length V L kd n
          rw [F11_s _ V L kd n _ (by omega) (by omega) (by omega)]
          split
          · rename_i ho
            simp only [decide_true, Bool.not_true, cond_false]
            rw [F15_s _ _ _ _ (by omega) (by omega) (by omega)]
            obtain ⟨hmay, hn1, hn2, hcase⟩ := ho
            obtain ⟨⟨q1, q2⟩, ⟨q3, q4⟩, q5, q6⟩ := (may_spec V L).1 hmay
            have hmay' : may (chgV V kd n) (chgL L kd n) = true := by
              apply (may_spec _ _).2
              rcases hcase with ⟨rfl, c1, c2⟩ | ⟨rfl, c1⟩ | ⟨rfl, c1, c2⟩
              · simp only [chgV, chgL, if_true]
                refine ⟨⟨q1, q2⟩, ⟨withN_sorted _ _, fun x hx => ((withN_mem _ _ _).1 hx).1⟩, q5, fun x hx hx2 => ?_⟩
                rcases ((withN_mem _ _ _).1 hx2).2 with e | e
                · exact c1 (e ▸ hx)
                · exact q6 x hx e
              · simp only [chgV, chgL, show ¬ ((2 : Int) = 1) by decide, if_true, if_false]
                refine ⟨⟨withN_sorted _ _, fun x hx => ((withN_mem _ _ _).1 hx).1⟩, ⟨wo_sorted q3, fun x hx => q4 x ((wo_mem _ _ _).1 hx).1⟩, fun e => ?_, fun x hx hx2 => ?_⟩
                · have : n ∈ withN V n := (withN_mem _ _ _).2 ⟨⟨hn1, hn2⟩, .inl rfl⟩
                  rw [e] at this; cases this
                · obtain ⟨r1, r2⟩ := (wo_mem _ _ _).1 hx2
                  exact q6 x (((withN_mem _ _ _).1 hx).2.resolve_left r2) r1
              · simp only [chgV, chgL, show ¬ ((3 : Int) = 1) by decide, show ¬ ((3 : Int) = 2) by decide, if_false]
                exact ⟨⟨wo_sorted q1, fun x hx => q2 x ((wo_mem _ _ _).1 hx).1⟩, ⟨wo_sorted q3, fun x hx => q4 x ((wo_mem _ _ _).1 hx).1⟩, c2, fun x hx hx2 => q6 x ((wo_mem _ _ _).1 hx).1 ((wo_mem _ _ _).1 hx2).1⟩
            simp only [chk, hmay', cond_true, decide_true, Bool.not_true, cond_false]
            refine C5_8_p k a b V L _ _ _ rfl (by omega) (by omega) (by omega) (by omega) (by omega) (by omega) (by omega) fun m1 m2 => ?_
            simp only [most, hmay, hmay', Bool.true_and, decide_eq_true_eq] at m1 m2
            simp only [voter, hmay, hmay', Bool.true_and, decide_eq_true_eq]
            rcases hcase with ⟨rfl, c1, c2⟩ | ⟨rfl, c1⟩ | ⟨rfl, c1, c2⟩
            · simp only [chgV, if_true] at m2 ⊢
              obtain ⟨x, r1, r2, r3⟩ := meet_same a b m1 m2
              exact ⟨x, r2, r3, r1, r1⟩
            · simp only [chgV, show ¬ ((2 : Int) = 1) by decide, if_true, if_false] at m2 ⊢
              have hnV : n ∉ V := fun h => q6 n h c1
              have ew := wo_with q1 q2 hnV
              obtain ⟨x, r1, r2, r3⟩ := meet_wo (W := withN V n) (n := n) (withN_sorted _ _) ((withN_mem _ _ _).2 ⟨⟨hn1, hn2⟩, .inl rfl⟩) b a m2 (by rw [ew]; exact m1)
              rw [ew] at r1
              exact ⟨x, r3, r2, r1, (withN_mem _ _ _).2 ⟨q2 x r1, .inr r1⟩⟩
            · simp only [chgV, show ¬ ((3 : Int) = 1) by decide, show ¬ ((3 : Int) = 2) by decide, if_false] at m2 ⊢
              by_cases hv : n ∈ V
              · obtain ⟨x, r1, r2, r3⟩ := meet_wo q1 hv a b m1 m2
                exact ⟨x, r2, r3, ((wo_mem _ _ _).1 r1).1, r1⟩
              · rw [wo_no hv] at m2 ⊢
                obtain ⟨x, r1, r2, r3⟩ := meet_same a b m1 m2
                exact ⟨x, r2, r3, r1, r1⟩
          · simp only [show ¬ ((130 : Int) = 0) by decide, decide_false, Bool.not_false, cond_true]
            refine C5_8_p k a b V L V L _ rfl (by omega) (by omega) (by omega) (by omega) (by omega) (by omega) (by omega) fun m1 m2 => ?_
            simp only [most, Bool.and_eq_true, decide_eq_true_eq] at m1 m2
            obtain ⟨x, r1, r2, r3⟩ := meet_same a b m1.2 m2.2
            exact ⟨x, r2, r3, by simp [voter, m1.1, r1], by simp [voter, m1.1, r1]⟩
  exact ⟨_, key 6000100 (Nat.le_refl _)⟩

-- CouncilBack
theorem f6_law (V L : List Int) (n : Int) : ∃ k, F6 k V L n (fun b => b = true) := by
  have key : ∀ k, 20000 ≤ k → F6 (k + 2) V L n (fun b => b = true) := by
    intro k hk
    simp only [F6, Hold_eq]
    rw [F9_s _ V L _ (by omega)]
    by_cases h : 300 < V.length ∨ 300 < L.length
    · simp [h]
    · simp only [h, decide_false, cond_false]
      rw [F11_s _ V L 1 n _ (by omega) (by omega) (by omega)]
      split
      · rename_i ho
        obtain ⟨hmay, hn1, hn2, hcase⟩ := ho
        obtain ⟨c1, c2⟩ : n ∉ V ∧ n ∉ L := by
          rcases hcase with ⟨-, h⟩ | ⟨h, -⟩ | ⟨h, -⟩
          · exact h
          · exact absurd h (by decide)
          · exact absurd h (by decide)
        obtain ⟨⟨q1, q2⟩, ⟨q3, q4⟩, q5, q6⟩ := (may_spec V L).1 hmay
        have lw := withN_length L n
        have lv := withN_length V n
        have e1 : chgV V 1 n = V := rfl
        have e2 : chgL L 1 n = withN L n := rfl
        have nL : n ∈ withN L n := (withN_mem _ _ _).2 ⟨⟨hn1, hn2⟩, .inl rfl⟩
        have nV : n ∈ withN V n := (withN_mem _ _ _).2 ⟨⟨hn1, hn2⟩, .inl rfl⟩
        have ma : may V (withN L n) = true := (may_spec _ _).2 ⟨⟨q1, q2⟩, ⟨withN_sorted _ _, fun x hx => ((withN_mem _ _ _).1 hx).1⟩, q5, fun x hx hx2 => by
          rcases ((withN_mem _ _ _).1 hx2).2 with e | e
          · exact c1 (e ▸ hx)
          · exact q6 x hx e⟩
        have wL := wo_with q3 q4 c2
        have wV := wo_with q1 q2 c1
        have mb : may (withN V n) L = true := (may_spec _ _).2 ⟨⟨withN_sorted _ _, fun x hx => ((withN_mem _ _ _).1 hx).1⟩, ⟨q3, q4⟩, fun e => (by rw [e] at nV; cases nV), fun x hx hx2 => by
          rcases ((withN_mem _ _ _).1 hx).2 with e | e
          · exact c2 (e ▸ hx2)
          · exact q6 x e hx2⟩
        have woV : wo n V = V := wo_no c1
        have woL : wo n L = L := wo_no c2
        have b1 : chgV V 2 n = withN V n := rfl
        have b2 : chgL (withN L n) 2 n = L := by show wo n (withN L n) = L; exact wL
        have x1 : chgV V 3 n = V := by show wo n V = V; exact woV
        have x2 : chgL (withN L n) 3 n = L := by show wo n (withN L n) = L; exact wL
        have y1 : chgV (withN V n) 3 n = V := by show wo n (withN V n) = V; exact wV
        have y2 : chgL L 3 n = L := by show wo n L = L; exact woL
        have o2 : ChgOk V (withN L n) 2 n := ⟨ma, hn1, hn2, .inr (.inl ⟨rfl, nL⟩)⟩
        have o3 : ChgOk V (withN L n) 3 n := ⟨ma, hn1, hn2, .inr (.inr ⟨rfl, .inr nL, by rw [woV]; exact q5⟩)⟩
        have o4 : ChgOk (withN V n) L 3 n := ⟨mb, hn1, hn2, .inr (.inr ⟨rfl, .inl nV, by rw [wV]; exact q5⟩)⟩
        simp only [decide_true, Bool.not_true, cond_false, e1, e2]
        rw [F11_s _ V (withN L n) 2 n _ (by omega) (by omega) (by omega), if_pos o2]
        simp only [b1, b2]
        rw [F11_s _ V (withN L n) 3 n _ (by omega) (by omega) (by omega), if_pos o3]
        simp only [x1, x2]
        rw [F11_s _ (withN V n) L 3 n _ (by omega) (by omega) (by omega), if_pos o4]
        simp only [y1, y2]
        rw [F15_s _ V (withN L n) _ (by omega) (by omega) (by omega)]
        simp only [chk, ma, cond_true, decide_true]
        rw [F15_s _ (withN V n) L _ (by omega) (by omega) (by omega)]
        simp only [chk, mb, cond_true, decide_true]
        rw [F23_s _ (withN V n) L n _ (by omega) (by omega) (by omega)]
        simp only [voter, mb, nV, decide_true, Bool.and_self, cond_true]
        rw [F23_s _ V (withN L n) n _ (by omega) (by omega) (by omega)]
        simp only [voter, ma, c1, decide_false, Bool.and_false, Bool.not_false, C6_10, Hold_eq, F20_s k _ (by omega), F14_s k _ (by omega), cond_true, decide_true, F13_s k V L V L _ (by omega : V.length < 1000000) (by omega : L.length < 1000000) (by omega), Bool.and_self]
      · simp only [show ¬ ((130 : Int) = 0) by decide, decide_false, Bool.not_false, cond_true, F20_s (k + 1) _ (by omega), F14_s (k + 1) _ (by omega)]
        simp
  exact ⟨_, key 20000 (Nat.le_refl _)⟩
end Go.V
