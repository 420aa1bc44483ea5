/- the council's laws, in plain Lean -/
import Derived.Test.YtilnpbcodachoaaVC15S
set_option linter.unusedVariables false
set_option linter.unusedSimpArgs false
namespace Go.V

theorem sorted_ext : ∀ {l m : List Int}, l.Pairwise (· < ·) → m.Pairwise (· < ·) → (∀ x, x ∈ l ↔ x ∈ m) → l = m
  | [], [], _, _, _ => rfl
  | [], y :: m, _, _, h => by have := (h y).2 (by simp); simp at this
  | x :: l, [], _, _, h => by have := (h x).1 (by simp); simp at this
  | x :: l, y :: m, h1, h2, h => by
    have hx := List.pairwise_cons.1 h1
    have hy := List.pairwise_cons.1 h2
    have e : x = y := by
      have a := (h x).1 (by simp)
      have b := (h y).2 (by simp)
      rcases List.mem_cons.1 a with a | a
      · exact a
      · rcases List.mem_cons.1 b with b | b
        · exact b.symm
        · have := hy.1 x a; have := hx.1 y b; omega
    subst e
    congr 1
    refine sorted_ext hx.2 hy.2 fun z => ?_
    have hz := h z
    simp only [List.mem_cons] at hz
    constructor
    · intro q
      rcases hz.1 (.inr q) with e | e
      · subst e; have := hx.1 z q; omega
      · exact e
    · intro q
      rcases hz.2 (.inr q) with e | e
      · subst e; have := hy.1 z q; omega
      · exact e

-- rising
def ris (p : Int) : List Int → Bool
  | [] => true
  | x :: l => (decide (1 ≤ x) && (decide (x ≤ 7) && decide (p < x))) && ris x l
theorem ris_spec : ∀ (l : List Int) (p : Int), ris p l = true ↔ l.Pairwise (· < ·) ∧ ∀ x ∈ l, 1 ≤ x ∧ x ≤ 7 ∧ p < x
  | [], p => by simp [ris]
  | x :: l, p => by
    simp only [ris, Bool.and_eq_true, decide_eq_true_eq, ris_spec l x, List.pairwise_cons, List.mem_cons]
    constructor
    · rintro ⟨⟨h1, h2, h3⟩, h4, h5⟩
      refine ⟨⟨fun y hy => (h5 y hy).2.2, h4⟩, fun y hy => ?_⟩
      rcases hy with rfl | hy
      · exact ⟨h1, h2, h3⟩
      · have := h5 y hy; omega
    · rintro ⟨⟨h1, h2⟩, h3⟩
      have h4 := h3 x (.inl rfl)
      exact ⟨⟨h4.1, h4.2.1, h4.2.2⟩, h2, fun y hy => ⟨(h3 y (.inr hy)).1, (h3 y (.inr hy)).2.1, h1 y hy⟩⟩
theorem C37_2_s (l : List Int) (hn : l.length < 1000000) : ∀ (n j k : Nat) (K : Bool → Prop), j + n = l.length → n + 1 ≤ k →
    C37_2 k l (j : Int) K = K (ris (if j = 0 then 0 else l.getD (j - 1) 0) (l.drop j)) := by
  intro n
  induction n with
  | zero =>
    intro j k K hj hk
    obtain ⟨k, rfl⟩ : ∃ m, k = m + 1 := ⟨k - 1, by omega⟩
    have : ¬ ((j : Int) < (l.length : Int)) := by omega
    simp only [C37_2, this, decide_false, cond_false]
    rw [List.drop_of_length_le (by omega)]; rfl
  | succ n ih =>
    intro j k K hj hk
    obtain ⟨k, rfl⟩ : ∃ m, k = m + 1 := ⟨k - 1, by omega⟩
    have h1 : ((j : Int) < (l.length : Int)) := by omega
    have h0 : (0 : Int) ≤ j := by omega
    have hw : IntKind.i64.wrap ((j : Int) + 1) = ((j + 1 : Nat) : Int) := by rw [wrap64 (by omega)]; rfl
    have ha : j < l.length := by omega
    have ih' := ih (j + 1) k K (by omega) (by omega)
    rw [if_neg (by omega), Nat.add_sub_cancel, getD_at ha] at ih'
    simp only [C37_2, h1, h0, decide_true, cond_true, true_and, Int.toNat_natCast, getD_at ha, hw, Hold_eq, drop_cons ha, ris]
    by_cases c1 : l[j] < 1
    · have : ¬ (1 ≤ l[j]) := by omega
      simp only [c1, this, decide_true, decide_false, cond_true, Bool.false_and]
    · by_cases c2 : 7 < l[j]
      · have : ¬ (l[j] ≤ 7) := by omega
        simp only [c1, c2, this, decide_true, decide_false, cond_true, cond_false, Bool.false_and, Bool.and_false]
      · have e1 : 1 ≤ l[j] := by omega
        have e2 : l[j] ≤ 7 := by omega
        simp only [c1, c2, e1, e2, decide_true, decide_false, cond_false, Bool.true_and]
        by_cases c3 : j = 0
        · subst c3
          have : (0 : Int) < l[0] := by omega
          simp only [Int.natCast_zero, Int.lt_irrefl, decide_false, cond_false, if_true, this, decide_true, Bool.true_and]
          exact ih'
        · have p1 : (0 : Int) < j := by omega
          have hw2 : IntKind.i64.wrap ((j : Int) - 1) = ((j - 1 : Nat) : Int) := by rw [wrap64 (by omega)]; omega
          have p2 : ((j - 1 : Nat) : Int) < l.length := by omega
          have p3 : (0 : Int) ≤ ((j - 1 : Nat) : Int) := by omega
          simp only [p1, decide_true, cond_true, hw2, p2, p3, true_and, Int.toNat_natCast, c3, if_false]
          by_cases c4 : l[j] ≤ l.getD (j - 1) 0
          · have : ¬ (l.getD (j - 1) 0 < l[j]) := by omega
            simp only [c4, this, decide_true, decide_false, cond_true, Bool.false_and]
          · have : l.getD (j - 1) 0 < l[j] := by omega
            simp only [c4, this, decide_true, decide_false, cond_false, Bool.true_and]
            exact ih'
theorem F37_s (k : Nat) (l : List Int) (K : Bool → Prop) (hn : l.length < 1000000) (hk : l.length + 3 ≤ k) : F37 k l K = K (ris 0 l) := by
  obtain ⟨k, rfl⟩ : ∃ m, k = m + 1 := ⟨k - 1, by omega⟩
  simp only [F37, Hold_eq]
  have := C37_2_s l hn l.length 0 k K (by omega) (by omega)
  simpa using this

-- may a council be?
def may (V L : List Int) : Bool := ris 0 V && (ris 0 L && (!decide (V = []) && V.all fun v => !decide (v ∈ L)))
theorem C19_4_s (V L : List Int) (hn : V.length < 1000000) (hm : L.length < 1000000) : ∀ (n j k : Nat) (K : Bool → Prop), j + n = V.length → n + L.length + 4 ≤ k →
    C19_4 k (j : Int) V L K = K ((V.drop j).all fun v => !decide (v ∈ L)) := by
  intro n
  induction n with
  | zero =>
    intro j k K hj hk
    obtain ⟨k, rfl⟩ : ∃ m, k = m + 1 := ⟨k - 1, by omega⟩
    have : ¬ ((j : Int) < (V.length : Int)) := by omega
    simp only [C19_4, this, decide_false, cond_false]
    rw [List.drop_of_length_le (by omega)]; simp
  | succ n ih =>
    intro j k K hj hk
    obtain ⟨k, rfl⟩ : ∃ m, k = m + 1 := ⟨k - 1, by omega⟩
    have h1 : ((j : Int) < (V.length : Int)) := by omega
    have h0 : (0 : Int) ≤ j := by omega
    have hw : IntKind.i64.wrap ((j : Int) + 1) = ((j + 1 : Nat) : Int) := by rw [wrap64 (by omega)]; rfl
    have ha : j < V.length := by omega
    simp only [C19_4, h1, h0, decide_true, cond_true, true_and, Int.toNat_natCast, getD_at ha, hw, Hold_eq, drop_cons ha, F31_s k L _ _ hm (by omega), List.all_cons]
    by_cases e : V[j] ∈ L
    · simp only [e, decide_true, cond_true, Bool.not_true, Bool.false_and]
    · simp only [e, decide_false, cond_false, Bool.not_false, Bool.true_and]
      exact ih (j + 1) k K (by omega) (by omega)
theorem F19_s (k : Nat) (V L : List Int) (K : Bool → Prop) (hn : V.length < 1000000) (hm : L.length < 1000000) (hk : V.length + L.length + 10 ≤ k) : F19 k V L K = K (may V L) := by
  obtain ⟨k, rfl⟩ : ∃ m, k = m + 1 := ⟨k - 1, by omega⟩
  simp only [F19, Hold_eq, F37_s k V _ hn (by omega), F37_s k L _ hm (by omega), may]
  cases ris 0 V with
  | false => simp
  | true =>
    cases ris 0 L with
    | false => simp
    | true =>
      cases V with
      | nil => simp
      | cons v V =>
        have : ¬ (((v :: V).length : Int) = 0) := by simp; omega
        simp only [Bool.not_true, cond_false, this, decide_false, Bool.true_and, reduceCtorEq, Bool.not_false]
        have := C19_4_s (v :: V) L hn hm (v :: V).length 0 k K (by omega) (by omega)
        simpa using this

theorem may_spec (V L : List Int) : may V L = true ↔ (V.Pairwise (· < ·) ∧ ∀ x ∈ V, 1 ≤ x ∧ x ≤ 7) ∧ (L.Pairwise (· < ·) ∧ ∀ x ∈ L, 1 ≤ x ∧ x ≤ 7) ∧ V ≠ [] ∧ ∀ x ∈ V, x ∉ L := by
  simp only [may, Bool.and_eq_true, ris_spec, Bool.not_eq_true', decide_eq_false_iff_not, List.all_eq_true]
  constructor
  · rintro ⟨⟨h1, h2⟩, ⟨h3, h4⟩, h5, h6⟩
    exact ⟨⟨h1, fun x hx => ⟨(h2 x hx).1, (h2 x hx).2.1⟩⟩, ⟨h3, fun x hx => ⟨(h4 x hx).1, (h4 x hx).2.1⟩⟩, h5, h6⟩
  · rintro ⟨⟨h1, h2⟩, ⟨h3, h4⟩, h5, h6⟩
    refine ⟨⟨h1, fun x hx => ?_⟩, ⟨h3, fun x hx => ?_⟩, h5, h6⟩
    · have := h2 x hx; omega
    · have := h4 x hx; omega

theorem listN_ofN {l : List Int} (h1 : l.Pairwise (· < ·)) (h2 : ∀ x ∈ l, 1 ≤ x ∧ x ≤ 7) : listN (ofN l) = l := by
  refine sorted_ext (listN_sorted _) h1 fun x => ?_
  rw [listN_mem]
  constructor
  · rintro ⟨j, rfl, h3, h4⟩
    rw [ofN_bit] at h4
    simp only [decide_eq_true_eq] at h4
    exact h4.1
  · intro hx
    have := h2 x hx
    refine ⟨x.toNat, by omega, by omega, ?_⟩
    rw [ofN_bit]
    simp only [decide_eq_true_eq]
    exact ⟨by rw [Int.toNat_of_nonneg (by omega)]; exact hx, by omega, by omega⟩
theorem ofN_list {l : List Int} (h : listN (ofN l) = l) : l.Pairwise (· < ·) ∧ ∀ x ∈ l, 1 ≤ x ∧ x ≤ 7 := by
  constructor
  · rw [← h]; exact listN_sorted _
  · intro x hx
    rw [← h, listN_mem] at hx
    obtain ⟨j, rfl, h3, h4⟩ := hx
    rw [ofN_bit] at h4
    simp only [decide_eq_true_eq] at h4
    omega
theorem zero_bits {a : Nat} (h : a < 256) : a = 0 ↔ ∀ j, j < 8 → a.testBit j = false := by
  constructor
  · rintro rfl j _; simp
  · intro hb
    apply Nat.eq_of_testBit_eq
    intro j
    rw [Nat.zero_testBit]
    by_cases hj : j < 8
    · exact hb j hj
    · exact Nat.testBit_lt_two_pow (Nat.lt_of_lt_of_le h (show 2 ^ 8 ≤ 2 ^ j from Nat.pow_le_pow_right (by decide) (by omega)))

/-- Check, and the document's May -/
def chk (V L : List Int) : Int := cond (may V L) 0 130
theorem F15_s (k : Nat) (V L : List Int) (K : Int → Prop) (hn : V.length < 1000000) (hm : L.length < 1000000) (hk : 2 * V.length + 2 * L.length + 30 ≤ k) : F15 k V L K = K (chk V L) := by
  obtain ⟨k, rfl⟩ : ∃ m, k = m + 1 := ⟨k - 1, by omega⟩
  have l1 := listN_length (ofN V)
  have l2 := listN_length (ofN L)
  simp only [F15, Hold_eq, F29_s k V _ hn (by omega), F29_s k L _ hm (by omega), F30_s k _ _ (ofN_lt _) (by omega), iand8 (ofN_lt _) (ofN_lt _),
    F36_s k (listN (ofN V)) V _ (by omega) (by omega), F36_s k (listN (ofN L)) L _ (by omega) (by omega), chk]
  cases hmay : may V L with
  | true =>
    obtain ⟨⟨h1, h2⟩, ⟨h3, h4⟩, h5, h6⟩ := (may_spec V L).1 hmay
    have a1 := listN_ofN h1 h2
    have a2 := listN_ofN h3 h4
    have a3 : ¬ ((ofN V : Int) = 0) := by
      intro h
      have h0 : ofN V = 0 := by omega
      rw [h0] at a1
      exact h5 (a1.symm.trans (by decide))
    have a4 : ((ofN V &&& ofN L : Nat) : Int) = 0 := by
      have : ofN V &&& ofN L = 0 := (zero_bits (Nat.and_lt_two_pow (n := 8) _ (ofN_lt L))).2 fun j hj => by
        rw [Nat.testBit_and, ofN_bit, ofN_bit]
        by_cases hv : (j : Int) ∈ V
        · simp [h6 _ hv]
        · simp [hv]
      omega
    simp only [a1, a2, a3, a4, decide_true, decide_false, cond_true, cond_false, Bool.not_true]
  | false =>
    by_cases c1 : ((ofN V : Int) = 0)
    · simp only [c1, decide_true, cond_true, cond_false]
    · simp only [c1, decide_false, cond_false]
      by_cases c2 : ((ofN V &&& ofN L : Nat) : Int) = 0
      · simp only [c2, decide_true, Bool.not_true, cond_false]
        by_cases c3 : listN (ofN V) = V
        · simp only [c3, decide_true, Bool.not_true, cond_false]
          by_cases c4 : listN (ofN L) = L
          · exfalso
            have : may V L = true := (may_spec V L).2 ⟨ofN_list c3, ofN_list c4, ?_, ?_⟩
            · rw [hmay] at this; cases this
            · rintro rfl; exact c1 rfl
            · intro x hx hx2
              have h1 := (ofN_list c3).2 x hx
              have h0 : ofN V &&& ofN L = 0 := by omega
              have := congrArg (fun n => Nat.testBit n x.toNat) h0
              simp only [Nat.testBit_and, ofN_bit, Nat.zero_testBit] at this
              rw [Int.toNat_of_nonneg (by omega)] at this
              simp [hx, hx2] at this
              omega
          · simp only [c4, decide_false, Bool.not_false, cond_true]
        · simp only [c3, decide_false, Bool.not_false, cond_true]
      · simp only [c2, decide_false, Bool.not_false, cond_true]

-- a change
def ChgOk (V L : List Int) (kd n : Int) : Prop := may V L = true ∧ 1 ≤ n ∧ n ≤ 7 ∧ ((kd = 1 ∧ n ∉ V ∧ n ∉ L) ∨ (kd = 2 ∧ n ∈ L) ∨ (kd = 3 ∧ (n ∈ V ∨ n ∈ L) ∧ wo n V ≠ []))
instance (V L : List Int) (kd n : Int) : Decidable (ChgOk V L kd n) := by unfold ChgOk; infer_instance
def chgV (V : List Int) (kd n : Int) : List Int := if kd = 1 then V else if kd = 2 then withN V n else wo n V
def chgL (L : List Int) (kd n : Int) : List Int := if kd = 1 then withN L n else wo n L

theorem wo_mem (n x : Int) (l : List Int) : x ∈ wo n l ↔ x ∈ l ∧ x ≠ n := by simp [wo]
theorem wo_sorted {n : Int} {l : List Int} (h : l.Pairwise (· < ·)) : (wo n l).Pairwise (· < ·) := h.filter _
theorem wo_no {n : Int} {l : List Int} (h : n ∉ l) : wo n l = l := by
  unfold wo
  rw [List.filter_eq_self]
  intro x hx
  have : x ≠ n := by rintro rfl; exact h hx
  simp [this]
theorem wo_length (n : Int) (l : List Int) : (wo n l).length ≤ l.length := List.length_filter_le _ _
theorem withN_sorted (l : List Int) (n : Int) : (withN l n).Pairwise (· < ·) := with_sorted l n 7 1
theorem withN_length (l : List Int) (n : Int) : (withN l n).length ≤ 7 := with_length l n 7 1
theorem withN_mem (l : List Int) (n x : Int) : x ∈ withN l n ↔ (1 ≤ x ∧ x ≤ 7) ∧ (x = n ∨ x ∈ l) := by
  rw [withN, with_mem]
  constructor
  · rintro ⟨j, rfl, h1, h2, h3⟩; exact ⟨by omega, h3⟩
  · rintro ⟨h1, h2⟩
    exact ⟨x.toNat, by omega, by omega, by omega, by rw [Int.toNat_of_nonneg (by omega)]; exact h2⟩
theorem bit_mem (l : List Int) (j : Nat) (hj : 1 ≤ j ∧ j ≤ 7) : (ofN l).testBit j = decide ((j : Int) ∈ l) := by
  rw [ofN_bit]; congr 1; simp; omega
theorem bit_zero (l : List Int) : (ofN l).testBit 0 = false := by rw [ofN_bit]; simp
theorem not_bit {b j : Nat} (hb : b < 256) (hj : j < 8) : (255 - b).testBit j = !b.testBit j := by
  have := Nat.testBit_two_pow_sub_succ (n := 8) (x := b) hb j
  rw [show 2 ^ 8 - (b + 1) = 255 - b by omega] at this
  simp [this, hj]
theorem dif_bit {a b j : Nat} (hb : b < 256) (hj : j < 8) : (dif a b).testBit j = (a.testBit j && !b.testBit j) := by
  rw [dif, Nat.testBit_and, not_bit hb hj]

theorem or_with {L : List Int} {n : Int} (hn : 1 ≤ n ∧ n ≤ 7) : listN (ofN L ||| ofN [n]) = withN L n := by
  refine sorted_ext (listN_sorted _) (withN_sorted _ _) fun x => ?_
  rw [listN_mem, withN_mem]
  constructor
  · rintro ⟨j, rfl, h1, h2⟩
    rw [Nat.testBit_or, ofN_bit, ofN_bit] at h2
    simp only [Bool.or_eq_true, decide_eq_true_eq, List.mem_singleton] at h2
    rcases h2 with h2 | h2
    · exact ⟨by omega, .inr h2.1⟩
    · exact ⟨by omega, .inl h2.1⟩
  · rintro ⟨h1, h2⟩
    refine ⟨x.toNat, by omega, by omega, ?_⟩
    rw [Nat.testBit_or, ofN_bit, ofN_bit, Int.toNat_of_nonneg (by omega)]
    simp only [Bool.or_eq_true, decide_eq_true_eq, List.mem_singleton]
    rcases h2 with h2 | h2
    · exact .inr ⟨h2, by omega⟩
    · exact .inl ⟨h2, by omega⟩
theorem dif_wo {L : List Int} {n : Int} (h1 : L.Pairwise (· < ·)) (h2 : ∀ x ∈ L, 1 ≤ x ∧ x ≤ 7) (hn : 1 ≤ n ∧ n ≤ 7) : listN (dif (ofN L) (ofN [n])) = wo n L := by
  refine sorted_ext (listN_sorted _) (wo_sorted h1) fun x => ?_
  rw [listN_mem, wo_mem]
  constructor
  · rintro ⟨j, rfl, h3, h4⟩
    rw [dif_bit (ofN_lt _) h3, ofN_bit, ofN_bit] at h4
    simp only [Bool.and_eq_true, decide_eq_true_eq, Bool.not_eq_true', decide_eq_false_iff_not, List.mem_singleton] at h4
    exact ⟨h4.1.1, fun e => h4.2 ⟨e, h4.1.2⟩⟩
  · rintro ⟨h3, h4⟩
    have := h2 x h3
    refine ⟨x.toNat, by omega, by omega, ?_⟩
    rw [dif_bit (ofN_lt _) (by omega), ofN_bit, ofN_bit, Int.toNat_of_nonneg (by omega)]
    simp only [Bool.and_eq_true, decide_eq_true_eq, Bool.not_eq_true', decide_eq_false_iff_not, List.mem_singleton]
    exact ⟨⟨h3, by omega⟩, fun e => h4 e.1⟩
theorem dif_lt {a b : Nat} : dif a b < 256 := Nat.and_lt_two_pow (n := 8) _ (show 255 - b < 2 ^ 8 by omega)
/-- a set is empty if its list is -/
theorem listN_nil {a : Nat} (h : a < 256) : listN a = [] ↔ a = 0 := by
  rw [zero_bits h, List.eq_nil_iff_forall_not_mem]
  constructor
  · intro hl j hj
    cases hb : a.testBit j with
    | false => rfl
    | true => exact absurd ((listN_mem a j).2 ⟨j, rfl, hj, hb⟩) (hl _)
  · intro hb x hx
    obtain ⟨j, -, h1, h2⟩ := (listN_mem a x).1 hx
    rw [hb j h1] at h2; cases h2
theorem one_zero (n : Int) : ((ofN [n] : Nat) : Int) = 0 ↔ ¬ (1 ≤ n ∧ n ≤ 7) := by
  simp only [ofN, List.foldl_cons, List.foldl_nil, addTo]
  split
  · rename_i h
    simp only [h, and_self, not_true, iff_false, Nat.zero_or]
    have : 0 < 2 ^ n.toNat := Nat.pow_pos (by decide)
    omega
  · rename_i h; simp [h]
theorem and_one {L : List Int} {n : Int} (hn : 1 ≤ n ∧ n ≤ 7) : ((ofN L &&& ofN [n] : Nat) : Int) = 0 ↔ n ∉ L := by
  have h0 : ofN L &&& ofN [n] < 256 := Nat.and_lt_two_pow (n := 8) _ (ofN_lt _)
  have : ((ofN L &&& ofN [n] : Nat) : Int) = 0 ↔ ofN L &&& ofN [n] = 0 := by omega
  rw [this, zero_bits h0]
  constructor
  · intro h hx
    have := h n.toNat (by omega)
    rw [Nat.testBit_and, ofN_bit, ofN_bit, Int.toNat_of_nonneg (by omega)] at this
    simp [hx] at this
    omega
  · intro h j hj
    rw [Nat.testBit_and, ofN_bit, ofN_bit]
    by_cases e : (j : Int) = n
    · have : ¬ ((j : Int) ∈ L) := by rw [e]; exact h
      simp [this]
    · simp [e]
theorem or_and {V L : List Int} {n : Int} (hn : 1 ≤ n ∧ n ≤ 7) : (((ofN V ||| ofN L) &&& ofN [n] : Nat) : Int) = 0 ↔ n ∉ V ∧ n ∉ L := by
  rw [← and_one (L := V) hn, ← and_one (L := L) hn, Nat.and_or_distrib_right]
  have : ∀ a b : Nat, a ||| b = 0 ↔ a = 0 ∧ b = 0 := fun a b => Nat.or_eq_zero_iff
  have h := this (ofN V &&& ofN [n]) (ofN L &&& ofN [n])
  omega

/-- what a change makes -/
theorem F11_s (k : Nat) (V L : List Int) (kd n : Int) (K : List Int → List Int → Int → Prop) (hn : V.length < 1000000) (hm : L.length < 1000000) (hk : 2 * V.length + 2 * L.length + 50 ≤ k) :
    F11 k V L kd n K = if ChgOk V L kd n then K (chgV V kd n) (chgL L kd n) 0 else K [] [] 130 := by
  obtain ⟨k, rfl⟩ : ∃ m, k = m + 3 := ⟨k - 3, by omega⟩
  have q1 := ofN_lt V
  have q2 := ofN_lt L
  have q3 := ofN_lt [n]
  have q4 : ofN V ||| ofN L < 256 := Nat.or_lt_two_pow (n := 8) q1 q2
  have q5 : ofN V ||| ofN [n] < 256 := Nat.or_lt_two_pow (n := 8) q1 q3
  have q6 : ofN L ||| ofN [n] < 256 := Nat.or_lt_two_pow (n := 8) q2 q3
  simp only [F11, Hold_eq, F29_s (k + 2) V _ hn (by omega), F29_s (k + 2) L _ hm (by omega), F29_s (k + 2) [n] _ (by simp) (by simp; omega), F15_s (k + 2) V L _ hn hm (by omega), C11_5, C11_14,
    F30_s k _ _ q1 (by omega), F30_s k _ _ q2 (by omega), iand8 q2 q3, iandn8 q1 q3, iandn8 q2 q3, ior8 q1 q2, ior8 q1 q3, ior8 q2 q3, iand8 q4 q3, F30_s k _ _ q5 (by omega), F30_s k _ _ q6 (by omega), F30_s k (dif (ofN V) (ofN [n])) _ dif_lt (by omega), F30_s k (dif (ofN L) (ofN [n])) _ dif_lt (by omega)]
  by_cases hmay : may V L = true
  rotate_left
  · have : ¬ ChgOk V L kd n := fun h => hmay h.1
    rw [if_neg this]
    simp only [Bool.not_eq_true] at hmay
    simp only [chk, hmay, cond_false, show ¬ ((130 : Int) = 0) by decide, decide_false]
    by_cases c1 : kd = 1 <;> by_cases c2 : kd = 2 <;> by_cases c3 : kd = 3 <;> simp [c1, c2, c3]
  obtain ⟨⟨h1, h2⟩, ⟨h3, h4⟩, h5, h6⟩ := (may_spec V L).1 hmay
  simp only [chk, hmay, cond_true, decide_true]
  by_cases hr : 1 ≤ n ∧ n ≤ 7
  rotate_left
  · have : ¬ ChgOk V L kd n := fun h => hr ⟨h.2.1, h.2.2.1⟩
    rw [if_neg this]
    have hz : ((ofN [n] : Nat) : Int) = 0 := (one_zero n).2 hr
    simp only [hz, decide_true, Bool.not_true, cond_false]
    by_cases c1 : kd = 1 <;> by_cases c2 : kd = 2 <;> by_cases c3 : kd = 3 <;> simp [c1, c2, c3]
  have hz : ¬ ((ofN [n] : Nat) : Int) = 0 := fun h => (one_zero n).1 h hr
  simp only [hz, decide_false, Bool.not_false, cond_true]
  rw [or_with hr, dif_wo h3 h4 hr, or_with hr, dif_wo h1 h2 hr, listN_ofN h1 h2]
  have e1 : (((ofN V ||| ofN L) &&& ofN [n] : Nat) : Int) = 0 ↔ n ∉ V ∧ n ∉ L := or_and hr
  have e2 : ((ofN L &&& ofN [n] : Nat) : Int) = 0 ↔ n ∉ L := and_one hr
  have e3 : ((dif (ofN V) (ofN [n]) : Nat) : Int) = 0 ↔ wo n V = [] := by
    rw [← dif_wo h1 h2 hr, listN_nil dif_lt]; omega
  simp only [e1, e2, e3]
  by_cases c1 : kd = 1
  · subst c1
    have : ChgOk V L 1 n ↔ n ∉ V ∧ n ∉ L := by
      simp only [ChgOk, hmay, hr, true_and, show ¬ ((1 : Int) = 2) by decide, show ¬ ((1 : Int) = 3) by decide, false_and, or_false]
    simp only [this, decide_true, cond_true, chgV, chgL, if_true]
    by_cases q : n ∉ V ∧ n ∉ L <;> simp only [q, decide_true, decide_false, Bool.not_true, Bool.not_false, cond_true, cond_false, if_true, if_false] <;> simp [q]
  · by_cases c2 : kd = 2
    · subst c2
      have : ChgOk V L 2 n ↔ n ∈ L := by
        simp only [ChgOk, hmay, hr, true_and, show ¬ ((2 : Int) = 1) by decide, show ¬ ((2 : Int) = 3) by decide, false_and, or_false, false_or]
      simp only [this, decide_true, decide_false, cond_true, cond_false, c1, chgV, chgL, if_true, if_false]
      by_cases q : n ∈ L <;> simp [q]
    · by_cases c3 : kd = 3
      · subst c3
        have : ChgOk V L 3 n ↔ (n ∈ V ∨ n ∈ L) ∧ wo n V ≠ [] := by
          simp only [ChgOk, hmay, hr, true_and, show ¬ ((3 : Int) = 1) by decide, show ¬ ((3 : Int) = 2) by decide, false_and, false_or]
        simp only [this, decide_true, decide_false, cond_true, cond_false, c1, c2, chgV, chgL, if_true, if_false]
        by_cases q : n ∈ V <;> by_cases q' : n ∈ L <;> by_cases q'' : wo n V = [] <;> simp [q, q', q'']
      · have : ¬ ChgOk V L kd n := by simp only [ChgOk, c1, c2, c3, false_and, or_self, and_false, not_false_iff]
        rw [if_neg this]
        simp [c1, c2, c3]
/-- and the document's -/
theorem F12_s (k : Nat) (V L : List Int) (kd n : Int) (K : List Int → List Int → Int → Prop) (hn : V.length < 1000000) (hm : L.length < 1000000) (hk : 2 * V.length + 2 * L.length + 50 ≤ k) :
    F12 k V L kd n K = if ChgOk V L kd n then K (chgV V kd n) (chgL L kd n) 0 else K [] [] 130 := by
  obtain ⟨k, rfl⟩ : ∃ m, k = m + 3 := ⟨k - 3, by omega⟩
  have w1 := wo_length n V
  have w2 := wo_length n L
  simp only [F12, Hold_eq, F31_s (k + 2) V _ _ hn (by omega), F31_s (k + 2) L _ _ hm (by omega), F32_s (k + 2) V _ _ hn (by omega), F32_s (k + 2) L _ _ hm (by omega), F19_s (k + 2) V L _ hn hm (by omega),
    C12_8, C12_16, F33_s (k + 1) (wo n L) n _ (by omega) (by omega), F33_s (k + 1) (wo n V) n _ (by omega) (by omega)]
  by_cases hmay : may V L = true
  rotate_left
  · have : ¬ ChgOk V L kd n := fun h => hmay h.1
    rw [if_neg this]
    simp only [Bool.not_eq_true] at hmay
    simp only [hmay, cond_false]
    by_cases c1 : kd = 1 <;> by_cases c2 : kd = 2 <;> by_cases c3 : kd = 3 <;> simp [c1, c2, c3]
  obtain ⟨⟨h1, h2⟩, ⟨h3, h4⟩, h5, h6⟩ := (may_spec V L).1 hmay
  simp only [hmay, cond_true]
  by_cases hr : 1 ≤ n ∧ n ≤ 7
  rotate_left
  · have : ¬ ChgOk V L kd n := fun h => hr ⟨h.2.1, h.2.2.1⟩
    rw [if_neg this]
    by_cases p1 : 1 ≤ n
    · have p2 : ¬ (n ≤ 7) := fun h => hr ⟨p1, h⟩
      by_cases c1 : kd = 1 <;> by_cases c2 : kd = 2 <;> by_cases c3 : kd = 3 <;> simp [c1, c2, c3, p1, p2]
    · by_cases c1 : kd = 1 <;> by_cases c2 : kd = 2 <;> by_cases c3 : kd = 3 <;> simp [c1, c2, c3, p1]
  simp only [hr.1, hr.2, decide_true, cond_true]
  by_cases c1 : kd = 1
  · subst c1
    have : ChgOk V L 1 n ↔ n ∉ V ∧ n ∉ L := by
      simp only [ChgOk, hmay, hr, true_and, show ¬ ((1 : Int) = 2) by decide, show ¬ ((1 : Int) = 3) by decide, false_and, or_false]
    simp only [this, decide_true, cond_true, chgV, chgL, if_true]
    by_cases q : n ∈ V
    · simp [q]
    · by_cases q' : n ∈ L
      · simp [q, q']
      · simp [q, q', wo_no q, wo_no q']
  · by_cases c2 : kd = 2
    · subst c2
      have : ChgOk V L 2 n ↔ n ∈ L := by
        simp only [ChgOk, hmay, hr, true_and, show ¬ ((2 : Int) = 1) by decide, show ¬ ((2 : Int) = 3) by decide, false_and, or_false, false_or]
      have ev : withN (wo n V) n = withN V n := sorted_ext (withN_sorted _ _) (withN_sorted _ _) fun x => by
        rw [withN_mem, withN_mem, wo_mem]
        constructor
        · rintro ⟨a, b | b⟩
          · exact ⟨a, .inl b⟩
          · exact ⟨a, .inr b.1⟩
        · rintro ⟨a, b⟩
          by_cases e : x = n
          · exact ⟨a, .inl e⟩
          · exact ⟨a, .inr ⟨b.resolve_left e, e⟩⟩
      simp only [this, decide_true, decide_false, cond_true, cond_false, c1, chgV, chgL, if_true, if_false, ev]
      by_cases q : n ∈ L <;> simp [q]
    · by_cases c3 : kd = 3
      · subst c3
        have : ChgOk V L 3 n ↔ (n ∈ V ∨ n ∈ L) ∧ wo n V ≠ [] := by
          simp only [ChgOk, hmay, hr, true_and, show ¬ ((3 : Int) = 1) by decide, show ¬ ((3 : Int) = 2) by decide, false_and, false_or]
        have e3 : (0 : Int) < ((wo n V).length : Int) ↔ wo n V ≠ [] := by
          cases wo n V <;> simp
        simp only [this, decide_true, decide_false, cond_true, cond_false, c1, c2, chgV, chgL, if_true, if_false, e3]
        by_cases q : n ∈ V <;> by_cases q' : n ∈ L <;> by_cases q'' : wo n V = [] <;> simp [q, q', q'']
      · have : ¬ ChgOk V L kd n := by simp only [ChgOk, c1, c2, c3, false_and, or_self, and_false, not_false_iff]
        rw [if_neg this]
        simp [c1, c2, c3]

theorem F13_s (k : Nat) (a b c d : List Int) (K : Bool → Prop) (ha : a.length < 1000000) (hb : b.length < 1000000) (hk : a.length + b.length + 10 ≤ k) : F13 k a b c d K = K (decide (a = c) && decide (b = d)) := by
  obtain ⟨k, rfl⟩ : ∃ m, k = m + 1 := ⟨k - 1, by omega⟩
  simp only [F13, Hold_eq, F34_s k a c _ ha (by omega), F34_s k b d _ hb (by omega)]
  by_cases h : a = c <;> simp [h]
theorem F14_s (k : Nat) (K : Bool → Prop) (hk : 100 ≤ k) : F14 k K = K true := by
  obtain ⟨k, rfl⟩ : ∃ m, k = m + 2 := ⟨k - 2, by omega⟩
  simp only [F14, Hold_eq, F35]
  rw [F11_s (k + 1) [1, 2, 3] [4] 2 4 _ (by decide) (by decide) (by simp; omega), if_pos (by decide)]
  rw [F11_s (k + 1) [1, 2, 3] [4] 2 5 _ (by decide) (by decide) (by simp; omega), if_neg (by decide)]
  simp [chgV, chgL, withN, with_, wo]
theorem chg_length (V L : List Int) (kd n : Int) : (chgV V kd n).length ≤ V.length + 7 ∧ (chgL L kd n).length ≤ L.length + 7 := by
  have h1 := withN_length V n
  have h2 := withN_length L n
  have h3 := wo_length n V
  have h4 := wo_length n L
  unfold chgV chgL
  constructor
  · split
    · omega
    · split <;> omega
  · split <;> omega

-- the laws
theorem F9_s (k : Nat) (V L : List Int) (K : Bool → Prop) (hk : 1 ≤ k) : F9 k V L K = K (decide (300 < V.length ∨ 300 < L.length)) := by
  obtain ⟨k, rfl⟩ : ∃ m, k = m + 1 := ⟨k - 1, by omega⟩
  simp only [F9]
  by_cases h1 : (300 : Int) < V.length
  · have : 300 < V.length := by omega
    simp [h1, this]
  · have e1 : ¬ (300 < V.length) := by omega
    by_cases h2 : (300 : Int) < L.length
    · have : 300 < L.length := by omega
      simp [h1, h2, e1, this]
    · have : ¬ (300 < L.length) := by omega
      simp [h1, h2, e1, this]
theorem F10_s (k : Nat) (V L : List Int) (K : List Int → List Int → Prop) (hn : V.length < 1000000) (hm : L.length < 1000000) (hk : 2 ≤ k) : F10 k V L K = K V L := by
  obtain ⟨k, rfl⟩ : ∃ m, k = m + 2 := ⟨k - 2, by omega⟩
  have r1 : room V.length 8 := by unfold room; omega
  have r2 : room L.length 8 := by unfold room; omega
  simp only [F10, F28, Hold_eq, r1, r2, true_and]
theorem set_len (l : List Int) (i : Nat) (x : Int) : (l.set i x).length = l.length := List.length_set ..
theorem C3_12_s (b : Bool) (V L V' L' x : List Int) (K : Bool → Prop) (hV : V.length < 1000000) (hL : L.length < 1000000) : ∀ (n j k : Nat) (y : List Int), j + n = y.length → y.length < 1000000 → n + V.length + L.length + 200 ≤ k →
    C3_12 k b (j : Int) V L V' L' x y K = K (b && (decide (V = V') && decide (L = L'))) := by
  intro n
  induction n with
  | zero =>
    intro j k y hj hy hk
    obtain ⟨k, rfl⟩ : ∃ m, k = m + 1 := ⟨k - 1, by omega⟩
    have : ¬ ((j : Int) < (y.length : Int)) := by omega
    simp only [C3_12, this, decide_false, cond_false, Hold_eq, F14_s k _ (by omega), cond_true, F13_s k V L V' L' _ hV hL (by omega)]
    cases b <;> simp
  | succ n ih =>
    intro j k y hj hy hk
    obtain ⟨k, rfl⟩ : ∃ m, k = m + 1 := ⟨k - 1, by omega⟩
    have h1 : ((j : Int) < (y.length : Int)) := by omega
    have h0 : (0 : Int) ≤ j := by omega
    have hw : IntKind.i64.wrap ((j : Int) + 1) = ((j + 1 : Nat) : Int) := by rw [wrap64 (by omega)]; rfl
    simp only [C3_12, h1, h0, decide_true, cond_true, true_and, Hold_eq, hw, Int.toNat_natCast]
    exact ih (j + 1) k _ (by rw [set_len]; omega) (by rw [set_len]; omega) (by omega)
theorem C3_8_s (b : Bool) (V L V' L' y : List Int) (K : Bool → Prop) (hV : V.length < 1000000) (hL : L.length < 1000000) (hy : y.length < 1000000) : ∀ (n j k : Nat) (x : List Int), j + n = x.length → x.length < 1000000 → n + V.length + L.length + y.length + 300 ≤ k →
    C3_8 k b (j : Int) V L V' L' x y K = K (b && (decide (V = V') && decide (L = L'))) := by
  intro n
  induction n with
  | zero =>
    intro j k x hj hx hk
    obtain ⟨k, rfl⟩ : ∃ m, k = m + 1 := ⟨k - 1, by omega⟩
    have : ¬ ((j : Int) < (x.length : Int)) := by omega
    simp only [C3_8, this, decide_false, cond_false, Hold_eq]
    exact C3_12_s b V L V' L' x K hV hL y.length 0 k y (by omega) hy (by omega)
  | succ n ih =>
    intro j k x hj hx hk
    obtain ⟨k, rfl⟩ : ∃ m, k = m + 1 := ⟨k - 1, by omega⟩
    have h1 : ((j : Int) < (x.length : Int)) := by omega
    have h0 : (0 : Int) ≤ j := by omega
    have hw : IntKind.i64.wrap ((j : Int) + 1) = ((j + 1 : Nat) : Int) := by rw [wrap64 (by omega)]; rfl
    simp only [C3_8, h1, h0, decide_true, cond_true, true_and, Hold_eq, hw, Int.toNat_natCast]
    exact ih (j + 1) k _ (by rw [set_len]; omega) (by rw [set_len]; omega) (by omega)

theorem f3_law (V L : List Int) (kd n : Int) : ∃ k, F3 k V L kd n (fun b => b = true) := by
  refine ⟨5000, ?_⟩
  show Hold (F9 4999 V L _)
  rw [Hold_eq, F9_s _ V L _ (by omega)]
  by_cases h : 300 < V.length ∨ 300 < L.length
  · simp [h]
  · have hV : V.length < 301 := by omega
    have hL : L.length < 301 := by omega
    have hc := chg_length V L kd n
    simp only [h, decide_false, cond_false, Hold_eq]
    rw [F10_s _ V L _ (by omega) (by omega) (by omega), F11_s _ V L kd n _ (by omega) (by omega) (by omega)]
    split
    · rename_i ho
      rw [F12_s _ V L kd n _ (by omega) (by omega) (by omega), if_pos ho]
      simp only [decide_true, cond_true]
      rw [F13_s _ _ _ _ _ _ (by omega) (by omega) (by omega)]
      simp only [decide_true, Bool.and_self]
      rw [show (0 : Int) = ((0 : Nat) : Int) from rfl, C3_8_s true V L V L (chgL L kd n) _ (by omega) (by omega) (by omega) (chgV V kd n).length 0 4999 _ (by omega) (by omega) (by omega)]
      simp
    · rename_i ho
      rw [F12_s _ V L kd n _ (by omega) (by omega) (by omega), if_neg ho]
      simp only [decide_true, cond_true]
      rw [F13_s _ _ _ _ _ _ (by simp) (by simp) (by simp)]
      simp only [decide_true, Bool.and_self]
      rw [show (0 : Int) = ((0 : Nat) : Int) from rfl, C3_8_s true V L V L [] _ (by omega) (by omega) (by simp) 0 0 4999 [] (by simp) (by simp) (by simp; omega)]
      simp
end Go.V
