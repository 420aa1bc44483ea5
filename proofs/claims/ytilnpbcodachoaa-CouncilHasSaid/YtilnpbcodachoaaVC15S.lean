/- what the functions of the council compute -/
import Derived.Test.YtilnpbcodachoaaVC15F
import Derived.IntWalk
set_option linter.unusedVariables false
set_option linter.unusedSimpArgs false
namespace Go.V

theorem Hold_eq (p : Prop) : Hold p = p := propext ⟨Hold.out, Hold.mk⟩
theorem wrap64 {n : Int} (h : -9223372036854775808 ≤ n ∧ n ≤ 9223372036854775807) : IntKind.i64.wrap n = n := by
  simp [IntKind.wrap, IntKind.signed, IntKind.bits]
  split <;> omega
theorem wrap8 {n : Int} (h : 0 ≤ n ∧ n ≤ 255) : IntKind.u8.wrap n = n := by
  simp [IntKind.wrap, IntKind.signed, IntKind.bits]
  omega
theorem ior8 {a b : Nat} (ha : a < 256) (hb : b < 256) : ior .u8 (a : Int) (b : Int) = ((a ||| b : Nat) : Int) := by
  have h : a ||| b < 256 := Nat.or_lt_two_pow (n := 8) ha hb
  show IntKind.u8.wrap ((BitVec.ofInt 8 (a : Int) ||| BitVec.ofInt 8 (b : Int)).toNat : Int) = _
  simp only [BitVec.ofInt_natCast, BitVec.toNat_or, BitVec.toNat_ofNat]
  rw [Nat.mod_eq_of_lt (by simpa using ha), Nat.mod_eq_of_lt (by simpa using hb), wrap8 (by omega)]
theorem iand8 {a b : Nat} (ha : a < 256) (hb : b < 256) : iand .u8 (a : Int) (b : Int) = ((a &&& b : Nat) : Int) := by
  have h : a &&& b < 256 := Nat.and_lt_two_pow (n := 8) a hb
  show IntKind.u8.wrap ((BitVec.ofInt 8 (a : Int) &&& BitVec.ofInt 8 (b : Int)).toNat : Int) = _
  simp only [BitVec.ofInt_natCast, BitVec.toNat_and, BitVec.toNat_ofNat]
  rw [Nat.mod_eq_of_lt (by simpa using ha), Nat.mod_eq_of_lt (by simpa using hb), wrap8 (by omega)]
/-- a set without another -/
def dif (a b : Nat) : Nat := a &&& (255 - b)
theorem iandn8 {a b : Nat} (ha : a < 256) (hb : b < 256) : iandn .u8 (a : Int) (b : Int) = ((dif a b : Nat) : Int) := by
  have h : a &&& (255 - b) < 256 := Nat.and_lt_two_pow (n := 8) a (by omega)
  show IntKind.u8.wrap ((BitVec.ofInt 8 (a : Int) &&& ~~~ BitVec.ofInt 8 (b : Int)).toNat : Int) = ((a &&& (255 - b) : Nat) : Int)
  simp only [BitVec.ofInt_natCast, BitVec.toNat_and, BitVec.toNat_not, BitVec.toNat_ofNat]
  rw [Nat.mod_eq_of_lt (by simpa using ha), Nat.mod_eq_of_lt (by simpa using hb), show 2 ^ 8 - 1 - b = 255 - b from rfl, wrap8 (by omega)]
theorem ishl8 {n : Nat} (h : n ≤ 7) : ishl .u8 1 (n : Int) = ((2 ^ n : Nat) : Int) := by
  have : n = 0 ∨ n = 1 ∨ n = 2 ∨ n = 3 ∨ n = 4 ∨ n = 5 ∨ n = 6 ∨ n = 7 := by omega
  rcases this with rfl | rfl | rfl | rfl | rfl | rfl | rfl | rfl <;> rfl
theorem bit8 {a n : Nat} (ha : a < 256) (h : n ≤ 7) : (decide ((iand .u8 (ishr .u8 (a : Int) (n : Int)) (1 : Int)) = 1)) = a.testBit n := by
  have e : ishr .u8 (a : Int) (n : Int) = ((a >>> n : Nat) : Int) := by
    unfold ishr
    simp only [Int.toNat_natCast, IntKind.bits]
    rw [Nat.min_eq_left (by omega), Int.fdiv_eq_ediv_of_nonneg _ (Int.pow_nonneg (by decide)), Nat.shiftRight_eq_div_pow]
    rfl
  have h2 : a >>> n < 256 := by rw [Nat.shiftRight_eq_div_pow]; exact Nat.lt_of_le_of_lt (Nat.div_le_self _ _) ha
  rw [e, show (1 : Int) = ((1 : Nat) : Int) from rfl, iand8 h2 (by decide)]
  rw [Nat.testBit]
  have : 1 &&& a >>> n = a >>> n &&& 1 := Nat.and_comm _ _
  rw [this, Nat.and_one_is_mod]
  rcases Nat.mod_two_eq_zero_or_one (a >>> n) with h | h <;> rw [h] <;> rfl

-- the set of a list
def addTo (a : Nat) (n : Int) : Nat := if 1 ≤ n ∧ n ≤ 7 then a ||| 2 ^ n.toNat else a
def ofN (l : List Int) : Nat := l.foldl addTo 0
theorem addTo_lt {a : Nat} (h : a < 256) (n : Int) : addTo a n < 256 := by
  unfold addTo
  split
  · exact Nat.or_lt_two_pow (n := 8) h (Nat.pow_lt_pow_right (by decide) (by omega))
  · exact h
theorem foldTo_lt : ∀ (l : List Int) {a : Nat}, a < 256 → l.foldl addTo a < 256
  | [], a, h => h
  | n :: l, a, h => foldTo_lt l (addTo_lt h n)
theorem ofN_lt (l : List Int) : ofN l < 256 := foldTo_lt l (by decide)

theorem addTo_bit (a : Nat) (n : Int) (j : Nat) : (addTo a n).testBit j = (a.testBit j || decide ((j : Int) = n ∧ 1 ≤ j ∧ j ≤ 7)) := by
  unfold addTo
  split
  · rename_i h
    rw [Nat.testBit_or, Nat.testBit_two_pow]
    congr 1
    apply decide_eq_decide.2
    constructor
    · intro h; omega
    · intro h; omega
  · rename_i h
    have : ¬ ((j : Int) = n ∧ 1 ≤ j ∧ j ≤ 7) := by omega
    simp [this]
theorem foldTo_bit : ∀ (l : List Int) (a : Nat) (j : Nat), (l.foldl addTo a).testBit j = (a.testBit j || decide ((j : Int) ∈ l ∧ 1 ≤ j ∧ j ≤ 7))
  | [], a, j => by simp
  | n :: l, a, j => by
    rw [List.foldl_cons, foldTo_bit l, addTo_bit, Bool.or_assoc]
    congr 1
    rw [← Bool.decide_or]
    apply decide_eq_decide.2
    simp only [List.mem_cons]
    constructor
    · rintro (⟨h1, h2⟩ | ⟨h1, h2⟩)
      · exact ⟨.inl h1, h2⟩
      · exact ⟨.inr h1, h2⟩
    · rintro ⟨h1 | h1, h2⟩
      · exact .inl ⟨h1, h2⟩
      · exact .inr ⟨h1, h2⟩
theorem ofN_bit (l : List Int) (j : Nat) : (ofN l).testBit j = decide ((j : Int) ∈ l ∧ 1 ≤ j ∧ j ≤ 7) := by
  rw [ofN, foldTo_bit]; simp

theorem C29_3_s : ∀ (n j k a : Nat) (l : List Int) (K : Int → Prop), j + n = l.length → l.length < 1000000 → 2 * n + 1 ≤ k → a < 256 →
    C29_3 k (a : Int) l (l.length : Int) (j : Int) K = K (((l.drop j).foldl addTo a : Nat) : Int) := by
  intro n
  induction n with
  | zero =>
    intro j k a l K hj hl hk ha
    obtain ⟨k, rfl⟩ : ∃ m, k = m + 1 := ⟨k - 1, by omega⟩
    have : ¬ ((j : Int) < (l.length : Int)) := by omega
    simp only [C29_3, this, decide_false, cond_false]
    rw [List.drop_of_length_le (by omega)]; rfl
  | succ n ih =>
    intro j k a l K hj hl hk ha
    obtain ⟨k, rfl⟩ : ∃ m, k = m + 2 := ⟨k - 2, by omega⟩
    have h1 : ((j : Int) < (l.length : Int)) := by omega
    have hjl : j < l.length := by omega
    have hg : l.getD j 0 = l[j] := by simp [List.getD, hjl]
    have hd : l.drop j = l[j] :: l.drop (j + 1) := (List.getElem_cons_drop hjl).symm
    have hw : IntKind.i64.wrap ((j : Int) + 1) = ((j + 1 : Nat) : Int) := by rw [wrap64 (by omega)]; rfl
    have h0 : (0 : Int) ≤ j := by omega
    rw [hd, List.foldl_cons]
    simp only [C29_3, C29_7, Hold_eq, Int.toNat_natCast, h1, decide_true, cond_true, hg, hw, h0, true_and]
    have key : ∀ s : Int, s = ((addTo a l[j] : Nat) : Int) → C29_3 k s l (l.length : Int) ((j + 1 : Nat) : Int) K = K (((l.drop (j + 1)).foldl addTo (addTo a l[j]) : Nat) : Int) := by
      rintro s rfl
      exact ih (j + 1) k _ l K (by omega) hl (by omega) (addTo_lt ha _)
    by_cases c1 : 1 ≤ l[j]
    · by_cases c2 : l[j] ≤ 7
      · obtain ⟨m, hm⟩ : ∃ m : Nat, l[j] = m := ⟨l[j].toNat, by omega⟩
        have c3 : 0 ≤ l[j] := by omega
        simp only [c1, c2, c3, decide_true, cond_true, true_and]
        apply key
        rw [hm, ishl8 (by omega), ior8 ha (show 2 ^ m < 2 ^ 8 from Nat.pow_lt_pow_right (by decide) (by omega))]
        simp only [addTo]
        rw [if_pos (by omega)]
        simp
      · simp only [c1, c2, decide_true, decide_false, cond_true, cond_false]
        apply key
        simp [addTo, c2]
    · simp only [c1, decide_false, cond_false]
      apply key
      simp [addTo, c1]
theorem F29_s (k : Nat) (l : List Int) (K : Int → Prop) (hl : l.length < 1000000) (hk : 2 * l.length + 5 ≤ k) : F29 k l K = K (ofN l : Int) := by
  obtain ⟨k, rfl⟩ : ∃ m, k = m + 1 := ⟨k - 1, by omega⟩
  simp only [F29, Hold_eq]
  exact C29_3_s l.length 0 k 0 l K (by omega) hl (by omega) (by decide)

-- the nodes of a set, rising
def from_ (a : Nat) : (n i : Nat) → List Int
  | 0, _ => []
  | n + 1, i => if a.testBit i then (i : Int) :: from_ a n (i + 1) else from_ a n (i + 1)
def listN (a : Nat) : List Int := from_ a 8 0
theorem from_mem (a : Nat) : ∀ (n i : Nat) (x : Int), x ∈ from_ a n i ↔ ∃ j : Nat, x = j ∧ i ≤ j ∧ j < i + n ∧ a.testBit j = true
  | 0, i, x => by simp [from_]; intro j _ h1 h2; omega
  | n + 1, i, x => by
    have ih := from_mem a n (i + 1) x
    unfold from_
    split
    · rename_i h
      rw [List.mem_cons, ih]
      constructor
      · rintro (rfl | ⟨j, h1, h2, h3, h4⟩)
        · exact ⟨i, rfl, Nat.le_refl _, by omega, h⟩
        · exact ⟨j, h1, by omega, by omega, h4⟩
      · rintro ⟨j, h1, h2, h3, h4⟩
        by_cases e : j = i
        · exact .inl (by rw [h1, e])
        · exact .inr ⟨j, h1, by omega, by omega, h4⟩
    · rename_i h
      rw [ih]
      constructor
      · rintro ⟨j, h1, h2, h3, h4⟩
        exact ⟨j, h1, by omega, by omega, h4⟩
      · rintro ⟨j, h1, h2, h3, h4⟩
        have : j ≠ i := by rintro rfl; exact h h4
        exact ⟨j, h1, by omega, by omega, h4⟩
theorem listN_mem (a : Nat) (x : Int) : x ∈ listN a ↔ ∃ j : Nat, x = j ∧ j < 8 ∧ a.testBit j = true := by
  rw [listN, from_mem]
  constructor
  · rintro ⟨j, h1, h2, h3, h4⟩; exact ⟨j, h1, by omega, h4⟩
  · rintro ⟨j, h1, h2, h3⟩; exact ⟨j, h1, by omega, by omega, h3⟩
theorem from_sorted (a : Nat) : ∀ (n i : Nat), (from_ a n i).Pairwise (· < ·)
  | 0, i => by simp [from_]
  | n + 1, i => by
    have ih := from_sorted a n (i + 1)
    unfold from_
    split
    · refine List.pairwise_cons.2 ⟨fun x hx => ?_, ih⟩
      obtain ⟨j, h1, h2, -⟩ := (from_mem a n (i + 1) x).1 hx
      omega
    · exact ih
theorem listN_sorted (a : Nat) : (listN a).Pairwise (· < ·) := from_sorted a 8 0
theorem from_length (a : Nat) : ∀ n i, (from_ a n i).length ≤ n
  | 0, i => by simp [from_]
  | n + 1, i => by
    have := from_length a n (i + 1)
    unfold from_
    split <;> simp <;> omega
theorem listN_length (a : Nat) : (listN a).length ≤ 8 := from_length a 8 0

theorem C30_3_s (a : Nat) (ha : a < 256) : ∀ (n i k : Nat) (acc : List Int) (K : List Int → Prop), i + n = 8 → acc.length ≤ i → n + 1 ≤ k → C30_3 k (a : Int) (i : Int) acc K = K (acc ++ from_ a n i) := by
  intro n
  induction n with
  | zero =>
    intro i k acc K hi hacc hk
    obtain ⟨k, rfl⟩ : ∃ m, k = m + 1 := ⟨k - 1, by omega⟩
    have : ¬ ((i : Int) < 8) := by omega
    simp only [C30_3, this, decide_false, cond_false, from_, List.append_nil]
  | succ n ih =>
    intro i k acc K hi hacc hk
    obtain ⟨k, rfl⟩ : ∃ m, k = m + 1 := ⟨k - 1, by omega⟩
    have h1 : ((i : Int) < 8) := by omega
    have h0 : (0 : Int) ≤ i := by omega
    have hw : IntKind.i64.wrap ((i : Int) + 1) = ((i + 1 : Nat) : Int) := by rw [wrap64 (by omega)]; rfl
    have hr : room (acc.length + 1) 8 := by unfold room; omega
    simp only [C30_3, h1, h0, decide_true, cond_true, true_and, hw, Hold_eq, bit8 ha (by omega : i ≤ 7), List.length_cons, List.length_nil, Nat.zero_add, hr, from_]
    cases hb : a.testBit i with
    | true =>
      simp only [cond_true, if_true]
      rw [ih (i + 1) k _ K (by omega) (by simp; omega) (by omega), List.append_assoc]
      rfl
    | false =>
      simp only [cond_false]
      rw [ih (i + 1) k _ K (by omega) (by omega) (by omega)]
      rfl
theorem F30_s (k a : Nat) (K : List Int → Prop) (ha : a < 256) (hk : 20 ≤ k) : F30 k (a : Int) K = K (listN a) := by
  obtain ⟨k, rfl⟩ : ∃ m, k = m + 1 := ⟨k - 1, by omega⟩
  simp only [F30, Hold_eq]
  exact C30_3_s a ha 8 0 k [] K rfl (by simp) (by omega)

-- two lists, compared
theorem drop_cons {l : List Int} {j : Nat} (h : j < l.length) : l.drop j = l[j] :: l.drop (j + 1) := (List.getElem_cons_drop h).symm
theorem getD_at {l : List Int} {j : Nat} (h : j < l.length) : l.getD j 0 = l[j] := by simp [List.getD, h]
theorem C36_4_s (a b : List Int) (hl : a.length = b.length) (hn : a.length < 1000000) : ∀ (n j k : Nat) (K : Bool → Prop), j + n = a.length → n + 1 ≤ k → C36_4 k a b (a.length : Int) (j : Int) K = K (decide (a.drop j = b.drop j)) := by
  intro n
  induction n with
  | zero =>
    intro j k K hj hk
    obtain ⟨k, rfl⟩ : ∃ m, k = m + 1 := ⟨k - 1, by omega⟩
    have : ¬ ((j : Int) < (a.length : Int)) := by omega
    simp only [C36_4, this, decide_false, cond_false]
    rw [List.drop_of_length_le (by omega), List.drop_of_length_le (by omega)]; simp
  | succ n ih =>
    intro j k K hj hk
    obtain ⟨k, rfl⟩ : ∃ m, k = m + 1 := ⟨k - 1, by omega⟩
    have h1 : ((j : Int) < (a.length : Int)) := by omega
    have h2 : ((j : Int) < (b.length : Int)) := by omega
    have h0 : (0 : Int) ≤ j := by omega
    have hw : IntKind.i64.wrap ((j : Int) + 1) = ((j + 1 : Nat) : Int) := by rw [wrap64 (by omega)]; rfl
    have ha : j < a.length := by omega
    have hb : j < b.length := by omega
    simp only [C36_4, h1, h2, h0, decide_true, cond_true, true_and, Int.toNat_natCast, getD_at ha, getD_at hb, hw, Hold_eq, drop_cons ha, drop_cons hb, List.cons.injEq]
    by_cases e : a[j] = b[j]
    · simp only [e, decide_true, Bool.not_true, cond_false, true_and]
      exact ih (j + 1) k K (by omega) (by omega)
    · simp only [e, decide_false, Bool.not_false, cond_true, false_and]
theorem F36_s (k : Nat) (a b : List Int) (K : Bool → Prop) (hn : a.length < 1000000) (hk : a.length + 3 ≤ k) : F36 k a b K = K (decide (a = b)) := by
  obtain ⟨k, rfl⟩ : ∃ m, k = m + 1 := ⟨k - 1, by omega⟩
  simp only [F36, Hold_eq]
  by_cases h : a.length = b.length
  · simp only [h, decide_true, Bool.not_true, cond_false]
    rw [← h]
    exact C36_4_s a b h hn a.length 0 k K (by omega) (by omega)
  · have h2 : ¬ ((a.length : Int) = (b.length : Int)) := by omega
    have h3 : ¬ (a = b) := fun e => h (by rw [e])
    simp only [h2, h3, decide_false, Bool.not_false, cond_true]
theorem C34_4_s (a b : List Int) (hl : a.length = b.length) (hn : a.length < 1000000) : ∀ (n j k : Nat) (K : Bool → Prop), j + n = a.length → n + 1 ≤ k → C34_4 k a b (j : Int) K = K (decide (a.drop j = b.drop j)) := by
  intro n
  induction n with
  | zero =>
    intro j k K hj hk
    obtain ⟨k, rfl⟩ : ∃ m, k = m + 1 := ⟨k - 1, by omega⟩
    have : ¬ ((j : Int) < (a.length : Int)) := by omega
    simp only [C34_4, this, decide_false, cond_false]
    rw [List.drop_of_length_le (by omega), List.drop_of_length_le (by omega)]; simp
  | succ n ih =>
    intro j k K hj hk
    obtain ⟨k, rfl⟩ : ∃ m, k = m + 1 := ⟨k - 1, by omega⟩
    have h1 : ((j : Int) < (a.length : Int)) := by omega
    have h2 : ((j : Int) < (b.length : Int)) := by omega
    have h0 : (0 : Int) ≤ j := by omega
    have hw : IntKind.i64.wrap ((j : Int) + 1) = ((j + 1 : Nat) : Int) := by rw [wrap64 (by omega)]; rfl
    have ha : j < a.length := by omega
    have hb : j < b.length := by omega
    simp only [C34_4, h1, h2, h0, decide_true, cond_true, true_and, Int.toNat_natCast, getD_at ha, getD_at hb, hw, Hold_eq, drop_cons ha, drop_cons hb, List.cons.injEq]
    by_cases e : a[j] = b[j]
    · simp only [e, decide_true, Bool.not_true, cond_false, true_and]
      exact ih (j + 1) k K (by omega) (by omega)
    · simp only [e, decide_false, Bool.not_false, cond_true, false_and]
theorem F34_s (k : Nat) (a b : List Int) (K : Bool → Prop) (hn : a.length < 1000000) (hk : a.length + 3 ≤ k) : F34 k a b K = K (decide (a = b)) := by
  obtain ⟨k, rfl⟩ : ∃ m, k = m + 1 := ⟨k - 1, by omega⟩
  simp only [F34, Hold_eq]
  by_cases h : a.length = b.length
  · simp only [h, decide_true, Bool.not_true, cond_false]
    exact C34_4_s a b h hn a.length 0 k K (by omega) (by omega)
  · have h2 : ¬ ((a.length : Int) = (b.length : Int)) := by omega
    have h3 : ¬ (a = b) := fun e => h (by rw [e])
    simp only [h2, h3, decide_false, Bool.not_false, cond_true]

-- is a number in a list?
theorem C31_2_s (l : List Int) (x : Int) (hn : l.length < 1000000) : ∀ (n j k : Nat) (K : Bool → Prop), j + n = l.length → n + 1 ≤ k → C31_2 k l x (j : Int) K = K (decide (x ∈ l.drop j)) := by
  intro n
  induction n with
  | zero =>
    intro j k K hj hk
    obtain ⟨k, rfl⟩ : ∃ m, k = m + 1 := ⟨k - 1, by omega⟩
    have : ¬ ((j : Int) < (l.length : Int)) := by omega
    simp only [C31_2, this, decide_false, cond_false]
    rw [List.drop_of_length_le (by omega)]; simp
  | succ n ih =>
    intro j k K hj hk
    obtain ⟨k, rfl⟩ : ∃ m, k = m + 1 := ⟨k - 1, by omega⟩
    have h1 : ((j : Int) < (l.length : Int)) := by omega
    have h0 : (0 : Int) ≤ j := by omega
    have hw : IntKind.i64.wrap ((j : Int) + 1) = ((j + 1 : Nat) : Int) := by rw [wrap64 (by omega)]; rfl
    have ha : j < l.length := by omega
    simp only [C31_2, h1, h0, decide_true, cond_true, true_and, Int.toNat_natCast, getD_at ha, hw, Hold_eq, drop_cons ha, List.mem_cons]
    by_cases e : l[j] = x
    · simp only [e, decide_true, cond_true, true_or]
    · have e2 : ¬ x = l[j] := fun h => e h.symm
      simp only [e, e2, decide_false, cond_false, false_or]
      exact ih (j + 1) k K (by omega) (by omega)
theorem F31_s (k : Nat) (l : List Int) (x : Int) (K : Bool → Prop) (hn : l.length < 1000000) (hk : l.length + 3 ≤ k) : F31 k l x K = K (decide (x ∈ l)) := by
  obtain ⟨k, rfl⟩ : ∃ m, k = m + 1 := ⟨k - 1, by omega⟩
  simp only [F31, Hold_eq]
  exact C31_2_s l x hn l.length 0 k K (by omega) (by omega)

-- a list without a number
def wo (x : Int) (l : List Int) : List Int := l.filter fun y => !decide (y = x)
theorem C32_3_s (l : List Int) (x : Int) (hn : l.length < 1000000) : ∀ (n j k : Nat) (acc : List Int) (K : List Int → Prop), j + n = l.length → acc.length ≤ j → n + 1 ≤ k → C32_3 k l x (j : Int) acc K = K (acc ++ wo x (l.drop j)) := by
  intro n
  induction n with
  | zero =>
    intro j k acc K hj hacc hk
    obtain ⟨k, rfl⟩ : ∃ m, k = m + 1 := ⟨k - 1, by omega⟩
    have : ¬ ((j : Int) < (l.length : Int)) := by omega
    simp only [C32_3, this, decide_false, cond_false]
    rw [List.drop_of_length_le (by omega)]; simp [wo]
  | succ n ih =>
    intro j k acc K hj hacc hk
    obtain ⟨k, rfl⟩ : ∃ m, k = m + 1 := ⟨k - 1, by omega⟩
    have h1 : ((j : Int) < (l.length : Int)) := by omega
    have h0 : (0 : Int) ≤ j := by omega
    have hw : IntKind.i64.wrap ((j : Int) + 1) = ((j + 1 : Nat) : Int) := by rw [wrap64 (by omega)]; rfl
    have ha : j < l.length := by omega
    have hr : room (acc.length + 1) 8 := by unfold room; omega
    simp only [C32_3, h1, h0, decide_true, cond_true, true_and, Int.toNat_natCast, getD_at ha, hw, Hold_eq, drop_cons ha, List.length_cons, List.length_nil, Nat.zero_add, hr, wo, List.filter_cons]
    by_cases e : l[j] = x
    · simp only [e, decide_true, Bool.not_true, cond_false]
      rw [ih (j + 1) k acc K (by omega) (by omega) (by omega)]
      simp [wo]
    · simp only [e, decide_false, Bool.not_false, cond_true, if_true]
      rw [ih (j + 1) k _ K (by omega) (by simp; omega) (by omega), List.append_assoc]
      rfl
theorem F32_s (k : Nat) (l : List Int) (x : Int) (K : List Int → Prop) (hn : l.length < 1000000) (hk : l.length + 3 ≤ k) : F32 k l x K = K (wo x l) := by
  obtain ⟨k, rfl⟩ : ∃ m, k = m + 1 := ⟨k - 1, by omega⟩
  simp only [F32, Hold_eq]
  exact C32_3_s l x hn l.length 0 k [] K (by omega) (by simp) (by omega)

-- a list with a number, rising
def with_ (l : List Int) (x : Int) : (n i : Nat) → List Int
  | 0, _ => []
  | n + 1, i => if (i : Int) = x ∨ (i : Int) ∈ l then (i : Int) :: with_ l x n (i + 1) else with_ l x n (i + 1)
def withN (l : List Int) (x : Int) : List Int := with_ l x 7 1
theorem with_mem (l : List Int) (x : Int) : ∀ (n i : Nat) (y : Int), y ∈ with_ l x n i ↔ ∃ j : Nat, y = j ∧ i ≤ j ∧ j < i + n ∧ ((j : Int) = x ∨ (j : Int) ∈ l)
  | 0, i, y => by simp [with_]; intro j _ h1 h2; omega
  | n + 1, i, y => by
    have ih := with_mem l x n (i + 1) y
    unfold with_
    split
    · rename_i h
      rw [List.mem_cons, ih]
      constructor
      · rintro (rfl | ⟨j, h1, h2, h3, h4⟩)
        · exact ⟨i, rfl, Nat.le_refl _, by omega, h⟩
        · exact ⟨j, h1, by omega, by omega, h4⟩
      · rintro ⟨j, h1, h2, h3, h4⟩
        by_cases e : j = i
        · exact .inl (by rw [h1, e])
        · exact .inr ⟨j, h1, by omega, by omega, h4⟩
    · rename_i h
      rw [ih]
      constructor
      · rintro ⟨j, h1, h2, h3, h4⟩
        exact ⟨j, h1, by omega, by omega, h4⟩
      · rintro ⟨j, h1, h2, h3, h4⟩
        have : j ≠ i := by rintro rfl; exact h h4
        exact ⟨j, h1, by omega, by omega, h4⟩
theorem with_sorted (l : List Int) (x : Int) : ∀ (n i : Nat), (with_ l x n i).Pairwise (· < ·)
  | 0, i => by simp [with_]
  | n + 1, i => by
    have ih := with_sorted l x n (i + 1)
    unfold with_
    split
    · refine List.pairwise_cons.2 ⟨fun y hy => ?_, ih⟩
      obtain ⟨j, h1, h2, -⟩ := (with_mem l x n (i + 1) y).1 hy
      omega
    · exact ih
theorem with_length (l : List Int) (x : Int) : ∀ n i, (with_ l x n i).length ≤ n
  | 0, i => by simp [with_]
  | n + 1, i => by
    have := with_length l x n (i + 1)
    unfold with_
    split <;> simp <;> omega
theorem C33_3_s (l : List Int) (x : Int) (hn : l.length < 1000000) : ∀ (n i k : Nat) (acc : List Int) (K : List Int → Prop), i + n = 8 → acc.length ≤ i → n + l.length + 4 ≤ k → C33_3 k l x (i : Int) acc K = K (acc ++ with_ l x n i) := by
  intro n
  induction n with
  | zero =>
    intro i k acc K hi hacc hk
    obtain ⟨k, rfl⟩ : ∃ m, k = m + 1 := ⟨k - 1, by omega⟩
    have : ¬ ((i : Int) ≤ 7) := by omega
    simp only [C33_3, this, decide_false, cond_false, with_, List.append_nil]
  | succ n ih =>
    intro i k acc K hi hacc hk
    obtain ⟨k, rfl⟩ : ∃ m, k = m + 1 := ⟨k - 1, by omega⟩
    have h1 : ((i : Int) ≤ 7) := by omega
    have hw : IntKind.i64.wrap ((i : Int) + 1) = ((i + 1 : Nat) : Int) := by rw [wrap64 (by omega)]; rfl
    have hr : room (acc.length + 1) 8 := by unfold room; omega
    simp only [C33_3, h1, decide_true, cond_true, hw, Hold_eq, List.length_cons, List.length_nil, Nat.zero_add, hr, true_and, F31_s k l _ _ hn (by omega), with_]
    have ih' := fun acc h => ih (i + 1) k acc K (by omega) h (by omega)
    by_cases e : (i : Int) = x
    · simp only [e, decide_true, cond_true, true_or, if_true]
      rw [ih' _ (by simp; omega), List.append_assoc]
      rfl
    · by_cases e2 : (i : Int) ∈ l
      · simp only [e, e2, decide_true, decide_false, cond_true, cond_false, or_true, if_true]
        rw [ih' _ (by simp; omega), List.append_assoc]
        rfl
      · simp only [e, e2, decide_false, cond_false, or_self, if_false]
        exact ih' _ (by omega)
theorem F33_s (k : Nat) (l : List Int) (x : Int) (K : List Int → Prop) (hn : l.length < 1000000) (hk : l.length + 20 ≤ k) : F33 k l x K = K (withN l x) := by
  obtain ⟨k, rfl⟩ : ∃ m, k = m + 1 := ⟨k - 1, by omega⟩
  simp only [F33, Hold_eq]
  exact C33_3_s l x hn 7 1 k [] K rfl (by simp) (by omega)
end Go.V
