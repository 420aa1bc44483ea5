/- V: paths' bits, as plain functions. -/
import Derived.Test.YtepdmpjmlfeanaaDoorVShaM
set_option linter.unusedVariables false
set_option linter.unusedSimpArgs false
namespace Go.V
/-- a path's bit -/
def bitN (p : List Int) (i : Nat) : Nat := (p.getD (i / 8) 0).toNat / 2 ^ (7 - i % 8) % 2
def comGo (a b : List Int) : Nat → Nat → Nat
  | 0, n => n
  | m + 1, n => if bitN a n = bitN b n then comGo a b m (n + 1) else n
/-- how many bits two paths have in common -/
def commonL (a b : List Int) : Nat := comGo a b 256 0
theorem bitN_lt (p : List Int) (i : Nat) : bitN p i < 2 := Nat.mod_lt _ (by decide)
theorem comGo_le (a b : List Int) : ∀ (m n : Nat), n ≤ comGo a b m n ∧ comGo a b m n ≤ n + m
  | 0, n => ⟨Nat.le_refl _, Nat.le_refl _⟩
  | m + 1, n => by
    unfold comGo
    split
    · have := comGo_le a b m (n + 1); omega
    · omega
theorem comGo_skip {a b : List Int} : ∀ (j m n : Nat), j ≤ m → (∀ t, t < j → bitN a (n + t) = bitN b (n + t)) → comGo a b m n = comGo a b (m - j) (n + j)
  | 0, m, n, _, _ => rfl
  | j + 1, m, n, hj, h => by
    obtain ⟨m, rfl⟩ : ∃ q, m = q + 1 := ⟨m - 1, by omega⟩
    have h0 : bitN a n = bitN b n := h 0 (by omega)
    rw [comGo, if_pos h0, comGo_skip j m (n + 1) (by omega) fun t ht => by
      have := h (t + 1) (by omega)
      rwa [show n + (t + 1) = n + 1 + t by omega] at this]
    congr 1 <;> omega
theorem comGo_stop {a b : List Int} {m n : Nat} (h : bitN a n ≠ bitN b n) : comGo a b m n = n := by
  cases m with
  | zero => rfl
  | succ m => rw [comGo, if_neg h]
theorem xor8 {a b : Int} (ha : 0 ≤ a ∧ a ≤ 255) (hb : 0 ≤ b ∧ b ≤ 255) : ixor .u8 a b = ((a.toNat ^^^ b.toNat : Nat) : Int) ∧ a.toNat ^^^ b.toNat < 256 := by
  obtain ⟨a, rfl⟩ := Int.eq_ofNat_of_zero_le ha.1
  obtain ⟨b, rfl⟩ := Int.eq_ofNat_of_zero_le hb.1
  have h : a ^^^ b < 256 := Nat.xor_lt_two_pow (n := 8) (by omega) (by omega)
  refine ⟨?_, h⟩
  show IntKind.u8.wrap ((BitVec.ofInt 8 (a : Int) ^^^ BitVec.ofInt 8 (b : Int)).toNat : Int) = _
  simp only [BitVec.ofInt_natCast, BitVec.toNat_xor, BitVec.toNat_ofNat, Int.toNat_natCast]
  rw [Nat.mod_eq_of_lt (by omega : a < 2 ^ 8), Nat.mod_eq_of_lt (by omega : b < 2 ^ 8), wrap8 (by omega)]
theorem div2_tb (x k : Nat) : x / 2 ^ k % 2 = (x.testBit k).toNat := by
  rw [Nat.testBit_eq_decide_div_mod_eq]
  rcases Nat.mod_two_eq_zero_or_one (x / 2 ^ k) with h | h <;> rw [h] <;> rfl
theorem div2_xor (x y k : Nat) : (x ^^^ y) / 2 ^ k % 2 = 0 ↔ x / 2 ^ k % 2 = y / 2 ^ k % 2 := by
  rw [div2_tb, div2_tb, div2_tb, Nat.testBit_xor]
  cases x.testBit k <;> cases y.testBit k <;> simp
theorem bitN_byte (p : List Int) (i j : Nat) (hj : j < 8) : bitN p (8 * i + j) = (p.getD i 0).toNat / 2 ^ (7 - j) % 2 := by
  unfold bitN
  rw [show (8 * i + j) / 8 = i by omega, show (8 * i + j) % 8 = j by omega]
/-- a byte's leading zeros -/
structure Lz (x z : Nat) : Prop where
  lt : z < 8
  zero : ∀ j, j < z → x / 2 ^ (7 - j) % 2 = 0
  one : x / 2 ^ (7 - z) % 2 = 1
theorem com_same {a b : List Int} {i m : Nat} (h : a.getD i 0 = b.getD i 0) : comGo a b (m + 8) (8 * i) = comGo a b m (8 * (i + 1)) := by
  rw [comGo_skip 8 (m + 8) (8 * i) (by omega) fun t ht => by rw [bitN_byte _ _ _ ht, bitN_byte _ _ _ ht, h]]
  congr 1
theorem com_diff {a b : List Int} {i m z : Nat} (h : Lz ((a.getD i 0).toNat ^^^ (b.getD i 0).toNat) z) : comGo a b (m + 8) (8 * i) = 8 * i + z := by
  have hz := h.lt
  rw [comGo_skip z (m + 8) (8 * i) (by omega) fun t ht => by
    rw [bitN_byte _ _ _ (by omega), bitN_byte _ _ _ (by omega)]
    exact (div2_xor _ _ _).1 (h.zero t ht)]
  refine comGo_stop fun e => ?_
  rw [bitN_byte _ _ _ hz, bitN_byte _ _ _ hz] at e
  have := (div2_xor _ _ _).2 e
  rw [h.one] at this
  cases this
theorem mask_bit {x : Int} {j : Nat} (hx : 0 ≤ x ∧ x ≤ 255) (hj : j ≤ 7) : (iand .u8 x (ishl .u8 1 (j : Int)) = 0) ↔ x.toNat / 2 ^ j % 2 = 0 := by
  obtain ⟨x, rfl⟩ := Int.eq_ofNat_of_zero_le hx.1
  have e1 : ishl .u8 1 (j : Int) = ((2 ^ j : Nat) : Int) := by
    have : j = 0 ∨ j = 1 ∨ j = 2 ∨ j = 3 ∨ j = 4 ∨ j = 5 ∨ j = 6 ∨ j = 7 := by omega
    rcases this with rfl | rfl | rfl | rfl | rfl | rfl | rfl | rfl <;> rfl
  have hp : 2 ^ j ≤ 2 ^ 7 := Nat.pow_le_pow_right (by decide) hj
  have e2 : iand .u8 (x : Int) ((2 ^ j : Nat) : Int) = ((x &&& 2 ^ j : Nat) : Int) := by
    have h : x &&& 2 ^ j < 256 := Nat.lt_of_le_of_lt Nat.and_le_left (by omega)
    show IntKind.u8.wrap ((BitVec.ofInt 8 (x : Int) &&& BitVec.ofInt 8 ((2 ^ j : Nat) : Int)).toNat : Int) = _
    simp only [BitVec.ofInt_natCast, BitVec.toNat_and, BitVec.toNat_ofNat]
    rw [Nat.mod_eq_of_lt (by omega : x < 2 ^ 8), Nat.mod_eq_of_lt (by omega : 2 ^ j < 2 ^ 8), wrap8 (by omega)]
  rw [e1, e2, Int.toNat_natCast, div2_tb]
  have e3 : x &&& 2 ^ j = (x.testBit j).toNat * 2 ^ j := by
    apply Nat.eq_of_testBit_eq
    intro i
    rw [Nat.testBit_and, Nat.testBit_two_pow]
    by_cases h : j = i
    · subst h
      cases x.testBit j <;> simp
    · cases hb : x.testBit j <;> simp [h, Nat.testBit_two_pow]
  rw [e3]
  have : 0 < 2 ^ j := Nat.two_pow_pos j
  cases x.testBit j
  · simp
  · have h2 : ((2 : Int) ^ j = 0) ↔ False := by
      refine ⟨fun h => ?_, False.elim⟩
      have : ((2 ^ j : Nat) : Int) = 0 := by rw [Int.natCast_pow]; exact h
      omega
    simp [h2]

-- trees' digests
/-- the first w bytes of the sum -/
def shortL (w : Nat) (m : List Int) : List Int := (shaL m).take w ++ List.replicate (32 - w) 0
theorem shortL_dig {w : Nat} (hw : w ≤ 32) (m : List Int) : Dig (shortL w m) := by
  refine ⟨by unfold shortL; rw [List.length_append, List.length_take, (shaL_dig m).1, List.length_replicate]; omega, ?_⟩
  exact ((shaL_dig m).2.take w).append fun x hx => by have := List.eq_of_mem_replicate hx; omega
/-- what is summed for a knot -/
def nodeB (l r : List Int) : List Int := 1 :: (l ++ r)
def leafB (p v : List Int) : List Int := 0 :: (p ++ v)
theorem nodeB_B8 {l r : List Int} (hl : Dig l) (hr : Dig r) : B8 (nodeB l r) ∧ (nodeB l r).length = 65 :=
  ⟨B8.cons (by decide) (hl.2.append hr.2), by simp [nodeB, hl.1, hr.1]⟩
theorem leafB_B8 {l r : List Int} (hl : Dig l) (hr : Dig r) : B8 (leafB l r) ∧ (leafB l r).length = 65 :=
  ⟨B8.cons (by decide) (hl.2.append hr.2), by simp [leafB, hl.1, hr.1]⟩
end Go.V
