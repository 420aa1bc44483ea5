/- what the proofs' checks and their document compute -/
import Derived.Test.YtepdmpjmlfeanaaDoorVD16P
import Derived.Test.YtepdmpjmlfeanaaDoorVJ11
set_option linter.unusedVariables false
set_option linter.unusedSimpArgs false
set_option maxRecDepth 4000
namespace Go.V
/-- a proof: its siblings, its other -/
def plainP (o : Bool) (p v : List Int) : Bool := o || (decide (p = z32) && decide (v = z32))
theorem bytes_loop {l : List (List Int)} (hl : ∀ d ∈ l, Dig d) (hn : l.length ≤ 1000) : ∀ (m j k : Nat) (acc : List Int) {K : List Int → Prop}, j + m = l.length → m + 1 ≤ k → acc.length + 32 * m ≤ 1000000000 → K (acc ++ (l.drop j).flatten) →
    C_proof_bytes_3 k l (l.length : Int) (j : Int) acc K := by
  intro m
  induction m with
  | zero =>
    intro j k acc K hj hk ha h
    obtain ⟨k, rfl⟩ : ∃ m, k = m + 1 := ⟨k - 1, by omega⟩
    simp only [C_proof_bytes_3, Hold_eq]
    refine cond_dec (fun h1 => by omega) (fun h1 => ?_)
    rw [List.drop_of_length_le (by omega)] at h
    simpa using h
  | succ m ih =>
    intro j k acc K hj hk ha h
    obtain ⟨k, rfl⟩ : ∃ m, k = m + 1 := ⟨k - 1, by omega⟩
    simp only [C_proof_bytes_3, Hold_eq]
    refine cond_dec (fun h1 => ?_) (fun h1 => by omega)
    have hj2 : j < l.length := by omega
    have hd := hl l[j] (List.getElem_mem hj2)
    have e : cut (l.getD (Int.toNat (j : Int)) z32) (Int.toNat 0) (Int.toNat (32 - 0)) = l[j] := by
      rw [Int.toNat_natCast, getD_at hj2]
      exact cut_all _ (by rw [hd.1]; decide)
    refine ⟨by omega, by decide, ?_, ?_⟩
    · rw [e]; unfold room; rw [hd.1]; omega
    · rw [e, wrap64 (by omega)]
      have := ih (j + 1) k (acc ++ l[j]) (K := K) (by omega) (by omega) (by simp [hd.1]; omega) (by rw [drop_cons hj2] at h; simpa only [List.flatten_cons, List.append_assoc] using h)
      exact this
theorem proof_bytes_s (k : Nat) (mark : Int) (l : List (List Int)) {K : List Int → Prop} (hl : ∀ d ∈ l, Dig d) (hk : l.length + 2 ≤ k) (hn : l.length ≤ 1000) (h : K (mark :: l.flatten)) : F_proof_bytes k mark l K := by
  obtain ⟨k, rfl⟩ : ∃ m, k = m + 1 := ⟨k - 1, by omega⟩
  simp only [F_proof_bytes, Hold_eq]
  exact bytes_loop hl hn l.length 0 k [mark] (by omega) (by omega) (by simp; omega) (by simpa using h)

-- the first bytes of a sum
theorem smt_Short_s (k : Nat) {W : Nat} {m : List Int} {K : List Int → Int → Prop} (hW : W ≤ 32) (hm : m.length ≤ 1000000000) (hk : m.length + 3010 ≤ k) (h : K (shortL W m) 0) : F_smt_Short k (W : Int) m K := by
  obtain ⟨k, rfl⟩ : ∃ m, k = m + 1 := ⟨k - 1, by omega⟩
  rw [F_smt_Short]
  simp only [Hold_eq]
  refine width_s k (by omega) ?_
  rw [decide_eq_true (by omega), Bool.not_true, cond_false]
  exact sha_Sum_s k hm (by omega) (smt_short_s k hW (shaL_dig m).1 (by omega) h)
theorem pEmpty_s (k : Nat) {W : Nat} {K : List Int → Prop} (hW : W ≤ 32) (hk : 3010 ≤ k) (h : K (shortL W [2])) : F_smt_Empty k (W : Int) K := by
  obtain ⟨k, rfl⟩ : ∃ m, k = m + 2 := ⟨k - 2, by omega⟩
  rw [F_smt_Empty]
  simp only [Hold_eq]
  rw [F_smt_summed]
  simp only [Hold_eq]
  refine sha_New_s k (by omega) (Write_s k New_inv (by simp) (by simp; omega) fun ws' bl' n' I' => ?_)
  obtain ⟨k, rfl⟩ : ∃ m, k = m + 1 := ⟨k - 1, by omega⟩
  rw [C_smt_summed_4]
  simp only [Hold_eq]
  refine cond_dec (fun h1 => by simp at h1) (fun h1 => ?_)
  exact Sum_s k (m := [2]) (by simpa using I') (by simp) (by omega) (smt_short_s k hW (shaL_dig _).1 (by omega) h)

-- a path's bits
theorem pright_s (k : Nat) {p : List Int} {i : Nat} {K : Bool → Prop} (hp : Dig p) (hi : i < 256) (hk : 3 ≤ k) (h : K (decide (bitN p i = 1))) : F_proof_right k p (i : Int) K := by
  obtain ⟨k, rfl⟩ : ∃ m, k = m + 1 := ⟨k - 1, by omega⟩
  rw [F_proof_right]
  simp only [Hold_eq]
  refine path_Bit_s k hp hi (by omega) ?_
  rw [decide_eq_decide.2 (by omega : ((bitN p i : Nat) : Int) = 1 ↔ bitN p i = 1)]
  exact h
-- a byte's leading zeros
def lzOk (x : Nat) : Bool := x == 0 || ((List.range 8).any fun z => decide (bt str0 x = 8 - (z : Int)) && ((List.range z).all fun j => x / 2 ^ (7 - j) % 2 == 0) && x / 2 ^ (7 - z) % 2 == 1)
theorem lz_all : ((List.range 256).all lzOk) = true := by decide +kernel
theorem lz_at {x : Nat} (h : x < 256) (h0 : x ≠ 0) : ∃ z : Nat, bt str0 x = 8 - (z : Int) ∧ Lz x z := by
  have := List.all_eq_true.1 lz_all x (List.mem_range.2 h)
  unfold lzOk at this
  rw [Bool.or_eq_true] at this
  rcases this with g | g
  · exact absurd (by simpa using g) h0
  · obtain ⟨z, hz, g⟩ := List.any_eq_true.1 g
    simp only [Bool.and_eq_true, decide_eq_true_eq, List.all_eq_true, List.mem_range, beq_iff_eq] at g hz
    exact ⟨z, g.1.1, hz, g.1.2, g.2⟩
theorem LeadingZeros8_s (k : Nat) {x : Nat} {K : Int → Prop} (hx : x < 256) (h0 : x ≠ 0) (hk : 2 ≤ k) (h : ∀ z : Nat, Lz x z → K ((z : Nat) : Int)) : F_math_bits_LeadingZeros8 k (x : Int) K := by
  obtain ⟨k, rfl⟩ : ∃ m, k = m + 2 := ⟨k - 2, by omega⟩
  rw [F_math_bits_LeadingZeros8]
  simp only [Hold_eq]
  rw [F_math_bits_Len8, Int.toNat_natCast]
  obtain ⟨z, hz, g⟩ := lz_at hx h0
  have hs : ByteArray.size str0 = 256 := by decide +kernel
  have hz8 := g.lt
  refine ⟨⟨by omega, by rw [hs]; omega⟩, ?_⟩
  rw [hz, wrap64 (n := 8 - (z : Int)) (by omega), wrap64 (by omega), show (8 : Int) - (8 - (z : Int)) = z by omega]
  exact h z g
theorem Common_loop {p q : List Int} (hp : Dig p) (hq : Dig q) : ∀ (m j k : Nat) {K : Int → Prop}, j + m = 32 → m + 20 ≤ k → K (comGo p q (8 * m) (8 * j)) → C_path_Common_2 k (j : Int) p q K := by
  intro m
  induction m with
  | zero =>
    intro j k K hj hk h
    obtain ⟨k, rfl⟩ : ∃ m, k = m + 1 := ⟨k - 1, by omega⟩
    rw [C_path_Common_2]
    refine cond_dec (fun h1 => by omega) (fun h1 => ?_)
    obtain rfl : j = 32 := by omega
    exact h
  | succ m ih =>
    intro j k K hj hk h
    obtain ⟨k, rfl⟩ : ∃ m, k = m + 1 := ⟨k - 1, by omega⟩
    rw [C_path_Common_2]
    simp only [Hold_eq]
    refine cond_dec (fun h1 => ?_) (fun h1 => by omega)
    refine ⟨by omega, by omega, ?_⟩
    rw [step64 j (by omega), Int.toNat_natCast]
    have hj1 : j < p.length := by rw [hp.1]; omega
    have hj2 : j < q.length := by rw [hq.1]; omega
    have hx := hp.2 p[j] (List.getElem_mem hj1)
    have hy := hq.2 q[j] (List.getElem_mem hj2)
    have e1 : p.getD j 0 = p[j] := getD_at hj1
    have e2 : q.getD j 0 = q[j] := getD_at hj2
    obtain ⟨e3, e4⟩ := xor8 hx hy
    rw [e1, e2, e3]
    refine cond_ndec (fun h2 => ?_) (fun h2 => ?_)
    · refine LeadingZeros8_s k e4 (by omega) (by omega) fun z hz => ?_
      have := hz.lt
      rw [show 8 * (m + 1) = 8 * m + 8 by omega, com_diff (z := z) (by rw [e1, e2]; exact hz)] at h
      rw [wrap64 (n := 8 * (j : Int)) (by omega), wrap64 (by omega)]
      exact h
    · refine ih (j + 1) k (by omega) (by omega) ?_
      have : p[j] = q[j] := by
        have h3 : p[j].toNat ^^^ q[j].toNat = 0 := by omega
        have h4 : p[j].toNat = q[j].toNat := by
          apply Nat.eq_of_testBit_eq
          intro i
          have := congrArg (fun n => Nat.testBit n i) h3
          simp only [Nat.testBit_xor, Nat.zero_testBit] at this
          revert this
          cases p[j].toNat.testBit i <;> cases q[j].toNat.testBit i <;> simp
        omega
      rw [show 8 * (m + 1) = 8 * m + 8 by omega, com_same (by rw [e1, e2, this])] at h
      exact h
theorem Common_s (k : Nat) {p q : List Int} {K : Int → Prop} (hp : Dig p) (hq : Dig q) (hk : 300 ≤ k) (h : K (commonL p q)) : F_path_Common k p q K := by
  obtain ⟨k, rfl⟩ : ∃ m, k = m + 1 := ⟨k - 1, by omega⟩
  rw [F_path_Common]
  simp only [Hold_eq]
  exact Common_loop hp hq 32 0 k (by omega) (by omega) h
end Go.V
