/- what octet, its document and the proofs' encoding compute -/
import Derived.Test.YtepdmpjmlfeanaaVC06F
import Derived.Test.YtepdmpjmlfeanaaVLib
set_option linter.unusedVariables false
set_option linter.unusedSimpArgs false
set_option maxRecDepth 4000
namespace Go.V

/-- the groups of a count -/
def grp (n : Nat) : List Int := if h : n < 128 then [(n : Int)] else ((128 + n % 128 : Nat) : Int) :: grp (n / 128)
termination_by n
decreasing_by omega
theorem grp_small {n : Nat} (h : n < 128) : grp n = [(n : Int)] := by rw [grp, dif_pos h]
theorem grp_big {n : Nat} (h : ¬ n < 128) : grp n = ((128 + n % 128 : Nat) : Int) :: grp (n / 128) := by rw [grp, dif_neg h]
theorem grp_len : ∀ (r n : Nat), n < 128 ^ (r + 1) → (grp n).length ≤ r + 1 ∧ 1 ≤ (grp n).length
  | 0, n, h => by rw [grp_small (by simpa using h)]; simp
  | r + 1, n, h => by
    by_cases h1 : n < 128
    · rw [grp_small h1]; simp
    · rw [grp_big h1]
      have := grp_len r (n / 128) (by rw [Nat.div_lt_iff_lt_mul (by omega)]; rw [Nat.pow_succ] at h; exact h)
      simp; omega
theorem grp_B8 : ∀ (n : Nat), B8 (grp n) := by
  intro n
  induction n using Nat.strongRecOn with
  | _ n ih =>
    by_cases h : n < 128
    · rw [grp_small h]; exact B8.cons (by omega) B8.nil
    · rw [grp_big h]; exact B8.cons (by omega) (ih _ (by omega))
theorem grp_mod {n : Nat} : Int.tmod (n : Int) 128 = ((n % 128 : Nat) : Int) := by rfl
theorem grp_div {n : Nat} : Int.tdiv (n : Int) 128 = ((n / 128 : Nat) : Int) := by rfl

theorem r01_Groups_s : ∀ (n k : Nat) {K : List Int → Prop}, n < 4294967296 → n + 1 ≤ k → K (grp n) → F_r01_Groups k (n : Int) K := by
  intro n
  induction n using Nat.strongRecOn with
  | _ n ih =>
    intro k K hn hk h
    obtain ⟨k, rfl⟩ : ∃ m, k = m + 1 := ⟨k - 1, by omega⟩
    simp only [F_r01_Groups, Hold_eq]
    refine cond_dec (fun h1 => ?_) (fun h1 => ?_)
    · rw [grp_small (by omega)] at h
      rw [wrap8 (by omega)]
      exact h
    · rw [grp_big (by omega)] at h
      refine ⟨by decide, by decide, ?_⟩
      rw [grp_div, wrap64 (by omega), grp_mod, wrap64 (by omega), wrap8 (by omega)]
      refine ih (n / 128) (by omega) k (by omega) (by omega) ⟨?_, ?_⟩
      · have := grp_len 4 (n / 128) (by have : (128 : Nat) ^ 5 = 34359738368 := rfl; omega)
        unfold room
        simp
        omega
      · simpa using h

theorem bytes_loop {l : List (List Int)} (hl : ∀ d ∈ l, Dig d) (hn : l.length ≤ 1000) : ∀ (m j k : Nat) (acc : List Int) {K : List Int → Prop}, j + m = l.length → m + 1 ≤ k → acc.length + 32 * m ≤ 1000000000 → K (acc ++ (l.drop j).flatten) →
    C_proof_bytes_3 k l (l.length : Int) (j : Int) acc K := by
  intro m
  induction m with
  | zero =>
    intro j k acc K hj hk ha h
    obtain ⟨k, rfl⟩ : ∃ m, k = m + 1 := ⟨k - 1, by omega⟩
    simp only [C_proof_bytes_3, Hold_eq]
    refine cond_dec (fun h1 => by omega) (fun h1 => ?_)
    rw [List.drop_of_length_le (by omega)] at h
    simpa using h
  | succ m ih =>
    intro j k acc K hj hk ha h
    obtain ⟨k, rfl⟩ : ∃ m, k = m + 1 := ⟨k - 1, by omega⟩
    simp only [C_proof_bytes_3, Hold_eq]
    refine cond_dec (fun h1 => ?_) (fun h1 => by omega)
    have hj2 : j < l.length := by omega
    have hd := hl l[j] (List.getElem_mem hj2)
    have e : cut (l.getD (Int.toNat (j : Int)) z32) (Int.toNat 0) (Int.toNat (32 - 0)) = l[j] := by
      rw [Int.toNat_natCast, getD_at hj2]
      exact cut_all _ (by rw [hd.1]; decide)
    refine ⟨by omega, by decide, ?_, ?_⟩
    · rw [e]; unfold room; rw [hd.1]; omega
    · rw [e, wrap64 (by omega)]
      have := ih (j + 1) k (acc ++ l[j]) (K := K) (by omega) (by omega) (by simp [hd.1]; omega) (by rw [drop_cons hj2] at h; simpa only [List.flatten_cons, List.append_assoc] using h)
      exact this
theorem proof_bytes_s (k : Nat) (mark : Int) (l : List (List Int)) {K : List Int → Prop} (hl : ∀ d ∈ l, Dig d) (hk : l.length + 2 ≤ k) (hn : l.length ≤ 1000) (h : K (mark :: l.flatten)) : F_proof_bytes k mark l K := by
  obtain ⟨k, rfl⟩ : ∃ m, k = m + 1 := ⟨k - 1, by omega⟩
  simp only [F_proof_bytes, Hold_eq]
  exact bytes_loop hl hn l.length 0 k [mark] (by omega) (by omega) (by simp; omega) (by simpa using h)

-- a count is put
theorem groups_loop1 : ∀ (n k : Nat) (acc : List Int) {K : Int → List Int → Prop}, n < 4294967296 → 3 * n + 3 ≤ k → acc.length + n ≤ 10000000000 → (∀ m, K m (acc ++ grp n)) → C_octet_groups_1_0_1 k (n : Int) acc K := by
  intro n
  induction n using Nat.strongRecOn with
  | _ n ih =>
    intro k acc K hn hk ha h
    obtain ⟨k, rfl⟩ : ∃ m, k = m + 1 := ⟨k - 1, by omega⟩
    rw [C_octet_groups_1_0_1]
    simp only [Hold_eq]
    refine cond_dec (fun h1 => ?_) (fun h1 => ?_)
    · obtain ⟨k, rfl⟩ : ∃ m, k = m + 2 := ⟨k - 2, by omega⟩
      rw [grp_big (by omega)] at h
      have e1 : IntKind.i64.wrap (((n % 128 : Nat) : Int) + 128) = ((128 + n % 128 : Nat) : Int) := by rw [wrap64 (by omega)]; omega
      have e2 : IntKind.u8.wrap ((128 + n % 128 : Nat) : Int) = ((128 + n % 128 : Nat) : Int) := wrap8 (by omega)
      have e3 : IntKind.i64.wrap ((n / 128 : Nat) : Int) = ((n / 128 : Nat) : Int) := wrap64 (by omega)
      rw [C_octet_groups_1_1_1]
      simp only [Hold_eq, F_octet_PutCount_y5_s1, grp_mod, grp_div, e1, e2, e3]
      refine ⟨by decide, by unfold room; simp only [List.length_cons, List.length_nil]; omega, by decide, ?_⟩
      exact ih (n / 128) (by omega) (k + 1) (acc ++ [((128 + n % 128 : Nat) : Int)]) (by omega) (by omega) (by
        simp only [List.length_append, List.length_cons, List.length_nil]
        omega) (fun m => by
          rw [List.append_assoc]
          exact h m)
    · obtain ⟨k, rfl⟩ : ∃ m, k = m + 1 := ⟨k - 1, by omega⟩
      rw [grp_small (by omega)] at h
      have e2 : IntKind.u8.wrap (n : Int) = (n : Int) := wrap8 (by omega)
      simp only [F_octet_PutCount_y5_s1, e2]
      exact ⟨by unfold room; simp only [List.length_cons, List.length_nil]; omega, h _⟩
theorem groups_s (n k : Nat) (acc : List Int) {K : Int → List Int → Prop} (hn : n < 4294967296) (hk : 3 * n + 6 ≤ k) (ha : acc.length ≤ 1000000000) (h : ∀ m, K m (acc ++ grp n)) : F_octet_groups_1 k (n : Int) acc K := by
  obtain ⟨k, rfl⟩ : ∃ m, k = m + 2 := ⟨k - 2, by omega⟩
  rw [F_octet_groups_1, C_octet_groups_1_0]
  simp only [Hold_eq]
  refine cond_dec (fun h1 => ?_) (fun h1 => ?_)
  · obtain ⟨k, rfl⟩ : ∃ m, k = m + 2 := ⟨k - 2, by omega⟩
    rw [grp_big (by omega)] at h
    have e1 : IntKind.i64.wrap (((n % 128 : Nat) : Int) + 128) = ((128 + n % 128 : Nat) : Int) := by rw [wrap64 (by omega)]; omega
    have e2 : IntKind.u8.wrap ((128 + n % 128 : Nat) : Int) = ((128 + n % 128 : Nat) : Int) := wrap8 (by omega)
    have e3 : IntKind.i64.wrap ((n / 128 : Nat) : Int) = ((n / 128 : Nat) : Int) := wrap64 (by omega)
    rw [C_octet_groups_1_1]
    simp only [Hold_eq, F_octet_PutCount_y5, grp_mod, grp_div, e1, e2, e3]
    refine ⟨by decide, ⟨by unfold room; simp only [List.length_cons, List.length_nil]; omega, .inr (by simp)⟩, by decide, ?_⟩
    exact groups_loop1 (n / 128) (k + 1) (acc ++ [((128 + n % 128 : Nat) : Int)]) (by omega) (by omega) (by
      simp only [List.length_append, List.length_cons, List.length_nil]
      omega) (fun m => by
        rw [List.append_assoc]
        exact h m)
  · obtain ⟨k, rfl⟩ : ∃ m, k = m + 1 := ⟨k - 1, by omega⟩
    rw [grp_small (by omega)] at h
    have e2 : IntKind.u8.wrap (n : Int) = (n : Int) := wrap8 (by omega)
    simp only [F_octet_PutCount_y5, e2]
    exact ⟨⟨by unfold room; simp only [List.length_cons, List.length_nil]; omega, .inr (by simp)⟩, h _⟩
theorem PutCount_s (n k : Nat) (b : List Int) {K : List Int → Int → Prop} (hn : n ≤ 2147483647) (hk : 3 * n + 9 ≤ k) (hb : b.length ≤ 1000000000) (h : K (b ++ grp n) 0) : F_octet_PutCount k b (n : Int) K := by
  obtain ⟨k, rfl⟩ : ∃ m, k = m + 2 := ⟨k - 2, by omega⟩
  rw [F_octet_PutCount]
  simp only [Hold_eq]
  refine cond_dec (fun h1 => by omega) (fun h1 => cond_dec (fun h2 => by omega) (fun h2 => ?_))
  refine ⟨⟨by omega, by omega, trivial, by omega⟩, ?_⟩
  rw [F_octet_groups]
  rw [show cut b (Int.toNat 0) (Int.toNat ((b.length : Int) - 0)) = b from cut_all _ (by simp)]
  exact groups_s n (k + 1) b (by omega) (by omega) hb fun m => h
theorem PutDigest_s (k : Nat) (b d : List Int) {K : List Int → Prop} (hk : 1 ≤ k) (hd : Dig d) (hb : b.length ≤ 1000000000) (h : K (b ++ d)) : F_octet_PutDigest k b d K := by
  obtain ⟨k, rfl⟩ : ∃ m, k = m + 1 := ⟨k - 1, by omega⟩
  rw [F_octet_PutDigest]
  have e1 : cut b (Int.toNat 0) (Int.toNat ((b.length : Int) - 0)) = b := cut_all _ (by simp)
  have e2 : cut d (Int.toNat 0) (Int.toNat (32 - 0)) = d := cut_all _ (by rw [hd.1]; decide)
  rw [e1, e2]
  refine ⟨by omega, by decide, ⟨by unfold room; rw [hd.1]; omega, .inr ?_⟩, h⟩
  intro e
  have := hd.1
  rw [e] at this
  simp at this

-- a proof is put
/-- a proof: its siblings, its other -/
def plainP (o : Bool) (p v : List Int) : Bool := o || (decide (p = z32) && decide (v = z32))
def putB (s : List (List Int)) (o : Bool) (p v : List Int) : List Int := (cond o (1 :: (p ++ v)) [0]) ++ (grp s.length ++ s.flatten)
def mayPut (s : List (List Int)) (o : Bool) (p v : List Int) : Bool := decide (s.length ≤ 256) && plainP o p v
theorem flat_len {s : List (List Int)} (hs : ∀ d ∈ s, Dig d) : s.flatten.length = 32 * s.length := by
  induction s with
  | nil => rfl
  | cons d s ih =>
    rw [List.flatten_cons, List.length_append, (hs d (by simp)).1, ih fun e he => hs e (by simp [he]), List.length_cons]
    omega
theorem Put_loop {s : List (List Int)} (hs : ∀ d ∈ s, Dig d) (hn : s.length ≤ 256) : ∀ (m j k : Nat) (acc : List Int) {K : List Int → Int → Prop}, j + m = s.length → m + 2 ≤ k → acc.length + 32 * m ≤ 1000000000 → K (acc ++ (s.drop j).flatten) 0 →
    C_proof_Put_9 k s (s.length : Int) (j : Int) acc K := by
  intro m
  induction m with
  | zero =>
    intro j k acc K hj hk ha h
    obtain ⟨k, rfl⟩ : ∃ m, k = m + 1 := ⟨k - 1, by omega⟩
    rw [C_proof_Put_9]
    simp only [Hold_eq]
    refine cond_dec (fun h1 => by omega) (fun h1 => ?_)
    rw [List.drop_of_length_le (by omega)] at h
    simpa using h
  | succ m ih =>
    intro j k acc K hj hk ha h
    obtain ⟨k, rfl⟩ : ∃ m, k = m + 1 := ⟨k - 1, by omega⟩
    rw [C_proof_Put_9]
    simp only [Hold_eq]
    refine cond_dec (fun h1 => ?_) (fun h1 => by omega)
    have hj2 : j < s.length := by omega
    have hd := hs s[j] (List.getElem_mem hj2)
    have e : s.getD (Int.toNat (j : Int)) z32 = s[j] := by rw [Int.toNat_natCast, getD_at hj2]
    refine ⟨by omega, ?_⟩
    rw [e, show IntKind.i64.wrap ((j : Int) + 1) = ((j + 1 : Nat) : Int) by rw [wrap64 (by omega)]; rfl]
    refine PutDigest_s k acc s[j] (by omega) hd (by omega) ?_
    exact ih (j + 1) k (acc ++ s[j]) (by omega) (by omega) (by rw [List.length_append, hd.1]; omega) (by rw [drop_cons hj2] at h; simpa only [List.flatten_cons, List.append_assoc] using h)
theorem Put_s (k : Nat) {s : List (List Int)} {o : Bool} {p v : List Int} {K : List Int → Int → Prop} (hs : ∀ d ∈ s, Dig d) (hp : Dig p) (hv : Dig v) (hk : 2000 ≤ k) (h : cond (mayPut s o p v) (K (putB s o p v) 0) (K [] 40)) : F_proof_Put k s o p v K := by
  obtain ⟨k, rfl⟩ : ∃ m, k = m + 1 := ⟨k - 1, by omega⟩
  have b : C_proof_Put_2 k (decide (p = z32) && decide (v = z32)) s o p v K := by
    obtain ⟨k, rfl⟩ : ∃ m, k = m + 1 := ⟨k - 1, by omega⟩
    rw [C_proof_Put_2]
    simp only [Hold_eq]
    have seven : s.length ≤ 256 → ∀ acc : List Int, acc.length ≤ 1000 → K (acc ++ (grp s.length ++ s.flatten)) 0 → C_proof_Put_7 k s o p v acc K := by
      intro hn acc ha h
      obtain ⟨k, rfl⟩ : ∃ m, k = m + 1 := ⟨k - 1, by omega⟩
      rw [C_proof_Put_7]
      simp only [Hold_eq]
      refine PutCount_s s.length k acc (by omega) (by omega) (by omega) ?_
      have := (grp_len 4 s.length (by have : (128 : Nat) ^ 5 = 34359738368 := rfl; omega)).1
      exact Put_loop hs hn s.length 0 k (acc ++ grp s.length) (by omega) (by omega) (by rw [List.length_append]; omega) (by rw [List.append_assoc]; exact h)
    have other : o = true → s.length ≤ 256 → F_proof_bytes k 1 [p, v] (fun r => C_proof_Put_7 k s o p v r K) := by
      intro ho hn
      refine proof_bytes_s k 1 [p, v] (by intro d hd; simp at hd; rcases hd with rfl | rfl; exact hp; exact hv) (by simp; omega) (by simp) (seven hn _ (by simp [hp.1, hv.1]) ?_)
      have : mayPut s o p v = true := by simp [mayPut, plainP, ho, hn]
      rw [this] at h
      simpa [putB, ho] using h
    refine cond_dec (fun h1 => ?_) (fun h1 => ?_)
    · have : mayPut s o p v = false := by simp [mayPut]; omega
      rw [this] at h; exact h
    · cases o with
      | true => simp only [Bool.not_true, cond_false, cond_true]; exact other rfl (by omega)
      | false =>
        simp only [Bool.not_false, cond_true, cond_false]
        refine cond_nb (fun h2 => ?_) (fun h2 => seven (by omega) [0] (by simp) ?_)
        · have : mayPut s false p v = false := by simp only [mayPut, plainP, Bool.false_or, h2, Bool.and_false]
          rw [this] at h; exact h
        · have : mayPut s false p v = true := by simp only [mayPut, plainP, Bool.false_or, h2, Bool.and_true]; simp; omega
          rw [this] at h
          exact h
  rw [F_proof_Put]
  simp only [Hold_eq]
  refine cond_dec (fun h1 => ?_) (fun h1 => ?_)
  · have e : decide (p = z32) = true := decide_eq_true (show p = z32 from h1)
    rw [e, Bool.true_and] at b
    exact b
  · have e : decide (p = z32) = false := decide_eq_false (show ¬ p = z32 from h1)
    rw [e, Bool.false_and] at b
    exact b

-- the document's
theorem r06_plain_s (k : Nat) {s : List (List Int)} {o : Bool} {p v : List Int} {K : Bool → Prop} (hk : 1 ≤ k) (h : K (plainP o p v)) : F_r06_plain k s o p v K := by
  obtain ⟨k, rfl⟩ : ∃ m, k = m + 1 := ⟨k - 1, by omega⟩
  rw [F_r06_plain]
  refine cond_b (fun h1 => ?_) (fun h1 => cond_dec (fun h2 => ?_) (fun h2 => ?_))
  · subst h1; exact h
  · subst h1
    have e : plainP false p v = decide (v = z32) := by
      unfold plainP
      rw [decide_eq_true (show p = z32 from h2)]
      simp
    rw [e] at h; exact h
  · subst h1
    have e : plainP false p v = false := by
      unfold plainP
      rw [decide_eq_false (show ¬ p = z32 from h2)]
      simp
    rw [e] at h; exact h
theorem r06_Put_loop {s : List (List Int)} {o : Bool} {p v : List Int} (hs : ∀ d ∈ s, Dig d) (hn : s.length ≤ 256) : ∀ (m j k : Nat) (acc : List Int) {K : List Int → Int → Prop}, j + m = s.length → m + 2 ≤ k → acc.length + 32 * m ≤ 1000000000 → K (acc ++ (s.drop j).flatten) 0 →
    C_r06_Put_11 k (j : Int) s o p v acc K := by
  intro m
  induction m with
  | zero =>
    intro j k acc K hj hk ha h
    obtain ⟨k, rfl⟩ : ∃ m, k = m + 1 := ⟨k - 1, by omega⟩
    rw [C_r06_Put_11]
    simp only [Hold_eq]
    refine cond_dec (fun h1 => by omega) (fun h1 => ?_)
    rw [List.drop_of_length_le (by omega)] at h
    simpa using h
  | succ m ih =>
    intro j k acc K hj hk ha h
    obtain ⟨k, rfl⟩ : ∃ m, k = m + 1 := ⟨k - 1, by omega⟩
    rw [C_r06_Put_11]
    simp only [Hold_eq]
    refine cond_dec (fun h1 => ?_) (fun h1 => by omega)
    have hj2 : j < s.length := by omega
    have hd := hs s[j] (List.getElem_mem hj2)
    have e : s.getD (Int.toNat (j : Int)) z32 = s[j] := by rw [Int.toNat_natCast, getD_at hj2]
    rw [e, show IntKind.i64.wrap ((j : Int) + 1) = ((j + 1 : Nat) : Int) by rw [wrap64 (by omega)]; rfl]
    refine ⟨by omega, by unfold room; rw [hd.1]; omega, ?_⟩
    exact ih (j + 1) k (acc ++ s[j]) (by omega) (by omega) (by rw [List.length_append, hd.1]; omega) (by rw [drop_cons hj2] at h; simpa only [List.flatten_cons, List.append_assoc] using h)
theorem r06_Put_s (k : Nat) {s : List (List Int)} {o : Bool} {p v : List Int} {K : List Int → Int → Prop} (hs : ∀ d ∈ s, Dig d) (hp : Dig p) (hv : Dig v) (hk : 2000 ≤ k) (h : cond (mayPut s o p v) (K (putB s o p v) 0) (K [] 40)) : F_r06_Put k s o p v K := by
  obtain ⟨k, rfl⟩ : ∃ m, k = m + 1 := ⟨k - 1, by omega⟩
  have eight : s.length ≤ 256 → ∀ acc : List Int, acc.length ≤ 1000 → K (acc ++ (grp s.length ++ s.flatten)) 0 → C_r06_Put_8 k s o p v acc K := by
    intro hn acc ha h
    obtain ⟨k, rfl⟩ : ∃ m, k = m + 1 := ⟨k - 1, by omega⟩
    rw [C_r06_Put_8]
    simp only [Hold_eq]
    have := (grp_len 4 s.length (by have : (128 : Nat) ^ 5 = 34359738368 := rfl; omega)).1
    refine r01_Groups_s s.length k (by omega) (by omega) ⟨by unfold room; omega, ?_⟩
    exact r06_Put_loop hs hn s.length 0 k (acc ++ grp s.length) (by omega) (by omega) (by rw [List.length_append]; omega) (by rw [List.append_assoc]; exact h)
  rw [F_r06_Put]
  simp only [Hold_eq]
  refine cond_dec (fun h1 => ?_) (fun h1 => r06_plain_s k (by omega) (cond_nb (fun h2 => ?_) (fun h2 => cond_b (fun h3 => ?_) (fun h3 => ?_))))
  · have : mayPut s o p v = false := by simp [mayPut]; omega
    rw [this] at h; exact h
  · have : mayPut s o p v = false := by simp only [mayPut, h2, Bool.and_false]
    rw [this] at h; exact h
  · have e : mayPut s o p v = true := by simp only [mayPut, h2, Bool.and_true]; simp; omega
    rw [e] at h
    have e1 : cut p (Int.toNat 0) (Int.toNat (32 - 0)) = p := cut_all _ (by rw [hp.1]; decide)
    have e2 : cut v (Int.toNat 0) (Int.toNat (32 - 0)) = v := cut_all _ (by rw [hv.1]; decide)
    have e3 : List.set [(0 : Int)] (Int.toNat 0) 1 = [1] := rfl
    rw [e1, e2, e3]
    refine ⟨by decide, by decide, by unfold room; rw [hp.1]; decide, by decide, by unfold room; rw [List.length_append, hp.1, hv.1]; decide, ?_⟩
    refine eight (by omega) _ (by simp [hp.1, hv.1]) ?_
    simp only [putB, h3, cond_true] at h
    simpa using h
  · have e : mayPut s o p v = true := by simp only [mayPut, h2, Bool.and_true]; simp; omega
    rw [e] at h
    refine eight (by omega) _ (by simp) ?_
    simp only [putB, h3, cond_true, cond_false] at h
    exact h
theorem r06_Own_s (k : Nat) {s : List (List Int)} {o : Bool} {p v : List Int} {K : List (List Int) → Bool → List Int → List Int → Prop} (hk : 1 ≤ k) (hn : s.length ≤ 1000) (h : K s o p v) : F_r06_Own k s o p v K := by
  obtain ⟨k, rfl⟩ : ∃ m, k = m + 1 := ⟨k - 1, by omega⟩
  rw [F_r06_Own]
  exact ⟨by unfold room; omega, h⟩
theorem r06_Same_loop {s t : List (List Int)} {o o' : Bool} {p v p' v' : List Int} (hl : s.length = t.length) (hn : s.length ≤ 1000000000) : ∀ (m j k : Nat) {K : Bool → Prop}, j + m = s.length → m + 1 ≤ k → K (decide (s.drop j = t.drop j)) → C_r06_Same_4 k (j : Int) s o p v t o' p' v' K := by
  intro m
  induction m with
  | zero =>
    intro j k K hj hk h
    obtain ⟨k, rfl⟩ : ∃ m, k = m + 1 := ⟨k - 1, by omega⟩
    rw [C_r06_Same_4]
    refine cond_dec (fun h1 => by omega) (fun h1 => ?_)
    rw [List.drop_of_length_le (by omega), List.drop_of_length_le (by omega)] at h
    simpa using h
  | succ m ih =>
    intro j k K hj hk h
    obtain ⟨k, rfl⟩ : ∃ m, k = m + 1 := ⟨k - 1, by omega⟩
    rw [C_r06_Same_4]
    simp only [Hold_eq]
    refine cond_dec (fun h1 => ?_) (fun h1 => by omega)
    have hj1 : j < s.length := by omega
    have hj2 : j < t.length := by omega
    rw [Int.toNat_natCast, getD_at hj1, getD_at hj2, show IntKind.i64.wrap ((j : Int) + 1) = ((j + 1 : Nat) : Int) by rw [wrap64 (by omega)]; rfl]
    rw [drop_cons hj1, drop_cons hj2] at h
    refine ⟨by omega, by omega, cond_ndec (fun h2 => ?_) (fun h2 => ?_)⟩
    · have : decide (s[j] :: s.drop (j + 1) = t[j] :: t.drop (j + 1)) = false := decide_eq_false fun e => h2 (List.cons.inj e).1
      rw [this] at h; exact h
    · refine ih (j + 1) k (by omega) (by omega) ?_
      have : decide (s[j] :: s.drop (j + 1) = t[j] :: t.drop (j + 1)) = decide (s.drop (j + 1) = t.drop (j + 1)) := by simp only [List.cons.injEq, h2, true_and]
      rw [this] at h; exact h
theorem r06_Same_s (k : Nat) {s t : List (List Int)} {o o' : Bool} {p v p' v' : List Int} {K : Bool → Prop} (hn : s.length ≤ 1000000000) (hk : s.length + 2 ≤ k) (h : K (decide (s = t ∧ o = o' ∧ p = p' ∧ v = v'))) : F_r06_Same k s o p v t o' p' v' K := by
  obtain ⟨k, rfl⟩ : ∃ m, k = m + 1 := ⟨k - 1, by omega⟩
  rw [F_r06_Same]
  simp only [Hold_eq]
  refine cond_nb (fun h1 => ?_) (fun h1 => cond_ndec (fun h2 => ?_) (fun h2 => cond_ndec (fun h3 => ?_) (fun h3 => cond_ndec (fun h4 => ?_) (fun h4 => ?_))))
  · have : ¬ o = o' := by simpa using h1
    simpa [this] using h
  · simpa [h2] using h
  · simpa [h3] using h
  · have : ¬ s = t := fun e => h4 (by rw [e])
    simpa [this] using h
  · have : o = o' := by simpa using h1
    refine r06_Same_loop (by omega) hn s.length 0 k (by omega) (by omega) ?_
    simpa [this, h2, h3] using h

-- a reader
theorem Digest_s (k : Nat) {b : List Int} {K : List Int → Int → List Int → Prop} (hk : 1 ≤ k) (h : cond (decide (b.length < 32)) (K z32 10 b) (K (b.take 32) 0 (b.drop 32))) : F_octet_Reader_Digest k b K := by
  obtain ⟨k, rfl⟩ : ∃ m, k = m + 1 := ⟨k - 1, by omega⟩
  rw [F_octet_Reader_Digest]
  refine cond_dec (fun h1 => ?_) (fun h1 => ?_)
  · rw [decide_eq_true (by omega)] at h; exact h
  · rw [decide_eq_false (by omega)] at h
    refine ⟨by decide, by omega, ?_⟩
    have e : splice z32 (Int.toNat 0) b (Nat.min b.length (Int.toNat (32 - 0))) = b.take 32 := by
      have : Nat.min b.length 32 = 32 := Nat.min_eq_right (by omega)
      show List.take 0 z32 ++ (b.take (Nat.min b.length 32) ++ z32.drop (0 + Nat.min b.length 32)) = _
      rw [this]
      simp
    rw [e]
    exact h
/-- a count that bytes begin with: r: how many bytes may come, i: how many came, n: what they are worth -/
def rcGo : Nat → Nat → Nat → List Int → Int × Int × Int
  | 0, _, _, _ => (0, 0, 11)
  | _ + 1, _, _, [] => (0, 0, 10)
  | r + 1, i, n, g :: l => if 128 ≤ g then rcGo r (i + 1) (n + (g - 128).toNat * 128 ^ i) l
    else if (0 < i ∧ g = 0) ∨ 2147483647 < n + g.toNat * 128 ^ i then (0, 0, 11) else (((n + g.toNat * 128 ^ i : Nat) : Int), ((i + 1 : Nat) : Int), 0)
def rc (b : List Int) : Int × Int × Int := rcGo 5 0 0 b
theorem rcGo_size : ∀ (r i n : Nat) (l : List Int), 0 ≤ (rcGo r i n l).2.1 ∧ (rcGo r i n l).2.1 ≤ i + l.length ∧ 0 ≤ (rcGo r i n l).1 ∧ (rcGo r i n l).1 ≤ 2147483647
  | 0, i, n, l => by simp [rcGo]; omega
  | r + 1, i, n, [] => by simp [rcGo]
  | r + 1, i, n, g :: l => by
    unfold rcGo
    split
    · have := rcGo_size r (i + 1) (n + (g - 128).toNat * 128 ^ i) l
      simp only [List.length_cons]
      omega
    · split
      · simp only [List.length_cons]; omega
      · rename_i h1 h2
        simp only [List.length_cons]
        omega

theorem ior64 {a b : Nat} (ha : a < 2 ^ 63) (hb : b < 2 ^ 63) : ior .i64 (a : Int) (b : Int) = ((a ||| b : Nat) : Int) := by
  have h : a ||| b < 2 ^ 63 := Nat.or_lt_two_pow ha hb
  show IntKind.i64.wrap ((BitVec.ofInt 64 (a : Int) ||| BitVec.ofInt 64 (b : Int)).toNat : Int) = _
  simp only [BitVec.ofInt_natCast, BitVec.toNat_or, BitVec.toNat_ofNat]
  rw [Nat.mod_eq_of_lt (by omega), Nat.mod_eq_of_lt (by omega), wrap64 (by omega)]
theorem iand127 {g : Int} (h : 0 ≤ g ∧ g ≤ 255) : iand .u8 g 127 = ((g.toNat % 128 : Nat) : Int) := by
  obtain ⟨n, rfl⟩ := Int.eq_ofNat_of_zero_le h.1
  show IntKind.u8.wrap ((BitVec.ofInt 8 (n : Int) &&& BitVec.ofInt 8 (127 : Int)).toNat : Int) = _
  rw [show (127 : Int) = ((127 : Nat) : Int) from rfl]
  simp only [BitVec.ofInt_natCast, BitVec.toNat_and, BitVec.toNat_ofNat, Int.toNat_natCast]
  rw [Nat.mod_eq_of_lt (by omega : n < 2 ^ 8), Nat.mod_eq_of_lt (by decide : 127 < 2 ^ 8), Nat.and_two_pow_sub_one_eq_mod (n := 7), wrap8 (by omega)]
theorem group_add {n x i : Nat} (hn : n < 128 ^ i) (hx : x < 128) (hi : i < 5) : ior .i64 (n : Int) (ishl .i64 (IntKind.i64.wrap (x : Int)) (IntKind.i64.wrap (7 * (i : Int)))) = ((n + x * 128 ^ i : Nat) : Int) := by
  have e0 : (128 : Nat) ^ i = 2 ^ (7 * i) := by rw [Nat.pow_mul]
  have hp : (128 : Nat) ^ i ≤ 128 ^ 4 := Nat.pow_le_pow_right (by decide) (by omega)
  have hp4 : (128 : Nat) ^ 4 = 268435456 := rfl
  have hx2 : x * 128 ^ i ≤ 127 * 128 ^ i := Nat.mul_le_mul_right _ (by omega)
  rw [wrap64 (by omega : -9223372036854775808 ≤ (x : Int) ∧ (x : Int) ≤ 9223372036854775807), wrap64 (by omega : -9223372036854775808 ≤ 7 * (i : Int) ∧ 7 * (i : Int) ≤ 9223372036854775807)]
  have e1 : ishl .i64 (x : Int) (7 * (i : Int)) = ((x * 128 ^ i : Nat) : Int) := by
    unfold ishl
    have : (7 * (i : Int)).toNat = 7 * i := by omega
    rw [this, Nat.min_eq_left (by show 7 * i ≤ 64; omega), e0]
    have : (x : Int) * 2 ^ (7 * i) = ((x * 2 ^ (7 * i) : Nat) : Int) := by push_cast; rfl
    rw [this, ← e0, wrap64 (by omega)]
  rw [e1, ior64 (by omega) (by omega)]
  congr 1
  have := Nat.shiftLeft_add_eq_or_of_lt (b := n) (i := 7 * i) (by rw [← e0]; exact hn) x
  rw [Nat.shiftLeft_eq, ← e0] at this
  rw [Nat.or_comm, ← this, Nat.add_comm]
theorem peek_loop {b : List Int} (hb : B8 b) : ∀ (r i n k : Nat) {K : Int → Int → Int → List Int → Prop}, i + r = 5 → n < 128 ^ i → i ≤ b.length → r + 1 ≤ k →
    K (rcGo r i n (b.drop i)).1 (rcGo r i n (b.drop i)).2.1 (rcGo r i n (b.drop i)).2.2 b → C_octet_Reader_peek_4 k (n : Int) (b.take 5) ((b.take 5).length : Int) (i : Int) b K := by
  intro r
  induction r with
  | zero =>
    intro i n k K hi hn hl hk h
    obtain ⟨k, rfl⟩ : ∃ m, k = m + 1 := ⟨k - 1, by omega⟩
    rw [C_octet_Reader_peek_4]
    have : (b.take 5).length = 5 := by rw [List.length_take]; omega
    refine cond_dec (fun h1 => by omega) (fun h1 => cond_dec (fun h2 => by omega) (fun h2 => h))
  | succ r ih =>
    intro i n k K hi hn hl hk h
    obtain ⟨k, rfl⟩ : ∃ m, k = m + 1 := ⟨k - 1, by omega⟩
    rw [C_octet_Reader_peek_4]
    simp only [Hold_eq]
    have hlen : (b.take 5).length = min 5 b.length := List.length_take
    refine cond_dec (fun h1 => ?_) (fun h1 => ?_)
    · have hi2 : i < b.length := by omega
      have eg : (b.take 5).getD (Int.toNat (i : Int)) 0 = b[i] := by
        rw [Int.toNat_natCast, getD_at (by omega), List.getElem_take]
      have hg := hb b[i] (List.getElem_mem hi2)
      rw [eg, iand127 hg, show IntKind.i64.wrap ((i : Int) + 1) = ((i + 1 : Nat) : Int) by rw [wrap64 (by omega)]; rfl]
      rw [drop_cons hi2] at h
      have hp : (128 : Nat) ^ i ≤ 128 ^ 4 := Nat.pow_le_pow_right (by decide) (by omega)
      have hp4 : (128 : Nat) ^ 4 = 268435456 := rfl
      have e1 := group_add hn (Nat.mod_lt (b[i].toNat) (by decide : 128 > 0)) (by omega : i < 5)
      rw [e1]
      refine ⟨by omega, by rw [wrap64 (by omega)]; omega, cond_dec (fun h2 => ?_) (fun h2 => ?_)⟩
      · have e2 : b[i].toNat % 128 = (b[i] - 128).toNat := by omega
        rw [e2]
        simp only [rcGo, if_pos h2] at h
        refine ih (i + 1) _ k (by omega) ?_ (by omega) (by omega) h
        have hx2 : (b[i] - 128).toNat * 128 ^ i ≤ 127 * 128 ^ i := Nat.mul_le_mul_right _ (by omega)
        rw [Nat.pow_succ]
        omega
      · have e2 : b[i].toNat % 128 = b[i].toNat := Nat.mod_eq_of_lt (by omega)
        rw [e2]
        simp only [rcGo, if_neg h2] at h
        have fin : (0 < i ∧ b[i] = 0) = False → cond (decide ((2147483647 : Int) < ((n + b[i].toNat * 128 ^ i : Nat) : Int))) (K 0 0 11 b) (K ((n + b[i].toNat * 128 ^ i : Nat) : Int) ((i + 1 : Nat) : Int) 0 b) := by
          intro h3
          simp only [h3, false_or] at h
          refine cond_dec (fun h4 => ?_) (fun h4 => ?_)
          · rw [if_pos (by omega)] at h; exact h
          · rw [if_neg (by omega)] at h; exact h
        refine cond_dec (fun h3 => cond_dec (fun h4 => ?_) (fun h4 => fin (by simp; omega))) (fun h3 => fin (by simp; omega))
        rw [if_pos (.inl ⟨by omega, h3⟩)] at h
        exact h
    · have hb5 : b.length < 5 := by omega
      have hd : b.drop i = [] := List.drop_of_length_le (by omega)
      rw [hd] at h
      exact cond_dec (fun h2 => h) (fun h2 => by omega)
theorem peek_s (k : Nat) {b : List Int} (hb : B8 b) {K : Int → Int → Int → List Int → Prop} (hk : 8 ≤ k) (h : K (rc b).1 (rc b).2.1 (rc b).2.2 b) : F_octet_Reader_peek k b K := by
  obtain ⟨k, rfl⟩ : ∃ m, k = m + 1 := ⟨k - 1, by omega⟩
  rw [F_octet_Reader_peek]
  simp only [Hold_eq]
  have e : Int.toNat (minI 5 (b.length : Int)) = min 5 b.length := by
    unfold minI
    by_cases h : (b.length : Int) < 5
    · rw [decide_eq_true h]; simp; omega
    · rw [decide_eq_false h]; simp; omega
  have e2 : 0 ≤ minI 5 (b.length : Int) ∧ minI 5 (b.length : Int) ≤ (b.length : Int) := by
    unfold minI
    by_cases h : (b.length : Int) < 5
    · rw [decide_eq_true h]; simp
    · rw [decide_eq_false h]; simp; omega
  have e3 : b.take (min 5 b.length) = b.take 5 := by
    by_cases h : 5 ≤ b.length
    · rw [Nat.min_eq_left h]
    · rw [Nat.min_eq_right (by omega), List.take_length, List.take_of_length_le (by omega)]
  rw [e, e3]
  exact ⟨e2, peek_loop hb 5 0 0 k (by omega) (by decide) (by omega) (by omega) h⟩
theorem Count_s (k : Nat) {b : List Int} (hb : B8 b) {K : Int → Int → List Int → Prop} (hk : 9 ≤ k) (h : K (rc b).1 (rc b).2.2 (cond (decide ((rc b).2.2 = 0)) (b.drop (rc b).2.1.toNat) b)) : F_octet_Reader_Count k b K := by
  obtain ⟨k, rfl⟩ : ∃ m, k = m + 1 := ⟨k - 1, by omega⟩
  rw [F_octet_Reader_Count]
  simp only [Hold_eq]
  refine peek_s k hb (by omega) (cond_dec (fun h1 => ?_) (fun h1 => ?_))
  · rw [decide_eq_true h1] at h
    have := rcGo_size 5 0 0 b
    exact ⟨by unfold rc; omega, h⟩
  · rw [decide_eq_false h1] at h
    exact h
theorem Left_s (k : Nat) {b : List Int} {K : Int → List Int → Prop} (hk : 1 ≤ k) (h : K (b.length : Int) b) : F_octet_Reader_Left k b K := by
  obtain ⟨k, rfl⟩ : ∃ m, k = m + 1 := ⟨k - 1, by omega⟩
  exact h
theorem New_s (k : Nat) {b : List Int} {K : List Int → Prop} (hk : 1 ≤ k) (h : K b) : F_octet_New k b K := by
  obtain ⟨k, rfl⟩ : ∃ m, k = m + 1 := ⟨k - 1, by omega⟩
  exact h

-- the document's
theorem r01_RC_loop {b : List Int} (hb : B8 b) (hbl : b.length ≤ 1000000000) : ∀ (r i n k : Nat) {K : Int → Int → Int → Prop}, i + r = 5 → n < 128 ^ i → i ≤ b.length → r + 1 ≤ k →
    K (rcGo r i n (b.drop i)).1 (rcGo r i n (b.drop i)).2.1 (rcGo r i n (b.drop i)).2.2 → C_r01_ReadCount_4 k b (n : Int) ((128 ^ i : Nat) : Int) (i : Int) K := by
  intro r
  induction r with
  | zero =>
    intro i n k K hi hn hl hk h
    obtain ⟨k, rfl⟩ : ∃ m, k = m + 1 := ⟨k - 1, by omega⟩
    rw [C_r01_ReadCount_4]
    exact cond_dec (fun h1 => by omega) (fun h1 => h)
  | succ r ih =>
    intro i n k K hi hn hl hk h
    obtain ⟨k, rfl⟩ : ∃ m, k = m + 1 := ⟨k - 1, by omega⟩
    rw [C_r01_ReadCount_4]
    simp only [Hold_eq]
    refine cond_dec (fun h1 => cond_dec (fun h2 => ?_) (fun h2 => ?_)) (fun h1 => by omega)
    · have hd : b.drop i = [] := List.drop_of_length_le (by omega)
      rw [hd] at h
      exact h
    · have hi2 : i < b.length := by omega
      have eg : b.getD (Int.toNat (i : Int)) 0 = b[i] := by rw [Int.toNat_natCast, getD_at hi2]
      have hg := hb b[i] (List.getElem_mem hi2)
      have hp : (128 : Nat) ^ i ≤ 128 ^ 4 := Nat.pow_le_pow_right (by decide) (by omega)
      have hp4 : (128 : Nat) ^ 4 = 268435456 := rfl
      have hp0 : 0 < (128 : Nat) ^ i := Nat.pow_pos (by decide)
      have hx2 : b[i].toNat % 128 * 128 ^ i ≤ 127 * 128 ^ i := Nat.mul_le_mul_right _ (by omega)
      have et : Int.tmod b[i] 128 = ((b[i].toNat % 128 : Nat) : Int) := by
        obtain ⟨m, hm⟩ := Int.eq_ofNat_of_zero_le hg.1
        rw [hm]; rfl
      have e1 : IntKind.i64.wrap ((n : Int) + IntKind.i64.wrap (IntKind.i64.wrap (Int.tmod b[i] 128) * ((128 ^ i : Nat) : Int))) = ((n + b[i].toNat % 128 * 128 ^ i : Nat) : Int) := by
        rw [et, wrap64 (n := ((b[i].toNat % 128 : Nat) : Int)) (by omega)]
        rw [show ((b[i].toNat % 128 : Nat) : Int) * ((128 ^ i : Nat) : Int) = ((b[i].toNat % 128 * 128 ^ i : Nat) : Int) by push_cast; rfl]
        rw [wrap64 (n := ((b[i].toNat % 128 * 128 ^ i : Nat) : Int)) (by omega), wrap64 (by omega)]
        push_cast; rfl
      have e4 : IntKind.i64.wrap (((128 ^ i : Nat) : Int) * 128) = ((128 ^ (i + 1) : Nat) : Int) := by
        rw [wrap64 (by omega), Nat.pow_succ]
        push_cast; rfl
      rw [eg, e1, e4, show IntKind.i64.wrap ((i : Int) + 1) = ((i + 1 : Nat) : Int) by rw [wrap64 (by omega)]; rfl]
      rw [drop_cons hi2] at h
      refine ⟨by omega, by decide, by omega, cond_dec (fun h3 => ?_) (fun h3 => ?_)⟩
      · have e2 : b[i].toNat % 128 = (b[i] - 128).toNat := by omega
        rw [e2]
        simp only [rcGo, if_pos h3] at h
        refine ih (i + 1) _ k (by omega) ?_ (by omega) (by omega) h
        rw [← e2, Nat.pow_succ]
        omega
      · have e2 : b[i].toNat % 128 = b[i].toNat := Nat.mod_eq_of_lt (by omega)
        rw [e2]
        simp only [rcGo, if_neg h3] at h
        have fin : (0 < i ∧ b[i] = 0) = False → cond (decide ((2147483647 : Int) < ((n + b[i].toNat * 128 ^ i : Nat) : Int))) (K 0 0 11) (K ((n + b[i].toNat * 128 ^ i : Nat) : Int) ((i + 1 : Nat) : Int) 0) := by
          intro h4
          simp only [h4, false_or] at h
          refine cond_dec (fun h5 => ?_) (fun h5 => ?_)
          · rw [if_pos (by omega)] at h; exact h
          · rw [if_neg (by omega)] at h; exact h
        refine cond_dec (fun h4 => ⟨by omega, cond_dec (fun h5 => ?_) (fun h5 => fin (by simp [h5]))⟩) (fun h4 => fin (by simp; omega))
        rw [if_pos (.inl ⟨by omega, h5⟩)] at h
        exact h
theorem r01_ReadCount_s (k : Nat) {b : List Int} (hb : B8 b) (hbl : b.length ≤ 1000000000) {K : Int → Int → Int → Prop} (hk : 8 ≤ k) (h : K (rc b).1 (rc b).2.1 (rc b).2.2) : F_r01_ReadCount k b K := by
  obtain ⟨k, rfl⟩ : ∃ m, k = m + 1 := ⟨k - 1, by omega⟩
  rw [F_r01_ReadCount]
  simp only [Hold_eq]
  exact r01_RC_loop hb hbl 5 0 0 k (by omega) (by decide) (by omega) (by omega) h
theorem r01_RD_loop {b : List Int} (hl : 32 ≤ b.length) (d0 : List Int) : ∀ (m j k : Nat) (d : List Int) {K : List Int → Int → Int → Prop}, j + m = 32 → m + 1 ≤ k → d = b.take j ++ List.replicate m 0 → K (b.take 32) 32 0 → C_r01_ReadDigest_5 k b (j : Int) d0 d K := by
  intro m
  induction m with
  | zero =>
    intro j k d K hj hk hd h
    obtain ⟨k, rfl⟩ : ∃ m, k = m + 1 := ⟨k - 1, by omega⟩
    rw [C_r01_ReadDigest_5]
    refine cond_dec (fun h1 => by omega) (fun h1 => ?_)
    have : j = 32 := by omega
    subst this
    simp at hd
    rw [hd]; exact h
  | succ m ih =>
    intro j k d K hj hk hd h
    obtain ⟨k, rfl⟩ : ∃ m, k = m + 1 := ⟨k - 1, by omega⟩
    rw [C_r01_ReadDigest_5]
    simp only [Hold_eq]
    refine cond_dec (fun h1 => ?_) (fun h1 => by omega)
    refine ⟨by omega, by omega, ?_⟩
    rw [show IntKind.i64.wrap ((j : Int) + 1) = ((j + 1 : Nat) : Int) by rw [wrap64 (by omega)]; rfl, Int.toNat_natCast, getD_at (by omega : j < b.length)]
    refine ih (j + 1) k _ (by omega) (by omega) ?_ h
    have hlen : (b.take j).length = j := by rw [List.length_take]; omega
    rw [hd, List.set_append_right _ _ (by omega), hlen, Nat.sub_self, List.replicate_succ, List.set_cons_zero, List.take_succ_eq_append_getElem (by omega : j < b.length)]
    rw [List.append_assoc, List.singleton_append]
theorem r01_ReadDigest_s (k : Nat) {b : List Int} {K : List Int → Int → Int → Prop} (hk : 40 ≤ k) (h : cond (decide (b.length < 32)) (K z32 0 10) (K (b.take 32) 32 0)) : F_r01_ReadDigest k b K := by
  obtain ⟨k, rfl⟩ : ∃ m, k = m + 1 := ⟨k - 1, by omega⟩
  rw [F_r01_ReadDigest]
  simp only [Hold_eq]
  refine cond_dec (fun h1 => ?_) (fun h1 => ?_)
  · rw [decide_eq_true (by omega)] at h; exact h
  · rw [decide_eq_false (by omega)] at h
    exact r01_RD_loop (by omega) _ 32 0 k _ (by omega) (by omega) (by simp) h
end Go.V
