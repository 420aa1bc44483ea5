/- what Get computes; ProofPuts and ProofGets, in plain Lean -/
import Derived.Test.YtepdmpjmlfeanaaVC06S
set_option linter.unusedVariables false
set_option linter.unusedSimpArgs false
set_option maxRecDepth 4000
namespace Go.V

def chunks : Nat → List Int → List (List Int)
  | 0, _ => []
  | n + 1, l => l.take 32 :: chunks n (l.drop 32)
theorem chunks_ok : ∀ (n : Nat) (l : List Int), B8 l → l.length = 32 * n → (chunks n l).flatten = l ∧ (chunks n l).length = n ∧ ∀ d ∈ chunks n l, Dig d
  | 0, l, h, hl => ⟨by simp [chunks, List.eq_nil_of_length_eq_zero (by omega : l.length = 0)], rfl, by simp [chunks]⟩
  | n + 1, l, h, hl => by
    obtain ⟨h1, h2, h3⟩ := chunks_ok n (l.drop 32) (h.drop 32) (by rw [List.length_drop]; omega)
    refine ⟨by simp only [chunks, List.flatten_cons, h1, List.take_append_drop], by simp [chunks, h2], ?_⟩
    intro d hd
    simp only [chunks, List.mem_cons] at hd
    rcases hd with rfl | hd
    · exact ⟨by rw [List.length_take]; omega, h.take 32⟩
    · exact h3 d hd
theorem chunks_flat : ∀ (s : List (List Int)), (∀ d ∈ s, Dig d) → chunks s.length s.flatten = s
  | [], h => rfl
  | d :: s, h => by
    have hd := (h d (by simp)).1
    simp only [List.length_cons, chunks, List.flatten_cons]
    rw [List.take_append_of_le_length (by omega), List.drop_append_of_le_length (by omega), List.take_of_length_le (by omega), List.drop_of_length_le (by omega), List.nil_append, chunks_flat s fun e he => h e (by simp [he])]

/-- what bytes are -/
def unput (b : List Int) : Option (List (List Int) × Bool × List Int × List Int) := match b with
  | [] => none
  | g :: l => if 1 < g then none else if g = 1 ∧ l.length < 64 then none else
    if (rc (if g = 1 then l.drop 64 else l)).2.2 = 0 ∧ (rc (if g = 1 then l.drop 64 else l)).1 ≤ 256 ∧ ((if g = 1 then l.drop 64 else l).length : Int) - (rc (if g = 1 then l.drop 64 else l)).2.1 = 32 * (rc (if g = 1 then l.drop 64 else l)).1 then
      some (chunks (rc (if g = 1 then l.drop 64 else l)).1.toNat ((if g = 1 then l.drop 64 else l).drop (rc (if g = 1 then l.drop 64 else l)).2.1.toNat), decide (g = 1), if g = 1 then l.take 32 else z32, if g = 1 then (l.drop 32).take 32 else z32)
    else none
def getK (b : List Int) (K : List (List Int) → Bool → List Int → List Int → Int → Prop) : Prop := match unput b with
  | some x => K x.1 x.2.1 x.2.2.1 x.2.2.2 0
  | none => K [] false z32 z32 40

theorem Get_loop {o o' : Bool} {p v p' v' : List Int} {n : Nat} (hn : n ≤ 256) : ∀ (m j k : Nat) (b : List Int) (acc : List (List Int)) {K : List (List Int) → Bool → List Int → List Int → Int → Prop}, j + m = n → m + 2 ≤ k → b.length = 32 * m → acc.length + m ≤ 1000 → K (acc ++ chunks m b) o p v 0 →
    C_proof_Get_16 k (n : Int) (j : Int) o' p' v' o p v b [] acc K := by
  intro m
  induction m with
  | zero =>
    intro j k b acc K hj hk hb ha h
    obtain ⟨k, rfl⟩ : ∃ m, k = m + 1 := ⟨k - 1, by omega⟩
    rw [C_proof_Get_16]
    refine cond_dec (fun h1 => by omega) (fun h1 => ?_)
    simpa [chunks] using h
  | succ m ih =>
    intro j k b acc K hj hk hb ha h
    obtain ⟨k, rfl⟩ : ∃ m, k = m + 1 := ⟨k - 1, by omega⟩
    rw [C_proof_Get_16]
    simp only [Hold_eq]
    refine cond_dec (fun h1 => ?_) (fun h1 => by omega)
    refine Digest_s k (by omega) ?_
    rw [decide_eq_false (by omega)]
    rw [show IntKind.i64.wrap ((j : Int) + 1) = ((j + 1 : Nat) : Int) by rw [wrap64 (by omega)]; rfl]
    refine ⟨by unfold room; simp only [List.length_cons, List.length_nil]; omega, ?_⟩
    refine ih (j + 1) k (b.drop 32) _ (by omega) (by omega) (by rw [List.length_drop]; omega) (by simp only [List.length_append, List.length_cons, List.length_nil]; omega) ?_
    rw [List.append_assoc]
    exact h
/-- what comes behind the other -/
def restK (l : List Int) (o : Bool) (p v : List Int) (K : List (List Int) → Bool → List Int → List Int → Int → Prop) : Prop :=
  if (rc l).2.2 = 0 ∧ (rc l).1 ≤ 256 ∧ (l.length : Int) - (rc l).2.1 = 32 * (rc l).1 then K (chunks (rc l).1.toNat (l.drop (rc l).2.1.toNat)) o p v 0 else K [] false z32 z32 40
theorem Get_rest (k : Nat) {l : List Int} (hl : B8 l) (hn : l.length ≤ 1000000000) {o : Bool} {p v : List Int} {K : List (List Int) → Bool → List Int → List Int → Int → Prop} (hk : 1000 ≤ k) (h : restK l o p v K) :
    C_proof_Get_12 k false z32 z32 o p v l [] [] K := by
  obtain ⟨k, rfl⟩ : ∃ m, k = m + 1 := ⟨k - 1, by omega⟩
  rw [C_proof_Get_12]
  simp only [Hold_eq]
  unfold restK at h
  obtain ⟨z1, z2, z3, z4⟩ := rcGo_size 5 0 0 l
  change 0 ≤ (rc l).2.1 at z1
  change (rc l).2.1 ≤ _ at z2
  change 0 ≤ (rc l).1 at z3
  change (rc l).1 ≤ _ at z4
  refine Count_s k hl (by omega) (cond_ndec (fun h1 => ?_) (fun h1 => cond_dec (fun h2 => ?_) (fun h2 => ?_)))
  · rw [if_neg fun e => h1 e.1] at h; exact h
  · rw [if_neg fun e => by omega] at h; exact h
  · rw [decide_eq_true h1]
    simp only [cond_true]
    have hle : (rc l).2.1.toNat ≤ l.length := by omega
    refine Left_s k (by omega) ?_
    rw [List.length_drop, wrap64 (by omega)]
    refine cond_ndec (fun h3 => ?_) (fun h3 => ?_)
    · rw [if_neg fun e => h3 (by omega)] at h; exact h
    · rw [if_pos ⟨h1, by omega, by omega⟩] at h
      have e : (rc l).1 = (((rc l).1.toNat : Nat) : Int) := by omega
      rw [e]
      exact Get_loop (by omega) (rc l).1.toNat 0 k _ [] (by omega) (by omega) (by rw [List.length_drop]; omega) (by simp only [List.length_nil]; omega) (by simpa using h)
theorem Get_s (k : Nat) {b : List Int} (hb : B8 b) (hn : b.length ≤ 1000000000) {K : List (List Int) → Bool → List Int → List Int → Int → Prop} (hk : 2000 ≤ k) (h : getK b K) : F_proof_Get k b K := by
  obtain ⟨k, rfl⟩ : ∃ m, k = m + 1 := ⟨k - 1, by omega⟩
  rw [F_proof_Get]
  simp only [Hold_eq]
  unfold getK at h
  cases b with
  | nil => exact cond_dec (fun _ => h) (fun h1 => absurd rfl h1)
  | cons g l =>
    refine cond_dec (fun h1 => by simp only [List.length_cons] at h1; omega) (fun h1 => ⟨by simp only [List.length_cons]; omega, ?_⟩)
    have eg : (g :: l).getD (Int.toNat 0) 0 = g := rfl
    have ed : (g :: l).drop (Int.toNat 1) = l := rfl
    rw [eg, ed]
    have hl : B8 l := fun x hx => hb x (by simp [hx])
    have hg := hb g (by simp)
    simp only [List.length_cons] at hn
    refine cond_dec (fun h2 => ?_) (fun h2 => ⟨by simp only [List.length_cons]; omega, by simp only [List.length_cons]; omega, New_s k (by omega) (cond_dec (fun h3 => ?_) (fun h3 => ?_))⟩)
    · have e : unput (g :: l) = none := by simp only [unput, if_pos h2]
      rw [e] at h; exact h
    · subst h3
      refine Digest_s k (by omega) (cond_dec (fun h4 => Digest_s k (by omega) ?_) (fun h4 => Digest_s k (by omega) ?_))
      · rw [decide_eq_true h4]
        simp only [cond_true]
        refine cond_ndec (fun h5 => ?_) (fun h5 => absurd h5 (by decide))
        have : unput (1 :: l) = none := by simp [unput]; omega
        rw [this] at h; exact h
      · rw [List.length_drop]
        refine cond_dec (fun h5 => ?_) (fun h5 => ?_)
        · refine cond_ndec (fun h6 => ?_) (fun h6 => absurd h6 (by decide))
          have : unput (1 :: l) = none := by simp [unput]; omega
          rw [this] at h; exact h
        · refine cond_ndec (fun h6 => absurd rfl h6) (fun h6 => ?_)
          rw [List.drop_drop]
          refine Get_rest k (hl.drop 64) (by rw [List.length_drop]; omega) (by omega) ?_
          unfold restK
          have h7 : ¬ l.length < 64 := by omega
          simp only [unput, if_true, h7, and_false, if_false, show ¬ (1 : Int) < 1 by decide, decide_true] at h
          split
          · rename_i h8; rw [if_pos h8] at h; exact h
          · rename_i h8; rw [if_neg h8] at h; exact h
    · have e0 : decide (g = 1) = false := decide_eq_false h3
      rw [e0]
      refine Get_rest k hl (by omega) (by omega) ?_
      unfold restK
      simp only [unput, h3, h2, if_false, false_and, decide_false] at h
      split
      · rename_i h8; rw [if_pos h8] at h; exact h
      · rename_i h8; rw [if_neg h8] at h; exact h

-- the document's
theorem r06_Get_loop {b : List Int} (hbl : b.length ≤ 1000000000) {o o' : Bool} {p v p' v' : List Int} {n : Nat} (hn : n ≤ 256) : ∀ (m j at' k : Nat) (acc : List (List Int)) {K : List (List Int) → Bool → List Int → List Int → Int → Prop}, j + m = n → m + 50 ≤ k → at' + 32 * m = b.length → acc.length + m ≤ 1000 → K (acc ++ chunks m (b.drop at')) o p v 0 →
    C_r06_Get_20 k b (at' : Int) (n : Int) (j : Int) o' p' v' o p v [] acc K := by
  intro m
  induction m with
  | zero =>
    intro j at' k acc K hj hk hb ha h
    obtain ⟨k, rfl⟩ : ∃ m, k = m + 1 := ⟨k - 1, by omega⟩
    rw [C_r06_Get_20]
    refine cond_dec (fun h1 => by omega) (fun h1 => ?_)
    simpa [chunks] using h
  | succ m ih =>
    intro j at' k acc K hj hk hb ha h
    obtain ⟨k, rfl⟩ : ∃ m, k = m + 1 := ⟨k - 1, by omega⟩
    rw [C_r06_Get_20]
    simp only [Hold_eq]
    refine cond_dec (fun h1 => ⟨by omega, ?_⟩) (fun h1 => by omega)
    refine r01_ReadDigest_s k (by omega) ?_
    rw [Int.toNat_natCast, decide_eq_false (by rw [List.length_drop]; omega)]
    rw [show IntKind.i64.wrap ((j : Int) + 1) = ((j + 1 : Nat) : Int) by rw [wrap64 (by omega)]; rfl, show IntKind.i64.wrap ((at' : Int) + 32) = ((at' + 32 : Nat) : Int) by rw [wrap64 (by omega)]; rfl]
    refine ⟨by unfold room; simp only [List.length_cons, List.length_nil]; omega, ?_⟩
    refine ih (j + 1) (at' + 32) k _ (by omega) (by omega) (by omega) (by simp only [List.length_append, List.length_cons, List.length_nil]; omega) ?_
    rw [List.append_assoc]
    rw [← List.drop_drop]
    exact h
theorem r06_Get_rest (k at' : Nat) {b : List Int} (hb : B8 b) (hn : b.length ≤ 1000000000) (ha : at' ≤ b.length) {o : Bool} {p v : List Int} {K : List (List Int) → Bool → List Int → List Int → Int → Prop} (hk : 1000 ≤ k) (h : restK (b.drop at') o p v K) (o' : Bool) (p' v' : List Int) :
    C_r06_Get_15 k b (at' : Int) o' p' v' o p v false z32 z32 [] [] [] K := by
  obtain ⟨k, rfl⟩ : ∃ m, k = m + 1 := ⟨k - 1, by omega⟩
  rw [C_r06_Get_15]
  simp only [Hold_eq]
  unfold restK at h
  obtain ⟨z1, z2, z3, z4⟩ := rcGo_size 5 0 0 (b.drop at')
  change 0 ≤ (rc (b.drop at')).2.1 at z1
  change (rc (b.drop at')).2.1 ≤ _ at z2
  change 0 ≤ (rc (b.drop at')).1 at z3
  change (rc (b.drop at')).1 ≤ _ at z4
  rw [List.length_drop] at h z2
  rw [Int.toNat_natCast]
  refine ⟨by omega, r01_ReadCount_s k (hb.drop at') (by rw [List.length_drop]; omega) (by omega) (cond_ndec (fun h1 => ?_) (fun h1 => cond_dec (fun h2 => ?_) (fun h2 => ?_)))⟩
  · rw [if_neg fun e => h1 e.1] at h; exact h
  · rw [if_neg fun e => by omega] at h; exact h
  · have e1 : IntKind.i64.wrap ((at' : Int) + (rc (b.drop at')).2.1) = ((at' + (rc (b.drop at')).2.1.toNat : Nat) : Int) := by rw [wrap64 (by omega)]; omega
    rw [e1, wrap64 (n := (b.length : Int) - _) (by omega), wrap64 (by omega)]
    refine cond_ndec (fun h3 => ?_) (fun h3 => ?_)
    · rw [if_neg fun e => h3 (by omega)] at h; exact h
    · rw [if_pos ⟨h1, by omega, by omega⟩, List.drop_drop] at h
      generalize (rc (b.drop at')).1 = c at *
      obtain ⟨c, rfl⟩ := Int.eq_ofNat_of_zero_le z3
      simp only [Int.toNat_natCast] at h
      exact r06_Get_loop hn (by omega) c 0 (at' + (rc (b.drop at')).2.1.toNat) k [] (by omega) (by omega) (by omega) (by simp only [List.length_nil]; omega) (by simpa using h)
theorem r06_Get_s (k : Nat) {b : List Int} (hb : B8 b) (hn : b.length ≤ 1000000000) {K : List (List Int) → Bool → List Int → List Int → Int → Prop} (hk : 2000 ≤ k) (h : getK b K) : F_r06_Get k b K := by
  obtain ⟨k, rfl⟩ : ∃ m, k = m + 1 := ⟨k - 1, by omega⟩
  rw [F_r06_Get]
  simp only [Hold_eq]
  unfold getK at h
  cases b with
  | nil => exact cond_dec (fun _ => h) (fun h1 => absurd rfl h1)
  | cons g l =>
    refine cond_dec (fun h1 => by simp only [List.length_cons] at h1; omega) (fun h1 => ⟨by simp only [List.length_cons]; omega, ?_⟩)
    have eg : (g :: l).getD (Int.toNat 0) 0 = g := rfl
    rw [eg]
    have hl : B8 l := fun x hx => hb x (by simp [hx])
    have hg := hb g (by simp)
    have hn2 := hn
    simp only [List.length_cons] at hn
    refine cond_dec (fun h2 => ?_) (fun h2 => ⟨by simp only [List.length_cons]; omega, cond_dec (fun h3 => ?_) (fun h3 => ?_)⟩)
    · have e : unput (g :: l) = none := by simp only [unput, if_pos h2]
      rw [e] at h; exact h
    · subst h3
      have ed : ((1 : Int) :: l).drop (Int.toNat 1) = l := rfl
      rw [ed]
      refine ⟨by simp only [List.length_cons]; omega, r01_ReadDigest_s k (by omega) (cond_dec (fun h4 => ?_) (fun h4 => ?_))⟩
      · refine ⟨by rw [wrap64 (by omega)]; simp only [List.length_cons]; omega, r01_ReadDigest_s k (by omega) ?_⟩
        rw [show IntKind.i64.wrap (1 + 0) = 1 from rfl, ed, decide_eq_true h4]
        simp only [cond_true]
        refine cond_ndec (fun h5 => ?_) (fun h5 => absurd h5 (by decide))
        have : unput (1 :: l) = none := by simp [unput]; omega
        rw [this] at h; exact h
      · have e33 : ((1 : Int) :: l).drop (Int.toNat (IntKind.i64.wrap (1 + 32))) = l.drop 32 := rfl
        refine ⟨by rw [wrap64 (by omega)]; simp only [List.length_cons]; omega, r01_ReadDigest_s k (by omega) ?_⟩
        rw [e33, List.length_drop]
        refine cond_dec (fun h5 => ?_) (fun h5 => ?_)
        · refine cond_ndec (fun h6 => absurd rfl h6) (fun h6 => cond_ndec (fun h7 => ?_) (fun h7 => absurd h7 (by decide)))
          have : unput (1 :: l) = none := by simp [unput]; omega
          rw [this] at h; exact h
        · refine cond_ndec (fun h6 => absurd rfl h6) (fun h6 => cond_ndec (fun h7 => absurd rfl h7) (fun h7 => ?_))
          have e65 : IntKind.i64.wrap (IntKind.i64.wrap (1 + 32) + 32) = ((65 : Nat) : Int) := rfl
          rw [e65]
          refine r06_Get_rest k 65 hb hn2 (by simp only [List.length_cons]; omega) (by omega) ?_ false z32 z32
          show restK (l.drop 64) _ _ _ _
          unfold restK
          have h7 : ¬ l.length < 64 := by omega
          simp only [unput, if_true, h7, and_false, if_false, show ¬ (1 : Int) < 1 by decide, decide_true] at h
          split
          · rename_i h8; rw [if_pos h8] at h; exact h
          · rename_i h8; rw [if_neg h8] at h; exact h
    · refine r06_Get_rest k 1 hb hn2 (by simp only [List.length_cons]; omega) (by omega) ?_ false z32 z32
      show restK l _ _ _ _
      unfold restK
      simp only [unput, h3, h2, if_false, false_and, decide_false] at h
      split
      · rename_i h8; rw [if_pos h8] at h; exact h
      · rename_i h8; rw [if_neg h8] at h; exact h

-- there and back
/-- the count that is read is written so -/
theorem rcGo_ok : ∀ (r i n : Nat) (l : List Int), B8 l → (rcGo r i n l).2.2 = 0 → ∃ q : Nat, (rcGo r i n l).1 = ((n + q * 128 ^ i : Nat) : Int) ∧ (rcGo r i n l).2.1 = ((i + (grp q).length : Nat) : Int) ∧ l.take (grp q).length = grp q ∧ (0 < i → 0 < q)
  | 0, i, n, l, _, h => by simp [rcGo] at h
  | r + 1, i, n, [], _, h => by simp [rcGo] at h
  | r + 1, i, n, g :: l, hb, h => by
    have hg := hb g (by simp)
    simp only [rcGo] at h ⊢
    by_cases h1 : 128 ≤ g
    · rw [if_pos h1] at h ⊢
      obtain ⟨q, q1, q2, q3, q4⟩ := rcGo_ok r (i + 1) _ l (fun x hx => hb x (by simp [hx])) h
      have q4 := q4 (by omega)
      refine ⟨(g - 128).toNat + 128 * q, ?_, ?_, ?_, fun _ => by omega⟩
      · rw [q1]
        congr 1
        rw [Nat.pow_succ, Nat.add_mul, Nat.add_assoc]
        congr 2
        rw [Nat.mul_comm (128 ^ i) 128, ← Nat.mul_assoc, Nat.mul_comm q 128]
      · rw [q2, grp_big (n := (g - 128).toNat + 128 * q) (by omega)]
        rw [show ((g - 128).toNat + 128 * q) / 128 = q by omega]
        simp only [List.length_cons]
        congr 1
        omega
      · rw [grp_big (n := (g - 128).toNat + 128 * q) (by omega)]
        rw [show ((g - 128).toNat + 128 * q) / 128 = q by omega, show ((g - 128).toNat + 128 * q) % 128 = (g - 128).toNat by omega]
        simp only [List.length_cons, List.take_succ_cons, q3]
        congr 1
        omega
    · rw [if_neg h1] at h ⊢
      by_cases h2 : (0 < i ∧ g = 0) ∨ 2147483647 < n + g.toNat * 128 ^ i
      · rw [if_pos h2] at h; simp at h
      · rw [if_neg h2]
        refine ⟨g.toNat, rfl, ?_, ?_, fun hi => ?_⟩
        · rw [grp_small (by omega)]; rfl
        · rw [grp_small (by omega)]
          simp only [List.length_cons, List.length_nil, List.take_succ_cons, List.take_zero]
          congr 1
          omega
        · have : ¬ g = 0 := fun e => h2 (.inl ⟨hi, e⟩)
          omega
theorem rcGo_grp : ∀ (r i n q : Nat) (t : List Int), (grp q).length ≤ r → n + q * 128 ^ i ≤ 2147483647 → (0 < i → 0 < q) → rcGo r i n (grp q ++ t) = (((n + q * 128 ^ i : Nat) : Int), ((i + (grp q).length : Nat) : Int), 0)
  | 0, i, n, q, t, h, _, _ => by
    have : 1 ≤ (grp q).length := by rw [grp]; split <;> simp
    omega
  | r + 1, i, n, q, t, h, hq, hi => by
    by_cases h1 : q < 128
    · rw [grp_small h1]
      simp only [List.singleton_append, rcGo, List.length_cons, List.length_nil]
      rw [if_neg (by omega), Int.toNat_natCast, if_neg]
      intro h2
      rcases h2 with h2 | h2
      · have := hi h2.1; omega
      · omega
    · rw [grp_big h1] at h ⊢
      simp only [List.cons_append, rcGo, List.length_cons] at h ⊢
      have e1 : (((128 + q % 128 : Nat) : Int) - 128).toNat = q % 128 := by omega
      rw [if_pos (by omega), e1]
      have e2 : n + q % 128 * 128 ^ i + q / 128 * 128 ^ (i + 1) = n + q * 128 ^ i := by
        rw [Nat.pow_succ, Nat.add_assoc]
        congr 1
        rw [Nat.mul_comm (128 ^ i) 128, ← Nat.mul_assoc, ← Nat.add_mul]
        congr 1
        omega
      rw [rcGo_grp r (i + 1) _ (q / 128) t (by omega) (by rw [e2]; exact hq) (fun _ => by omega), e2]
      congr 2
      congr 1
      omega
theorem rc_grp {q : Nat} (t : List Int) (hq : q ≤ 256) : rc (grp q ++ t) = ((q : Int), ((grp q).length : Int), 0) := by
  unfold rc
  rw [rcGo_grp 5 0 0 q t (grp_len 4 q (by have : (128 : Nat) ^ 5 = 34359738368 := rfl; omega)).1 (by simp; omega) (fun h => absurd h (by decide))]
  simp
theorem unput_put {s : List (List Int)} {o : Bool} {p v : List Int} (hs : ∀ d ∈ s, Dig d) (hp : Dig p) (hv : Dig v) (h : mayPut s o p v = true) : unput (putB s o p v) = some (s, o, p, v) := by
  simp only [mayPut, plainP, Bool.and_eq_true, decide_eq_true_eq, Bool.or_eq_true] at h
  have e : rc (grp s.length ++ s.flatten) = ((s.length : Int), ((grp s.length).length : Int), 0) := rc_grp _ h.1
  have hf := flat_len hs
  have ed : (grp s.length ++ s.flatten).drop (((grp s.length).length : Nat) : Int).toNat = s.flatten := by rw [Int.toNat_natCast, List.drop_left]
  have key : ∀ l : List Int, l = grp s.length ++ s.flatten → ((rc l).2.2 = 0 ∧ (rc l).1 ≤ 256 ∧ (l.length : Int) - (rc l).2.1 = 32 * (rc l).1) ∧ chunks (rc l).1.toNat (l.drop (rc l).2.1.toNat) = s := by
    rintro l rfl
    rw [e, List.length_append, hf]
    refine ⟨⟨rfl, by show (s.length : Int) ≤ 256; omega, by show _ - ((grp s.length).length : Int) = 32 * (s.length : Int); omega⟩, ?_⟩
    show chunks (Int.toNat (s.length : Int)) (List.drop (Int.toNat ((grp s.length).length : Int)) _) = s
    rw [ed, Int.toNat_natCast, chunks_flat s hs]
  cases o with
  | false =>
    obtain ⟨k1, k2⟩ := key _ rfl
    simp only [putB, cond_false, List.singleton_append, unput]
    rw [if_neg (by decide), if_neg (by simp)]
    simp only [show ¬ (0 : Int) = 1 by decide, if_false, decide_false]
    rw [if_pos k1, k2]
    have h2 := h.2.resolve_left (by simp)
    rw [h2.1, h2.2]
  | true =>
    have e2 : ((p ++ v) ++ (grp s.length ++ s.flatten)).drop 64 = grp s.length ++ s.flatten := by
      have : (p ++ v).length = 64 := by rw [List.length_append, hp.1, hv.1]
      rw [← this, List.drop_left]
    obtain ⟨k1, k2⟩ := key _ e2
    simp only [putB, cond_true, List.cons_append, unput]
    rw [if_neg (by decide), if_neg (by simp only [List.length_append, hp.1, hv.1]; omega)]
    simp only [if_true, decide_true]
    rw [if_pos k1, k2]
    have e3 : ((p ++ v) ++ (grp s.length ++ s.flatten)).take 32 = p := by rw [List.append_assoc, ← hp.1, List.take_left]
    have e4 : (((p ++ v) ++ (grp s.length ++ s.flatten)).drop 32).take 32 = v := by
      rw [List.append_assoc, ← hp.1, List.drop_left, hp.1, ← hv.1, List.take_left]
    rw [e3, e4]
theorem unput_ok {b : List Int} (hb : B8 b) {x : List (List Int) × Bool × List Int × List Int} (h : unput b = some x) : mayPut x.1 x.2.1 x.2.2.1 x.2.2.2 = true ∧ putB x.1 x.2.1 x.2.2.1 x.2.2.2 = b ∧ (∀ d ∈ x.1, Dig d) ∧ Dig x.2.2.1 ∧ Dig x.2.2.2 := by
  cases b with
  | nil => simp [unput] at h
  | cons g l =>
    have hl : B8 l := fun x hx => hb x (by simp [hx])
    have hg := hb g (by simp)
    simp only [unput] at h
    by_cases h1 : 1 < g
    · rw [if_pos h1] at h; cases h
    rw [if_neg h1] at h
    by_cases h2 : g = 1 ∧ l.length < 64
    · rw [if_pos h2] at h; cases h
    rw [if_neg h2] at h
    have key : ∀ r : List Int, B8 r → ((rc r).2.2 = 0 ∧ (rc r).1 ≤ 256 ∧ (r.length : Int) - (rc r).2.1 = 32 * (rc r).1) → (chunks (rc r).1.toNat (r.drop (rc r).2.1.toNat)).length ≤ 256 ∧ grp (chunks (rc r).1.toNat (r.drop (rc r).2.1.toNat)).length ++ (chunks (rc r).1.toNat (r.drop (rc r).2.1.toNat)).flatten = r ∧ ∀ d ∈ chunks (rc r).1.toNat (r.drop (rc r).2.1.toNat), Dig d := by
      intro r hr h3
      obtain ⟨q, q1, q2, q3, -⟩ := rcGo_ok 5 0 0 r hr h3.1
      change (rc r).1 = _ at q1
      change (rc r).2.1 = _ at q2
      simp only [Nat.pow_zero, Nat.mul_one, Nat.zero_add] at q1 q2
      rw [q1, q2] at h3
      rw [q1, q2, Int.toNat_natCast, Int.toNat_natCast]
      have hle : (grp q).length ≤ r.length := by
        have := congrArg List.length q3
        rw [List.length_take] at this
        omega
      obtain ⟨c1, c2, c3⟩ := chunks_ok q (r.drop (grp q).length) (hr.drop _) (by rw [List.length_drop]; omega)
      refine ⟨by omega, ?_, c3⟩
      rw [c1, c2]
      conv => rhs; rw [← List.take_append_drop (grp q).length r, q3]
    by_cases h3 : g = 1
    · subst h3
      simp only [if_true, decide_true] at h
      split at h
      · rename_i h4
        obtain ⟨k1, k2, k3⟩ := key _ (hl.drop 64) h4
        obtain rfl := Option.some.inj h
        have hlen : 64 ≤ l.length := by
          by_cases h5 : l.length < 64
          · exact absurd ⟨rfl, h5⟩ h2
          · omega
        refine ⟨by simp only [mayPut, plainP, Bool.true_or, Bool.and_true]; exact decide_eq_true k1, ?_, k3, ⟨by show (l.take 32).length = 32; rw [List.length_take]; omega, hl.take 32⟩, ⟨by show ((l.drop 32).take 32).length = 32; rw [List.length_take, List.length_drop]; omega, (hl.drop 32).take 32⟩⟩
        simp only [putB, cond_true, k2, List.cons_append]
        rw [← List.take_add, List.take_append_drop]
      · cases h
    · simp only [h3, if_false, decide_false] at h
      split at h
      · rename_i h4
        obtain ⟨k1, k2, k3⟩ := key _ hl h4
        obtain rfl := Option.some.inj h
        refine ⟨by simp [mayPut, plainP, k1], ?_, k3, Dig.zero, Dig.zero⟩
        simp only [putB, cond_false, k2, List.singleton_append]
        congr 1
        omega
      · cases h

-- the laws
theorem puts_s (k : Nat) {K : Bool → Prop} (hk : 3000 ≤ k) (h : K true) : F_l06_puts k K := by
  obtain ⟨k, rfl⟩ : ∃ m, k = m + 1 := ⟨k - 1, by omega⟩
  rw [F_l06_puts]
  simp only [Hold_eq]
  refine Put_s k (by simp) Dig.zero Dig.zero (by omega) ?_
  rw [show mayPut [] false z32 z32 = true by decide]
  have eb : putB [] false z32 z32 = [0, 0] := by
    simp only [putB, cond_false, List.length_nil, List.flatten_nil, List.append_nil]
    rw [grp_small (by decide)]; rfl
  simp only [cond_true]
  rw [eb]
  have b2 : B8 [0, 0] := B8.cons (by decide) (B8.cons (by decide) B8.nil)
  refine Get_s k b2 (by decide) (by omega) ?_
  have eu : unput [0, 0] = some ([], false, z32, z32) := by
    have := unput_put (s := []) (o := false) (by simp) Dig.zero Dig.zero (by decide)
    rwa [eb] at this
  unfold getK
  rw [eu]
  refine Get_s k (B8.cons (by decide) B8.nil) (by decide) (by omega) ?_
  unfold getK
  rw [show unput [0] = none by decide]
  have es : seq (bytesOf [0, 0]) str0 = true := decide_eq_true rfl
  rw [es]
  exact h
theorem l06_Puts (s : List (List Int)) (o : Bool) (p v : List Int) (hs : ∀ d ∈ s, Dig d) (hp : Dig p) (hv : Dig v) : ∃ k, F_l06_ProofPuts k s o p v (fun b => b = true) := by
  suffices h : ∀ k, 5000 ≤ k → F_l06_ProofPuts (k + 1) s o p v (fun b => b = true) from ⟨_, h 5000 (Nat.le_refl _)⟩
  intro k hk
  rw [F_l06_ProofPuts]
  simp only [Hold_eq]
  refine cond_dec (fun _ => trivial) (fun h1 => ?_)
  refine r06_Own_s k (by omega) (by omega) ?_
  refine Put_s k hs hp hv (by omega) ?_
  have hd : decide (s = s ∧ o = o ∧ p = p ∧ v = v) = true := decide_eq_true ⟨rfl, rfl, rfl, rfl⟩
  cases hm : mayPut s o p v with
  | false =>
    simp only [cond_false]
    refine r06_Put_s k hs hp hv (by omega) ?_
    rw [hm]
    simp only [cond_false]
    refine cond_ndec (fun h => absurd (by trivial) h) (fun _ => ?_)
    refine cond_nb (fun h => by simp [seq] at h) (fun _ => ?_)
    refine r06_Same_s k (by omega) (by omega) ?_
    rw [hd]
    simp only [Bool.not_true, cond_false]
    exact cond_ndec (fun _ => puts_s k (by omega) rfl) (fun h => absurd h (by decide))
  | true =>
    simp only [cond_true]
    refine r06_Put_s k hs hp hv (by omega) ?_
    rw [hm]
    simp only [cond_true]
    refine cond_ndec (fun h => absurd (by trivial) h) (fun _ => ?_)
    refine cond_nb (fun h => by simp [seq] at h) (fun _ => ?_)
    refine r06_Same_s k (by omega) (by omega) ?_
    rw [hd]
    simp only [Bool.not_true, cond_false]
    refine cond_ndec (fun h => absurd (by trivial) h) (fun _ => ?_)
    have hle : s.length ≤ 256 := by simp only [mayPut, Bool.and_eq_true, decide_eq_true_eq] at hm; exact hm.1
    have hg := grp_len 4 s.length (by have : (128 : Nat) ^ 5 = 34359738368 := rfl; omega)
    have hB : B8 (putB s o p v) := by
      unfold putB
      refine B8.append ?_ ((grp_B8 _).append (B8.flatten fun d hd => (hs d hd).2))
      cases o
      · exact B8.cons (by decide) B8.nil
      · exact B8.cons (by decide) (hp.2.append hv.2)
    have hlen : (putB s o p v).length ≤ 1000000000 := by
      unfold putB
      cases o <;> simp only [cond_true, cond_false, List.length_append, List.length_cons, List.length_nil, flat_len hs, hp.1, hv.1] <;> omega
    refine Get_s k hB hlen (by omega) ?_
    unfold getK
    rw [unput_put hs hp hv hm]
    refine puts_s k (by omega) ?_
    simp only [cond_true, decide_true]
    exact r06_Same_s k (by omega) (by omega) hd
theorem l06_Gets (b : List Int) (hb : B8 b) : ∃ k, F_l06_ProofGets k b (fun b => b = true) := by
  suffices h : ∀ k, 5000 ≤ k → F_l06_ProofGets (k + 1) b (fun b => b = true) from ⟨_, h 5000 (Nat.le_refl _)⟩
  intro k hk
  rw [F_l06_ProofGets]
  simp only [Hold_eq]
  refine cond_dec (fun _ => trivial) (fun h1 => ?_)
  refine Get_s k hb (by omega) (by omega) ?_
  unfold getK
  cases hu : unput b with
  | none =>
    refine r06_Get_s k hb (by omega) (by omega) ?_
    unfold getK
    rw [hu]
    refine cond_ndec (fun h => absurd (by trivial) h) (fun _ => ?_)
    refine r06_Same_s k (by simp) (by simp only [List.length_nil]; omega) ?_
    rw [decide_eq_true ⟨rfl, rfl, rfl, rfl⟩]
    simp only [Bool.not_true, cond_false]
    refine cond_ndec (fun _ => puts_s k (by omega) ?_) (fun h => absurd h (by decide))
    simp only [cond_true, decide_true]
  | some x =>
    obtain ⟨u1, u2, u3, u4, u5⟩ := unput_ok hb hu
    have hle : x.1.length ≤ 256 := by simp only [mayPut, Bool.and_eq_true, decide_eq_true_eq] at u1; exact u1.1
    refine r06_Get_s k hb (by omega) (by omega) ?_
    unfold getK
    rw [hu]
    refine cond_ndec (fun h => absurd (by trivial) h) (fun _ => ?_)
    refine r06_Same_s k (by omega) (by omega) ?_
    rw [decide_eq_true ⟨rfl, rfl, rfl, rfl⟩]
    simp only [Bool.not_true, cond_false]
    refine cond_ndec (fun h => absurd (by trivial) h) (fun _ => ?_)
    refine Put_s k u3 u4 u5 (by omega) ?_
    rw [u1, u2]
    simp only [cond_true]
    refine puts_s k (by omega) ?_
    have e : seq (bytesOf b) (bytesOf b) = true := decide_eq_true rfl
    simp only [cond_true, decide_true, e]
end Go.V
