/- what is made is the document's -/
import Derived.Test.YtepdmpjmlfeanaaGreatDoorVZ16X
import Derived.Test.YtepdmpjmlfeanaaGreatDoorVZ16O
set_option linter.unusedVariables false
set_option linter.unusedSimpArgs false
set_option maxRecDepth 4000
namespace Go.V
theorem pa_s (k : Nat) {K : List Int → List Int → Prop} (hk : 1 ≤ k) (h : K (List.replicate 32 0) v5) : F_l06_a k K := by
  obtain ⟨k, rfl⟩ : ∃ m, k = m + 1 := ⟨k - 1, by omega⟩
  rw [F_l06_a]; exact h
theorem pb_s (k : Nat) {K : List Int → List Int → Prop} (hk : 1 ≤ k) (h : K p128 v6) : F_l06_b k K := by
  obtain ⟨k, rfl⟩ : ∃ m, k = m + 1 := ⟨k - 1, by omega⟩
  rw [F_l06_b]; exact h
theorem sib_two {w : Int} {p : List Int} {m n : Nat} {l : List S_api_Leaf} (h : 1 < l.length) : sibs w p (m + 1) n l = digT w (bld w m (n + 1) (halfL l n (1 - bitN p n))) :: sibs w p m (n + 1) (halfL l n (bitN p n)) := by rw [sibs, if_pos h]
theorem near_two {p : List Int} {m n : Nat} {l : List S_api_Leaf} (h : 1 < l.length) : nearL p (m + 1) n l = nearL p m (n + 1) (halfL l n (bitN p n)) := by rw [nearL, if_pos h]
theorem eAB : rootE 32 [lfA, lfB] = 0 := by decide +kernel
theorem bA : bitN lfA.f0 0 = 0 := by decide +kernel
theorem bB : bitN lfB.f0 0 = 1 := by decide +kernel
theorem hA : halfL [lfA, lfB] 0 (bitN z32 0) = [lfA] := by
  rw [show bitN z32 0 = 0 from by decide +kernel]
  unfold halfL
  rw [List.filter_cons, if_pos (decide_eq_true bA), List.filter_cons, if_neg (by rw [bB]; decide)]; rfl
theorem hB : halfL [lfA, lfB] 0 (1 - bitN z32 0) = [lfB] := by
  rw [show bitN z32 0 = 0 from by decide +kernel]
  unfold halfL
  rw [List.filter_cons, if_neg (by rw [bA]; decide), List.filter_cons, if_pos (decide_eq_true bB)]; rfl
theorem sAB : sibL 32 z32 [lfA, lfB] = [rootL 32 [lfB]] := by
  unfold sibL
  rw [sib_two (m := 255) (by decide), hA, hB, digT_one, sibs_le (by decide)]
theorem nAB : endN z32 [lfA, lfB] = [lfA] := by
  unfold endN
  rw [near_two (m := 255) (by decide), hA, nearL_le (by decide)]
theorem makes_s (k : Nat) {K : Bool → Prop} (hk : 9000100 ≤ k) (h : K true) : F_l06_makes k K := by
  obtain ⟨k, rfl⟩ : ∃ m, k = m + 1 := ⟨k - 1, by omega⟩
  rw [F_l06_makes]
  simp only [Hold_eq]
  refine pa_s k (by omega) (pb_s k (by omega) (pa_s k (by omega) ?_))
  refine Make_s k (l := [lfA, lfB]) (LDig.cons lA_dig (LDig.cons lB_dig LDig.nil)) Dig.zero (by omega) (fun e => absurd eAB e) (fun _ => ?_)
  refine pa_s k (by omega) (pb_s k (by omega) ?_)
  refine Make_s k (l := [lfA]) (LDig.cons lA_dig LDig.nil) p128_dig (by omega) (fun e => absurd eA e) (fun _ => ?_)
  have n2 : endN p128 [lfA] = [lfA] := nearL_le (by decide)
  have s2 : sibL 32 p128 [lfA] = [] := sibs_le (by decide)
  rw [show (List.replicate 32 (0 : Int)) = z32 from rfl, nAB, sAB, n2, s2]
  have m1 : mHas z32 [lfA] = true := by decide +kernel
  have m2 : mVal z32 [lfA] = v5 := by decide +kernel
  have m3 : mHas p128 [lfA] = false := by decide +kernel
  have m4 : mOth p128 [lfA] = true := by decide +kernel
  have m5 : mOp p128 [lfA] = z32 := by decide +kernel
  rw [m1, m2, m3, m4, m5]
  refine cond_dec (fun _ => ?_) (fun e => absurd rfl e)
  rw [cond_true]
  refine pa_s k (by omega) (cond_dec (fun _ => ?_) (fun e => absurd rfl e))
  refine cond_dec (fun _ => ⟨by simp, ?_⟩) (fun e => absurd rfl e)
  refine pb_s k (by omega) (Leaf_i k (by decide) lB_dig.1 lB_dig.2 (by omega) (cond_dec (fun _ => ?_) (fun e => absurd rfl e)))
  refine cond_dec (fun _ => ?_) (fun e => absurd rfl e)
  rw [Bool.not_false, cond_true, cond_true]
  refine pa_s k (by omega) (cond_dec (fun _ => ?_) (fun e => absurd rfl e))
  exact h
theorem nearL_sub {p : List Int} : ∀ (m n : Nat) {l : List S_api_Leaf} {y : S_api_Leaf}, y ∈ nearL p m n l → y ∈ l := by
  intro m
  induction m with
  | zero => intro n l y h; exact h
  | succ m ih =>
    intro n l y h
    by_cases h2 : 1 < l.length
    · rw [near_two h2] at h
      exact (List.mem_filter.1 (ih (n + 1) h)).1
    · rwa [nearL_le (by omega)] at h
theorem nearL_len {p : List Int} : ∀ (m n : Nat) {l : List S_api_Leaf}, m + n = 256 → OkL n p l → (nearL p m n l).length ≤ 1 := by
  intro m
  induction m with
  | zero =>
    intro n l hn hl
    obtain rfl : n = 256 := by omega
    exact hl.len
  | succ m ih =>
    intro n l hn hl
    by_cases h2 : 1 < l.length
    · rw [near_two h2]; exact ih (n + 1) (by omega) (hl.half rfl)
    · rw [nearL_le (by omega)]; omega
theorem sibs_le256 (w : Int) {p : List Int} : ∀ (m n : Nat) {l : List S_api_Leaf}, (sibs w p m n l).length ≤ m := by
  intro m
  induction m with
  | zero => intro n l; exact Nat.le_refl _
  | succ m ih =>
    intro n l
    rw [sibs]
    split
    · have := ih (n + 1) (l := halfL l n (bitN p n))
      rw [List.length_cons]; omega
    · exact Nat.zero_le _

-- the document's
theorem pget_nil (p : List Int) : getL [] p = none := rfl
theorem pget_near {p : List Int} : ∀ (m n : Nat) {l : List S_api_Leaf}, getL (nearL p m n l) p = getL l p := by
  intro m
  induction m with
  | zero => intro n l; rfl
  | succ m ih =>
    intro n l
    rw [nearL]
    split
    · rw [ih (n + 1), half_get rfl]
    · rfl
theorem mHas_get {p : List Int} {l : List S_api_Leaf} (h : l.length ≤ 1) : mHas p l = (getL l p).isSome ∧ mVal p l = (getL l p).getD z32 := by
  match l, h with
  | [], _ => exact ⟨rfl, rfl⟩
  | [y], _ =>
    unfold mHas mVal getL
    by_cases e : y.f0 = p
    · rw [List.find?_cons_of_pos (by simpa using e)]
      simp [e]
    · rw [List.find?_cons_of_neg (by simpa using e)]
      simp [e]
  | _ :: _ :: _, h => simp at h
theorem rGet_loop {l : List S_api_Leaf} (hn : l.length ≤ 4096) {p : List Int} {K : List Int → Bool → Prop} : ∀ (m j k : Nat), j + m = l.length → m + 1 ≤ k → K ((getL (l.drop j) p).getD z32) (getL (l.drop j) p).isSome → C_r05_Get_2 k l (j : Int) p z32 K := by
  intro m
  induction m with
  | zero =>
    intro j k hj hk h
    obtain ⟨k, rfl⟩ : ∃ m, k = m + 1 := ⟨k - 1, by omega⟩
    rw [C_r05_Get_2]
    simp only [Hold_eq]
    rw [List.drop_of_length_le (by omega)] at h
    exact cond_dec (fun e => by omega) (fun e => h)
  | succ m ih =>
    intro j k hj hk h
    obtain ⟨k, rfl⟩ : ∃ m, k = m + 1 := ⟨k - 1, by omega⟩
    have hjl : j < l.length := by omega
    rw [C_r05_Get_2]
    simp only [Hold_eq]
    rw [Int.toNat_natCast, getD_at hjl, step64 j (by omega)]
    rw [drop_cons hjl] at h
    unfold getL at h ih
    refine cond_dec (fun e => ⟨⟨by omega, by omega⟩, cond_dec (fun g => ?_) (fun g => ?_)⟩) (fun e => by omega)
    · rw [List.find?_cons_of_pos (by simpa using g)] at h
      exact ⟨⟨by omega, by omega⟩, h⟩
    · rw [List.find?_cons_of_neg (by simpa using g)] at h
      exact ih (j + 1) k (by omega) (by omega) h
theorem rGet_s (k : Nat) {l : List S_api_Leaf} (hn : l.length ≤ 4096) {p : List Int} {K : List Int → Bool → Prop} (hk : 5000 ≤ k) (h : K ((getL l p).getD z32) (getL l p).isSome) : F_r05_Get k l p K := by
  obtain ⟨k, rfl⟩ : ∃ m, k = m + 1 := ⟨k - 1, by omega⟩
  rw [F_r05_Get]
  simp only [Hold_eq]
  exact rGet_loop hn l.length 0 k (by omega) (by omega) h
/-- the document's proof -/
def endOth (has : Bool) (l : List S_api_Leaf) : Bool := !has && decide (l.length = 1)
abbrev KM := Bool → List Int → List (List Int) → Bool → List Int → List Int → Int → Prop
theorem rmake_end (k : Nat) {p : List Int} {l : List S_api_Leaf} (hl : l.length ≤ 1) {b : Bool} {v z : List Int} {zz S : List (List Int)} {K : KM} (hk : 4 ≤ k) (e1 : b = mHas p l) (e2 : v = mVal p l)
    (h : K (mHas p l) (mVal p l) S (mOth p l) (mOp p l) (mOv p l) 0) : C_r06_Make_15 k b false z32 false z32 z32 b v false z32 z32 l zz S K ∧ C_r06_Make_15_1 k b l false z32 false z32 z32 b v false z32 z32 zz S K := by
  obtain ⟨k, rfl⟩ : ∃ m, k = m + 4 := ⟨k - 4, by omega⟩
  subst e1 e2
  match l, hl, h with
  | [], _, h =>
    constructor
    · rw [C_r06_Make_15]; simp only [Hold_eq]
      refine cond_nb (fun _ => cond_dec (fun e => by simp at e) (fun _ => ?_)) (fun g => by cases g)
      rw [C_r06_Make_19]; exact h
    · rw [C_r06_Make_15_1]; simp only [Hold_eq]
      refine cond_nb (fun _ => cond_dec (fun e => by simp at e) (fun _ => ?_)) (fun g => by cases g)
      rw [C_r06_Make_19]; exact h
  | [y], _, h =>
    simp only [mHas, mVal, mOth, mOp, mOv] at h ⊢
    by_cases g : y.f0 = p
    · simp only [if_pos g, decide_eq_true g, Bool.not_true] at h ⊢
      constructor
      · rw [C_r06_Make_15]; simp only [Hold_eq, Bool.not_true, cond_false]
        rw [C_r06_Make_19]; exact h
      · rw [C_r06_Make_15_1]; simp only [Hold_eq, Bool.not_true, cond_false]
        rw [C_r06_Make_19]; exact h
    · simp only [if_neg g, decide_eq_false g, Bool.not_false] at h ⊢
      constructor
      · rw [C_r06_Make_15]; simp only [Hold_eq, Bool.not_false, cond_true]
        refine cond_dec (fun _ => ?_) (fun e => absurd rfl e)
        rw [C_r06_Make_17]; simp only [Hold_eq]
        refine ⟨by simp, ?_⟩
        rw [C_r06_Make_18]; simp only [Hold_eq]
        refine ⟨by simp, ?_⟩
        rw [C_r06_Make_19]; exact h
      · rw [C_r06_Make_15_1]; simp only [Hold_eq, Bool.not_false, cond_true]
        refine cond_dec (fun _ => ?_) (fun e => absurd rfl e)
        rw [C_r06_Make_17_1]; simp only [Hold_eq]
        refine ⟨by simp, ?_⟩
        rw [C_r06_Make_18_1]; simp only [Hold_eq]
        refine ⟨by simp, ?_⟩
        rw [C_r06_Make_19]; exact h
  | _ :: _ :: _, hl, _ => simp at hl
theorem flip01 (p : List Int) (n : Nat) : IntKind.i64.wrap ((1 : Int) - ((bitN p n : Nat) : Int)) = ((1 - bitN p n : Nat) : Int) := by
  rcases bit01 p n with h | h <;> rw [h] <;> rfl
theorem rmake_loop {w : Int} (hw : 0 ≤ w ∧ w ≤ 32) {p : List Int} (hp : Dig p) {b : Bool} {v : List Int} : ∀ (m n k : Nat) {l : List S_api_Leaf} {zz S : List (List Int)} {K : KM},
    m + n = 256 → OkL n p l → l.length ≤ 4096 → S.length = n → 20 * m + 3000000 ≤ k → b = mHas p (nearL p m n l) → v = mVal p (nearL p m n l) →
    K (mHas p (nearL p m n l)) (mVal p (nearL p m n l)) (S ++ sibs w p m n l) (mOth p (nearL p m n l)) (mOp p (nearL p m n l)) (mOv p (nearL p m n l)) 0 →
    C_r06_Make_9_1 k w b (n : Int) p false z32 false z32 z32 b v false z32 z32 l zz S K ∧ C_r06_Make_9 k w b l (n : Int) p false z32 false z32 z32 b v false z32 z32 zz S K := by
  intro m
  induction m with
  | zero =>
    intro n k l zz S K hn hl hln hS hk e1 e2 h
    obtain rfl : n = 256 := by omega
    obtain ⟨k, rfl⟩ : ∃ m, k = m + 1 := ⟨k - 1, by omega⟩
    rw [sibs, List.append_nil] at h
    have hle := hl.len
    have he := rmake_end k (z := z32) (zz := zz) hle (by omega) e1 e2 h
    constructor
    · rw [C_r06_Make_9_1]; simp only [Hold_eq]
      exact cond_dec (fun e => by omega) (fun _ => he.1)
    · rw [C_r06_Make_9]; simp only [Hold_eq]
      exact cond_dec (fun e => by omega) (fun _ => he.2)
  | succ m ih =>
    intro n k l zz S K hn hl hln hS hk e1 e2 h
    by_cases h2 : 1 < l.length
    · rw [near_two h2] at e1 e2 h
      rw [sib_two h2] at h
      obtain ⟨k, rfl⟩ : ∃ m, k = m + 4 := ⟨k - 4, by omega⟩
      have b0 : (halfL l n (1 - bitN p n)).length ≤ l.length := List.length_filter_le _ _
      have b1 : (halfL l n (bitN p n)).length ≤ l.length := List.length_filter_le _ _
      obtain ⟨q', hq'⟩ := hl.half' (1 - bitN p n)
      have next := fun zz => (ih (n + 1) k (zz := zz) (S := S ++ [digT w (bld w m (n + 1) (halfL l n (1 - bitN p n)))]) (K := K) (by omega) (hl.half rfl) (by omega) (by simp; omega) (by omega) e1 e2 (by rw [List.append_assoc]; exact h)).1
      have hr : room (S.length + [digT w (bld w m (n + 1) (halfL l n (1 - bitN p n)))].length) 32 := by unfold room; simp only [List.length_cons, List.length_nil]; omega
      constructor
      · rw [C_r06_Make_9_1]; simp only [Hold_eq]
        refine cond_dec (fun _ => ?_) (fun e => by omega)
        rw [C_r06_Make_11_1]; simp only [Hold_eq]
        refine At_s (k + 2) hp (by omega) (by omega) ?_
        rw [C_r06_Make_12_1]; simp only [Hold_eq]
        rw [flip01]
        refine Half_s (k + 1) hl.dig hln _ (by omega) (by omega) ?_
        rw [C_r06_Make_13_1]; simp only [Hold_eq]
        rw [step64 n (by omega)]
        refine Digest_s hw m (n + 1) k (by omega) hq' (by omega) (by omega) ⟨hr, ?_⟩
        exact Half_s k hl.dig hln _ (by omega) (by omega) (next _)
      · rw [C_r06_Make_9]; simp only [Hold_eq]
        refine cond_dec (fun _ => ?_) (fun e => by omega)
        rw [C_r06_Make_11]; simp only [Hold_eq]
        refine At_s (k + 2) hp (by omega) (by omega) ?_
        rw [C_r06_Make_12]; simp only [Hold_eq]
        rw [flip01]
        refine Half_s (k + 1) hl.dig hln _ (by omega) (by omega) ?_
        rw [C_r06_Make_13]; simp only [Hold_eq]
        rw [step64 n (by omega)]
        refine Digest_s hw m (n + 1) k (by omega) hq' (by omega) (by omega) ⟨hr, ?_⟩
        exact Half_s k hl.dig hln _ (by omega) (by omega) (next _)
    · obtain ⟨k, rfl⟩ : ∃ m, k = m + 1 := ⟨k - 1, by omega⟩
      rw [nearL_le (by omega)] at e1 e2 h
      rw [sibs_le (by omega), List.append_nil] at h
      have he := rmake_end k (z := z32) (zz := zz) (by omega : l.length ≤ 1) (by omega) e1 e2 h
      constructor
      · rw [C_r06_Make_9_1]; simp only [Hold_eq]
        exact cond_dec (fun e => by omega) (fun _ => he.1)
      · rw [C_r06_Make_9]; simp only [Hold_eq]
        exact cond_dec (fun e => by omega) (fun _ => he.2)
theorem rMake_s (k : Nat) {w : Int} {l : List S_api_Leaf} {p : List Int} {K : KM} (hl : LDig l) (hp : Dig p) (hk : 30000000 ≤ k)
    (h0 : rootE w l ≠ 0 → K false z32 [] false z32 z32 (rootE w l))
    (h1 : rootE w l = 0 → K (mHas p (endN p l)) (mVal p (endN p l)) (sibL w p l) (mOth p (endN p l)) (mOp p (endN p l)) (mOv p (endN p l)) 0) (hln : l.length ≤ 200) : F_r06_Make k w l p K := by
  obtain ⟨k, rfl⟩ : ∃ m, k = m + 1 := ⟨k - 1, by omega⟩
  rw [F_r06_Make]
  simp only [Hold_eq]
  refine r05_Root_s k hl (by omega) (cond_ndec (fun e => h0 e) (fun e => ?_))
  obtain ⟨hw, hn, hd⟩ := rootE_ok e
  refine rGet_s k hn (by omega) ?_
  have hle := nearL_len 256 0 rfl (.of hl hd p)
  obtain ⟨g1, g2⟩ := mHas_get (p := p) hle
  rw [pget_near] at g1 g2
  exact (rmake_loop hw hp 256 0 k (S := []) rfl (.of hl hd p) (by omega) rfl (by omega) g1.symm g2.symm (h1 e)).2
theorem rSame_loop {l : List (List Int)} {a : Bool} {b c : List Int} {d : Bool} {e f : List Int} {K : Bool → Prop} (hn : l.length ≤ 4096) (h : K true) : ∀ (m j k : Nat), j + m = l.length → m + 1 ≤ k → C_r06_Same_4 k (j : Int) l a b c l d e f K := by
  intro m
  induction m with
  | zero =>
    intro j k hj hk
    obtain ⟨k, rfl⟩ : ∃ m, k = m + 1 := ⟨k - 1, by omega⟩
    rw [C_r06_Same_4]
    simp only [Hold_eq]
    exact cond_dec (fun e => by omega) (fun e => h)
  | succ m ih =>
    intro j k hj hk
    obtain ⟨k, rfl⟩ : ∃ m, k = m + 1 := ⟨k - 1, by omega⟩
    rw [C_r06_Same_4]
    simp only [Hold_eq]
    rw [step64 j (by omega)]
    exact cond_dec (fun e => ⟨⟨by omega, by omega⟩, ⟨by omega, by omega⟩, cond_ndec (fun g => absurd (by trivial) g) (fun _ => ih (j + 1) k (by omega) (by omega))⟩) (fun e => by omega)
theorem rSame_s (k : Nat) {l : List (List Int)} {a : Bool} {b c : List Int} {K : Bool → Prop} (hn : l.length ≤ 4096) (hk : 5000 ≤ k) (h : K true) : F_r06_Same k l a b c l a b c K := by
  obtain ⟨k, rfl⟩ : ∃ m, k = m + 1 := ⟨k - 1, by omega⟩
  rw [F_r06_Same]
  simp only [Hold_eq]
  rw [beq_self_eq_true, Bool.not_true, cond_false]
  refine cond_ndec (fun g => absurd (by trivial) g) (fun _ => cond_ndec (fun g => absurd (by trivial) g) (fun _ => cond_ndec (fun g => absurd (by trivial) g) (fun _ => ?_)))
  exact rSame_loop hn h l.length 0 k (by omega) (by omega)
theorem makes10 (k : Nat) {a b : Int} {K : Bool → Prop} (e : a = b) (hk : 9000200 ≤ k) (h : K true) : C_l06_ProofMakes_10 k a b K := by
  obtain ⟨k, rfl⟩ : ∃ m, k = m + 1 := ⟨k - 1, by omega⟩
  rw [C_l06_ProofMakes_10]
  simp only [Hold_eq]
  refine makes_s k (by omega) ?_
  rw [cond_true, decide_eq_true e]
  exact h
theorem l06_Makes (k : Nat) {w : Int} {l : List S_api_Leaf} {p : List Int} {K : Bool → Prop} (hl : LDig l) (hp : Dig p) (hk : 40000000 ≤ k) (h : K true) : F_l06_ProofMakes k w l p K := by
  obtain ⟨k, rfl⟩ : ∃ m, k = m + 1 := ⟨k - 1, by omega⟩
  rw [F_l06_ProofMakes]
  simp only [Hold_eq]
  refine cond_dec (fun hn => ?_) (fun hn => ?_)
  · have key : ∀ e : Int, e = rootE w l → F_r05_Width k w (fun r11 => cond (!r11) (C_l06_ProofMakes_10 k e (1 : Int) K) (cond (decide ((4096 : Int) < ((List.length l : Nat) : Int))) (C_l06_ProofMakes_10 k e (2 : Int) K) (F_r05_Twice k l (fun r15 => cond r15 (C_l06_ProofMakes_10 k e (30 : Int) K) (C_l06_ProofMakes_10 k e (0 : Int) K))))) := by
      intro e he
      unfold rootE at he
      refine r05_Width_s k (by omega) (cond_ndec (fun hw => ?_) (fun hw => ?_))
      · rw [if_pos hw] at he
        exact makes10 k he (by omega) h
      · rw [if_neg (not_not_intro hw)] at he
        refine cond_dec (fun h1 => ?_) (fun h1 => ?_)
        · rw [if_pos (by omega)] at he
          exact makes10 k he (by omega) h
        · rw [if_neg (by omega)] at he
          refine Twice_s k (by omega) (by omega) (cond_dec (fun h2 => ?_) (fun h2 => ?_))
          · rw [if_pos h2] at he
            exact makes10 k he (by omega) h
          · rw [if_neg h2] at he
            exact makes10 k he (by omega) h
    exact Make_s k hl hp (by omega) (fun e => key _ rfl) (fun e => key _ e.symm)
  · have done : ∀ (a : Bool) (b c : List Int) (S : List (List Int)) (d : Bool) (f g : List Int) (e : Int), S.length ≤ 4096 → F_l06_makes k (fun r30 => cond r30 (cond ((a == a) && ((decide (b = b)) && true)) (cond (decide (e = e)) (F_r06_Same k S d f g S d f g (fun r31 => K r31)) (K false)) (K false)) (K false)) := by
      intro a b c S d f g e hS
      refine makes_s k (by omega) ?_
      rw [cond_true, beq_self_eq_true, decide_eq_true rfl, decide_eq_true rfl]
      exact rSame_s k hS (by omega) h
    refine Make_s k hl hp (by omega) (fun e => ?_) (fun e => ?_)
    · exact rMake_s k hl hp (by omega) (fun _ => done _ _ [] _ _ _ _ _ (by simp)) (fun e' => absurd e' e) (by omega)
    · exact rMake_s k hl hp (by omega) (fun e' => absurd e e') (fun _ => done _ _ [] _ _ _ _ _ (by have := sibs_le256 w 256 0 (p := p) (l := l); unfold sibL; omega)) (by omega)
end Go.V
