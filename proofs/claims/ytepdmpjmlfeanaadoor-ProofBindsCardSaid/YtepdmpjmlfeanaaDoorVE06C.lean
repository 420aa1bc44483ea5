/- what the proofs' clash and its document compute -/
import Derived.Test.YtepdmpjmlfeanaaDoorVE06W
set_option linter.unusedVariables false
set_option linter.unusedSimpArgs false
set_option maxRecDepth 4000
namespace Go.V
/-- all that is summed on the way up -/
def runL (W : Nat) (p : List Int) (s : List (List Int)) : Nat → Nat → List Int → List (List Int)
  | 0, _, v => [v]
  | m + 1, i, v => v :: runL W p s m (i - 1) (stepB W p (s.getD (i - 1) z32) (i - 1) v)
theorem runL_len (W : Nat) (p : List Int) (s : List (List Int)) : ∀ (m i : Nat) (v : List Int), (runL W p s m i v).length = m + 1
  | 0, _, _ => rfl
  | m + 1, i, v => by rw [runL, List.length_cons, runL_len W p s m]
theorem runL_at (W : Nat) (p : List Int) (s : List (List Int)) : ∀ (m i : Nat) (v : List Int) (j : Nat), j ≤ m → (runL W p s m i v).getD j [] = upB W p s j i v
  | m, i, v, 0, _ => by cases m <;> rfl
  | 0, i, v, j + 1, h => by omega
  | m + 1, i, v, j + 1, h => by
    rw [runL, List.getD_cons_succ, runL_at W p s m _ _ j (by omega)]
    rfl
/-- the first two that differ -/
def clashF : List (List Int) → List (List Int) → List Int × List Int × Int
  | a :: A, b :: B => if a = b then clashF A B else (a, b, 0)
  | _, _ => ([], [], 42)
def sumsL (W : Nat) (p : List Int) (s : List (List Int)) (st : List Int) : List (List Int) := (runL W p s s.length s.length st).reverse
theorem sumsL_len (W : Nat) (p : List Int) (s : List (List Int)) (st : List Int) : (sumsL W p s st).length = s.length + 1 := by rw [sumsL, List.length_reverse, runL_len]
theorem sumsL_at {W : Nat} {p : List Int} {s : List (List Int)} {st : List Int} {t : Nat} (h : t ≤ s.length) : (sumsL W p s st).getD t [] = upB W p s (s.length - t) s.length st := by
  have hl := runL_len W p s s.length s.length st
  have h1 : t < (runL W p s s.length s.length st).reverse.length := by rw [List.length_reverse]; omega
  unfold sumsL
  rw [getD_at h1, List.getElem_reverse]
  have h2 : (runL W p s s.length s.length st).length - 1 - t < (runL W p s s.length s.length st).length := by omega
  rw [← runL_at W p s s.length s.length st (s.length - t) (by omega), getD_at (by omega)]
  congr 1
  omega
theorem y3b_s (k : Nat) {W : Nat} {p d : List Int} {i : Nat} {has : Bool} {val : List Int} {s : List (List Int)} {oth : Bool} {op ov cur : List Int} {acc : List (List Int)}
    {K : Int → List Int → Bool → List Int → List (List Int) → Bool → List Int → List Int → List Int → List Int → List (List Int) → Prop}
    (hW : W ≤ 32) (hp : Dig p) (hd : Dig d) (hi : i < 256) (hc : Rung cur) (hacc : acc.length ≤ 1000) (hk : 4000 ≤ k) (h : K W p has val s oth op ov cur (stepB W p d i cur) (acc ++ [cur])) :
    F_proof_said_rungs_1_y3_s1 k (i : Int) d (W : Int) p has val s oth op ov cur acc K := by
  obtain ⟨k, rfl⟩ : ∃ m, k = m + 2 := ⟨k - 2, by omega⟩
  rw [F_proof_said_rungs_1_y3_s1]
  simp only [Hold_eq]
  rw [F_slices_AppendSeq_byte_byte_y2]
  have hc2 := hc.2
  refine ⟨by unfold room; simp only [List.length_cons, List.length_nil]; omega, smt_Short_s (k + 1) hW (by omega) (by omega) (right_s (k + 1) hp hi (by omega) ?_)⟩
  unfold stepB at h
  refine cond_dec (fun h1 => ?_) (fun h1 => ?_)
  · rw [if_pos h1] at h
    exact bytes2_s (k + 1) hd (shortL_dig hW _) (by omega) h
  · rw [if_neg h1] at h
    exact bytes2_s (k + 1) (shortL_dig hW _) hd (by omega) h
theorem backb_loop {W : Nat} {p : List Int} {has : Bool} {val : List Int} {s : List (List Int)} {oth : Bool} {op ov v0 : List Int}
    (hW : W ≤ 32) (hp : Dig p) (hs : ∀ d ∈ s, Dig d) (hn : s.length ≤ 256) : ∀ (i k : Nat) (cur : List Int) (acc : List (List Int))
    {K : List (List Int) → Int → List Int → Bool → List Int → List (List Int) → Bool → List Int → List Int → List Int → List Int → List (List Int) → Prop},
    i ≤ s.length → 2 * i + 4010 ≤ k → acc.length + i ≤ 900 → Rung cur → (∀ a c, a ++ [c] = acc ++ runL W p s i i cur → K s W p has val s oth op ov v0 c a) →
    C_slices_Backward_api_Digest_api_Digest_1_1_3 k ((i : Int) - 1) s (W : Int) p has val s oth op ov v0 cur acc K := by
  intro i
  induction i with
  | zero =>
    intro k cur acc K hi hk ha hc h
    obtain ⟨k, rfl⟩ : ∃ m, k = m + 1 := ⟨k - 1, by omega⟩
    rw [C_slices_Backward_api_Digest_api_Digest_1_1_3]
    exact cond_dec (fun h1 => by omega) (fun h1 => h acc cur rfl)
  | succ i ih =>
    intro k cur acc K hi hk ha hc h
    obtain ⟨k, rfl⟩ : ∃ m, k = m + 2 := ⟨k - 2, by omega⟩
    rw [C_slices_Backward_api_Digest_api_Digest_1_1_3]
    simp only [Hold_eq]
    refine cond_dec (fun h1 => ?_) (fun h1 => by omega)
    rw [C_slices_Backward_api_Digest_api_Digest_1_3_3]
    simp only [Hold_eq]
    have e : (((i + 1 : Nat) : Int) - 1) = (i : Int) := by omega
    have hd : Dig (s.getD i z32) := by rw [getD_at (by omega : i < s.length)]; exact hs _ (List.getElem_mem _)
    rw [e, wrap64 (by omega), Int.toNat_natCast]
    refine ⟨by omega, y3b_s k hW hp hd (by omega) hc (by omega) (by omega) ?_⟩
    refine ih k _ _ (by omega) (by omega) (by rw [List.length_append]; simp only [List.length_cons, List.length_nil]; omega) (step_rung hW hd) fun a c hac => h a c ?_
    rw [hac, runL, List.append_assoc]
    rfl
theorem collect_s (k : Nat) {W : Nat} {p : List Int} {has : Bool} {val : List Int} {s : List (List Int)} {oth : Bool} {op ov : List Int}
    {K : Int → List Int → Bool → List Int → List (List Int) → Bool → List Int → List Int → List (List Int) → Prop}
    (hW : W ≤ 32) (hp : Dig p) (hv : Dig val) (hop : Dig op) (hov : Dig ov) (hs : ∀ d ∈ s, Dig d) (hn : s.length ≤ 256) (hk : 5000 ≤ k)
    (h : K W p has val s oth op ov (runL W p s s.length s.length (startB p has val oth op ov))) :
    F_slices_Collect_byte k (W : Int) p has val s oth op ov K := by
  obtain ⟨k, rfl⟩ : ∃ m, k = m + 5 := ⟨k - 5, by omega⟩
  rw [F_slices_Collect_byte]
  simp only [Hold_eq]
  rw [F_slices_AppendSeq_byte_byte]
  simp only [Hold_eq]
  rw [F_proof_said_rungs_1_s1]
  simp only [Hold_eq]
  refine start_s (k + 2) hp hv hop hov (by omega) ?_
  rw [F_slices_Backward_api_Digest_api_Digest, F_slices_Backward_api_Digest_api_Digest_1_s1]
  simp only [Hold_eq]
  have hst := start_rung (has := has) (oth := oth) hp hv hop hov
  rw [C_slices_Backward_api_Digest_api_Digest_1_1_2, wrap64 (by omega)]
  simp only [Hold_eq]
  refine cond_dec (fun h1 => ?_) (fun h1 => ?_)
  · obtain ⟨k, rfl⟩ : ∃ m, k = m + 1 := ⟨k - 1, by omega⟩
    rw [C_slices_Backward_api_Digest_api_Digest_1_3_2]
    simp only [Hold_eq]
    obtain ⟨n, hn2⟩ : ∃ n, s.length = n + 1 := ⟨s.length - 1, by omega⟩
    have e : ((s.length : Nat) : Int) - 1 = (n : Int) := by omega
    have hd : Dig (s.getD n z32) := by rw [getD_at (by omega : n < s.length)]; exact hs _ (List.getElem_mem _)
    rw [e, wrap64 (by omega), Int.toNat_natCast]
    refine ⟨by omega, y3b_s k hW hp hd (by omega) hst (by simp) (by omega) ?_⟩
    refine backb_loop hW hp hs hn n k _ _ (by omega) (by omega) (by simp only [List.length_append, List.length_cons, List.length_nil]; omega) (step_rung hW hd) fun a c hac => ?_
    rw [F_slices_AppendSeq_byte_byte_y2, hac]
    have hl := congrArg List.length hac
    simp only [List.length_append, List.length_cons, List.length_nil, runL_len] at hl
    refine ⟨by unfold room; simp only [List.length_cons, List.length_nil]; omega, ?_⟩
    rw [hn2] at h
    exact h
  · have e : s.length = 0 := by omega
    rw [e] at h
    rw [F_slices_AppendSeq_byte_byte_y2]
    exact ⟨by unfold room; simp, h⟩
-- a list is turned
theorem Reverse_loop {l : List (List Int)} (hn : l.length ≤ 1000) : ∀ (m t k : Nat) (a : List (List Int)) {K : List (List Int) → Prop}, 2 * t + m = l.length → m + 2 ≤ k → a.length = l.length →
    (∀ i, i < l.length → a.getD i [] = if i < t ∨ l.length - 1 < i + t then l.getD (l.length - 1 - i) [] else l.getD i []) → K l.reverse →
    C_slices_Reverse_byte_byte_1 k (t : Int) ((l.length : Int) - 1 - t) a K := by
  intro m
  induction m using Nat.strongRecOn with
  | _ m ih =>
    intro t k a K hm hk ha hi h
    obtain ⟨k, rfl⟩ : ∃ m, k = m + 1 := ⟨k - 1, by omega⟩
    rw [C_slices_Reverse_byte_byte_1]
    simp only [Hold_eq]
    refine cond_dec (fun h1 => ?_) (fun h1 => ?_)
    · have e1 : ((l.length : Int) - 1 - t).toNat = l.length - 1 - t := by omega
      have e2 : ((t : Int)).toNat = t := by omega
      rw [e1, e2]
      refine ⟨by omega, by omega, by omega, by rw [List.length_set]; omega, ?_⟩
      have e3 : IntKind.i64.wrap ((l.length : Int) - 1 - t - 1) = (l.length : Int) - 1 - ((t + 1 : Nat) : Int) := by rw [wrap64 (by omega)]; omega
      rw [step64 t (by omega), e3]
      refine ih (m - 2) (by omega) (t + 1) k _ (by omega) (by omega) (by rw [List.length_set, List.length_set, ha]) (fun i hil => ?_) h
      have g1 := hi t (by omega)
      have g2 := hi (l.length - 1 - t) (by omega)
      rw [if_neg (by omega)] at g1 g2
      have gi := hi i hil
      rw [g1, g2]
      by_cases c2 : i = l.length - 1 - t
      · subst c2
        rw [if_pos (by omega), show l.length - 1 - (l.length - 1 - t) = t by omega]
        rw [List.getD_eq_getElem?_getD, List.getElem?_set_self (by rw [List.length_set]; omega)]
        rfl
      · rw [List.getD_eq_getElem?_getD, List.getElem?_set_ne (by omega)]
        by_cases c1 : i = t
        · subst c1
          rw [if_pos (by omega), List.getElem?_set_self (by omega)]
          rfl
        · rw [List.getElem?_set_ne (by omega), ← List.getD_eq_getElem?_getD, gi]
          by_cases c3 : i < t ∨ l.length - 1 < i + t
          · rw [if_pos c3, if_pos (by omega)]
          · rw [if_neg c3, if_neg (by omega)]
    · have : a = l.reverse := by
        refine List.ext_getElem (by rw [List.length_reverse, ha]) fun i h2 h3 => ?_
        have gi := hi i (by omega)
        rw [getD_at h2] at gi
        rw [gi, List.getElem_reverse]
        by_cases c : i < t ∨ l.length - 1 < i + t
        · rw [if_pos c, getD_at (by omega)]
        · have : i = l.length - 1 - i := by omega
          rw [if_neg c, getD_at (by omega)]
          congr 1
      rw [this]; exact h
theorem Reverse_s (k : Nat) {l : List (List Int)} {K : List (List Int) → Prop} (hn : l.length ≤ 1000) (hk : l.length + 4 ≤ k) (h : K l.reverse) : F_slices_Reverse_byte_byte k l K := by
  obtain ⟨k, rfl⟩ : ∃ m, k = m + 1 := ⟨k - 1, by omega⟩
  rw [F_slices_Reverse_byte_byte]
  simp only [Hold_eq]
  rw [wrap64 (by omega)]
  have := Reverse_loop (l := l) hn l.length 0 k l (K := K) (by omega) (by omega) rfl (fun i hi => by rw [if_neg (by omega)]) h
  simpa using this
theorem Equal_loop {a b : List Int} (hl : a.length = b.length) (hn : a.length ≤ 1000) : ∀ (m j k : Nat) {K : Bool → Prop}, j + m = a.length → m + 1 ≤ k → K (decide (a.drop j = b.drop j)) → C_slices_Equal_byte_byte_4 k a b (a.length : Int) (j : Int) K := by
  intro m
  induction m with
  | zero =>
    intro j k K hj hk h
    obtain ⟨k, rfl⟩ : ∃ m, k = m + 1 := ⟨k - 1, by omega⟩
    rw [C_slices_Equal_byte_byte_4]
    refine cond_dec (fun h1 => by omega) (fun h1 => ?_)
    rw [List.drop_of_length_le (by omega), List.drop_of_length_le (by omega)] at h
    simpa using h
  | succ m ih =>
    intro j k K hj hk h
    obtain ⟨k, rfl⟩ : ∃ m, k = m + 1 := ⟨k - 1, by omega⟩
    rw [C_slices_Equal_byte_byte_4]
    simp only [Hold_eq]
    refine cond_dec (fun h1 => ?_) (fun h1 => by omega)
    have hj1 : j < a.length := by omega
    have hj2 : j < b.length := by omega
    rw [Int.toNat_natCast, getD_at hj1, getD_at hj2, step64 j (by omega)]
    rw [drop_cons hj1, drop_cons hj2] at h
    refine ⟨by omega, by omega, cond_ndec (fun h2 => ?_) (fun h2 => ?_)⟩
    · have : decide (a[j] :: a.drop (j + 1) = b[j] :: b.drop (j + 1)) = false := decide_eq_false fun e => h2 (List.cons.inj e).1
      rw [this] at h; exact h
    · refine ih (j + 1) k (by omega) (by omega) ?_
      have : decide (a[j] :: a.drop (j + 1) = b[j] :: b.drop (j + 1)) = decide (a.drop (j + 1) = b.drop (j + 1)) := by simp only [List.cons.injEq, h2, true_and]
      rw [this] at h; exact h
theorem Equal_s (k : Nat) {a b : List Int} {K : Bool → Prop} (hn : a.length ≤ 1000) (hk : a.length + 3 ≤ k) (h : K (decide (a = b))) : F_slices_Equal_byte_byte k a b K := by
  obtain ⟨k, rfl⟩ : ∃ m, k = m + 1 := ⟨k - 1, by omega⟩
  rw [F_slices_Equal_byte_byte]
  simp only [Hold_eq]
  refine cond_ndec (fun h1 => ?_) (fun h1 => ?_)
  · have : ¬ a = b := fun e => h1 (by rw [e])
    rw [decide_eq_false this] at h; exact h
  · exact Equal_loop (by omega) hn a.length 0 k (by omega) (by omega) (by simpa using h)
theorem clash_loop {A B : List (List Int)} (hA : ∀ a ∈ A, a.length ≤ 65) (hn : A.length ≤ 1000) : ∀ (m j k : Nat) {K0 K1 : List Int → List Int → Int → Prop}, j + m = min A.length B.length → m + 100 ≤ k →
    ((clashF (A.drop j) (B.drop j)).2.2 ≠ 0 → K0 (clashF (A.drop j) (B.drop j)).1 (clashF (A.drop j) (B.drop j)).2.1 (clashF (A.drop j) (B.drop j)).2.2) →
    ((clashF (A.drop j) (B.drop j)).2.2 = 0 → K1 (clashF (A.drop j) (B.drop j)).1 (clashF (A.drop j) (B.drop j)).2.1 0) →
    C_proof_Clash_14 k ((min A.length B.length : Nat) : Int) (j : Int) A B K0 K1 := by
  intro m
  induction m with
  | zero =>
    intro j k K0 K1 hj hk h0 h1
    obtain ⟨k, rfl⟩ : ∃ m, k = m + 1 := ⟨k - 1, by omega⟩
    rw [C_proof_Clash_14]
    refine cond_dec (fun h2 => by omega) (fun h2 => ?_)
    have : clashF (A.drop j) (B.drop j) = ([], [], 42) := by
      rcases Nat.le_total A.length B.length with h3 | h3
      · rw [List.drop_of_length_le (l := A) (by omega)]; unfold clashF; rfl
      · rw [List.drop_of_length_le (l := B) (by omega)]
        generalize A.drop j = X
        cases X <;> rfl
    rw [this] at h0
    exact h0 (by decide)
  | succ m ih =>
    intro j k K0 K1 hj hk h0 h1
    obtain ⟨k, rfl⟩ : ∃ m, k = m + 1 := ⟨k - 1, by omega⟩
    rw [C_proof_Clash_14]
    simp only [Hold_eq]
    refine cond_dec (fun h2 => ?_) (fun h2 => by omega)
    have hj1 : j < A.length := by omega
    have hj2 : j < B.length := by omega
    have hl := hA _ (List.getElem_mem hj1)
    rw [Int.toNat_natCast, getD_at hj1, getD_at hj2, step64 j (by omega)]
    refine ⟨by omega, by omega, Equal_s k (by omega) (by omega) (cond_ndec (fun h3 => ?_) (fun h3 => ?_))⟩
    · have e : clashF (A.drop j) (B.drop j) = (A[j], B[j], 0) := by rw [drop_cons hj1, drop_cons hj2, clashF, if_neg h3]
      rw [e] at h1
      exact ⟨by omega, by omega, h1 rfl⟩
    · have e : clashF (A.drop j) (B.drop j) = clashF (A.drop (j + 1)) (B.drop (j + 1)) := by rw [drop_cons hj1, drop_cons hj2, clashF, if_pos h3]
      rw [e] at h0 h1
      exact ih (j + 1) k (by omega) (by omega) h0 h1
theorem checkV_zero {w : Int} {root p : List Int} {has : Bool} {val : List Int} {s : List (List Int)} {oth : Bool} {op ov : List Int} (h : checkV w root p has val s oth op ov = 0) :
    (0 ≤ w ∧ w ≤ 32) ∧ mayP p has val s oth op ov = true ∧ s.length ≤ 256 ∧ shortL w.toNat (upB w.toNat p s s.length s.length (startB p has val oth op ov)) = root := by
  unfold checkV at h
  by_cases h1 : 0 ≤ w ∧ w ≤ 32
  · rw [if_pos h1] at h
    cases h2 : mayP p has val s oth op ov
    · rw [h2] at h; cases h
    · rw [h2, cond_true] at h
      have h3 : s.length ≤ 256 := by
        unfold mayP at h2
        have := (Bool.and_eq_true _ _ ▸ h2 : _ ∧ _).1
        exact of_decide_eq_true this
      by_cases h4 : shortL w.toNat (upB w.toNat p s s.length s.length (startB p has val oth op ov)) = root
      · exact ⟨h1, rfl, h3, h4⟩
      · rw [if_neg h4] at h; cases h
  · rw [if_neg h1] at h; cases h
theorem runL_rung {W : Nat} (hW : W ≤ 32) {p : List Int} {s : List (List Int)} (hs : ∀ d ∈ s, Dig d) : ∀ (m i : Nat) (v : List Int), Rung v → m ≤ i → i ≤ s.length → ∀ x ∈ runL W p s m i v, Rung x
  | 0, i, v, hv, _, _ => by intro x hx; simp only [runL, List.mem_singleton] at hx; subst hx; exact hv
  | m + 1, i, v, hv, hm, hi => by
    intro x hx
    rw [runL] at hx
    rcases List.mem_cons.1 hx with rfl | hx
    · exact hv
    · refine runL_rung hW hs m (i - 1) _ (step_rung hW ?_) (by omega) (by omega) x hx
      rw [getD_at (by omega : i - 1 < s.length)]
      exact hs _ (List.getElem_mem _)
/-- what a clash answers -/
def clashV (w : Int) (root p : List Int) (h1 : Bool) (v1 : List Int) (s1 : List (List Int)) (o1 : Bool) (q1 u1 : List Int) (h2 : Bool) (v2 : List Int) (s2 : List (List Int)) (o2 : Bool) (q2 u2 : List Int) : List Int × List Int × Int :=
  if checkV w root p h1 v1 s1 o1 q1 u1 = 0 then
    if checkV w root p h2 v2 s2 o2 q2 u2 = 0 then
      if h1 = h2 ∧ v1 = v2 then ([], [], 42)
      else clashF (sumsL w.toNat p s1 (startB p h1 v1 o1 q1 u1)) (sumsL w.toNat p s2 (startB p h2 v2 o2 q2 u2))
    else ([], [], checkV w root p h2 v2 s2 o2 q2 u2)
  else ([], [], checkV w root p h1 v1 s1 o1 q1 u1)
theorem same_claim (h1 h2 : Bool) (v1 v2 : List Int) : ((h1 == h2) && ((decide (v1 = v2)) && true)) = decide (h1 = h2 ∧ v1 = v2) := by
  rw [Bool.and_true]
  cases h1 <;> cases h2 <;> simp
section
variable {w : Int} {root p : List Int} {h1 : Bool} {v1 : List Int} {s1 : List (List Int)} {o1 : Bool} {q1 u1 : List Int} {h2 : Bool} {v2 : List Int} {s2 : List (List Int)} {o2 : Bool} {q2 u2 : List Int}
theorem proof_Clash_s (k : Nat) {K0 K1 : List Int → List Int → Int → Prop} (hp : Dig p) (hv1 : Dig v1) (hq1 : Dig q1) (hu1 : Dig u1) (hs1 : ∀ d ∈ s1, Dig d) (hv2 : Dig v2) (hq2 : Dig q2) (hu2 : Dig u2) (hs2 : ∀ d ∈ s2, Dig d) (hk : 6000 ≤ k)
    (k0 : (clashV w root p h1 v1 s1 o1 q1 u1 h2 v2 s2 o2 q2 u2).2.2 ≠ 0 → K0 (clashV w root p h1 v1 s1 o1 q1 u1 h2 v2 s2 o2 q2 u2).1 (clashV w root p h1 v1 s1 o1 q1 u1 h2 v2 s2 o2 q2 u2).2.1 (clashV w root p h1 v1 s1 o1 q1 u1 h2 v2 s2 o2 q2 u2).2.2)
    (k1 : (clashV w root p h1 v1 s1 o1 q1 u1 h2 v2 s2 o2 q2 u2).2.2 = 0 → K1 (clashV w root p h1 v1 s1 o1 q1 u1 h2 v2 s2 o2 q2 u2).1 (clashV w root p h1 v1 s1 o1 q1 u1 h2 v2 s2 o2 q2 u2).2.1 0) :
    F_proof_Clash k w root p h1 v1 s1 o1 q1 u1 h2 v2 s2 o2 q2 u2 K0 K1 := by
  obtain ⟨k, rfl⟩ : ∃ m, k = m + 2 := ⟨k - 2, by omega⟩
  rw [F_proof_Clash]
  simp only [Hold_eq]
  unfold clashV at k0 k1
  refine said_check_s (k + 1) hp hv1 hq1 hu1 hs1 (by omega) (cond_ndec (fun c1 => ?_) (fun c1 => ?_))
  · rw [if_neg c1] at k0; exact k0 c1
  · rw [if_pos c1] at k0 k1
    refine said_check_s (k + 1) hp hv2 hq2 hu2 hs2 (by omega) (cond_ndec (fun c2 => ?_) (fun c2 => ?_))
    · rw [if_neg c2] at k0; exact k0 c2
    · rw [if_pos c2] at k0 k1
      rw [same_claim]
      refine cond_dec (fun c3 => ?_) (fun c3 => ?_)
      · rw [if_pos c3] at k0; exact k0 (by decide)
      · rw [if_neg c3] at k0 k1
        obtain ⟨hw, -, hn1, -⟩ := checkV_zero c1
        obtain ⟨-, -, hn2, -⟩ := checkV_zero c2
        obtain ⟨W, rfl⟩ := Int.eq_ofNat_of_zero_le hw.1
        rw [Int.toNat_natCast] at k0 k1
        have hW : W ≤ 32 := by omega
        simp only [F_proof_said_rungs]
        have r1 := runL_rung hW (p := p) hs1 s1.length s1.length _ (start_rung (has := h1) (oth := o1) hp hv1 hq1 hu1) (by omega) (by omega)
        have l1 := runL_len W p s1 s1.length s1.length (startB p h1 v1 o1 q1 u1)
        have l2 := runL_len W p s2 s2.length s2.length (startB p h2 v2 o2 q2 u2)
        refine collect_s (k + 1) hW hp hv1 hq1 hu1 hs1 hn1 (by omega) (collect_s (k + 1) hW hp hv2 hq2 hu2 hs2 hn2 (by omega) ?_)
        refine Reverse_s (k + 1) (by omega) (by omega) (Reverse_s (k + 1) (by omega) (by omega) ?_)
        have e : ∀ a b : Nat, minI (a : Int) (b : Int) = ((min a b : Nat) : Int) := by
          intro a b
          unfold minI
          by_cases g : (b : Int) < a
          · rw [decide_eq_true g, cond_true]; omega
          · rw [decide_eq_false g, cond_false]; omega
        rw [e]
        refine clash_loop (fun a ha => (r1 a (List.mem_reverse.1 ha)).2) (by rw [List.length_reverse]; omega) _ 0 (k + 1) (Nat.zero_add _) (by simp only [List.length_reverse]; omega) ?_ ?_
        · intro g; exact k0 g
        · intro g; exact k1 g
end
-- the clashes that a law begins with
def p5 : List Int := [5, 0, 0, 0, 0, 0, 0, 0, 0, 0, 0, 0, 0, 0, 0, 0, 0, 0, 0, 0, 0, 0, 0, 0, 0, 0, 0, 0, 0, 0, 0, 0]
theorem p5_dig : Dig p5 := dig_ok (by decide +kernel)
theorem sum_nz : ¬ shortL 32 (leafB p9 p5) = z32 := by
  unfold shortL
  rw [shaC2 (by decide +kernel)]
  decide +kernel
theorem short0 (m : List Int) : shortL 0 m = z32 := rfl
theorem clashes1 : clashV 0 z32 p9 true p5 [] false z32 z32 false z32 [] false z32 z32 = (leafB p9 p5, [2], 0) := by
  have e1 : checkV 0 z32 p9 true p5 [] false z32 z32 = 0 := by
    unfold checkV
    rw [if_pos (by decide), show mayP p9 true p5 [] false z32 z32 = true by decide +kernel, cond_true]
    exact if_pos (short0 _)
  have e2 : checkV 0 z32 p9 false z32 [] false z32 z32 = 0 := by
    unfold checkV
    rw [if_pos (by decide), show mayP p9 false z32 [] false z32 z32 = true by decide +kernel, cond_true]
    exact if_pos (short0 _)
  unfold clashV
  rw [if_pos e1, if_pos e2, if_neg (by decide)]
  exact if_neg (by decide +kernel)
theorem clashes2 : clashV 0 z32 p9 true p5 [] false z32 z32 true p5 [] false z32 z32 = ([], [], 42) := by
  have e1 : checkV 0 z32 p9 true p5 [] false z32 z32 = 0 := by
    unfold checkV
    rw [if_pos (by decide), show mayP p9 true p5 [] false z32 z32 = true by decide +kernel, cond_true]
    exact if_pos (short0 _)
  unfold clashV
  rw [if_pos e1, if_pos e1, if_pos ⟨rfl, rfl⟩]
theorem clashes3 : clashV 32 z32 p9 true p5 [] false z32 z32 false z32 [] false z32 z32 = ([], [], 41) := by
  have e1 : checkV 32 z32 p9 true p5 [] false z32 z32 = 41 := by
    unfold checkV
    rw [if_pos (by decide), show mayP p9 true p5 [] false z32 z32 = true by decide +kernel, cond_true]
    exact if_neg sum_nz
  unfold clashV
  rw [e1, if_neg (by decide)]
theorem clashes_s (k : Nat) {K : Bool → Prop} (hk : 6100 ≤ k) (h : K true) : F_l06_clashes k K := by
  obtain ⟨k, rfl⟩ : ∃ m, k = m + 4 := ⟨k - 4, by omega⟩
  have c1 := clashes1
  have c2 := clashes2
  have c3 := clashes3
  have d5 := p5_dig
  have d9 := p9_dig
  unfold p9 p5 at c1 c2 c3
  unfold p5 at d5
  unfold p9 at d9
  have dz : Dig ([0, 0, 0, 0, 0, 0, 0, 0, 0, 0, 0, 0, 0, 0, 0, 0, 0, 0, 0, 0, 0, 0, 0, 0, 0, 0, 0, 0, 0, 0, 0, 0] : List Int) := Dig.zero
  rw [F_l06_clashes]
  simp only [Hold_eq]
  refine proof_Clash_s (k + 3) d9 d5 Dig.zero Dig.zero (by simp) Dig.zero Dig.zero Dig.zero (by simp) (by omega) (fun g => ?_) (fun _ => ?_)
  · exact absurd (congrArg (·.2.2) c1) g
  refine cast (congrArg (fun r : List Int × List Int × Int => C_l06_clashes_4_1 (k + 3) r.1 r.2.1 0 _ _ _ K) c1.symm) ?_
  rw [C_l06_clashes_4_1]
  simp only [Hold_eq]
  refine proof_Clash_s (k + 2) d9 d5 Dig.zero Dig.zero (by simp) d5 Dig.zero Dig.zero (by simp) (by omega) (fun _ => ?_) (fun g => ?_)
  · refine cast (congrArg (fun r : List Int × List Int × Int => C_l06_clashes_5_1 (k + 2) _ _ 0 r.2.2 _ _ _ K) c2.symm) ?_
    rw [C_l06_clashes_5_1]
    simp only [Hold_eq]
    refine proof_Clash_s (k + 1) d9 d5 Dig.zero Dig.zero (by simp) Dig.zero Dig.zero Dig.zero (by simp) (by omega) (fun _ => ?_) (fun g => ?_)
    · refine cast (congrArg (fun r : List Int × List Int × Int => C_l06_clashes_6_1 (k + 1) _ _ 0 42 r.2.2 K) c3.symm) ?_
      rw [C_l06_clashes_6_1]
      exact h
    · exact absurd (g.symm.trans (congrArg (·.2.2) c3)) (by decide)
  · exact absurd (g.symm.trans (congrArg (·.2.2) c2)) (by decide)
theorem upB_last (W : Nat) (p : List Int) (s : List (List Int)) : ∀ (m i : Nat) (v : List Int), m + 1 ≤ i → upB W p s (m + 1) i v = stepB W p (s.getD (i - (m + 1)) z32) (i - (m + 1)) (upB W p s m i v)
  | 0, i, v, _ => rfl
  | m + 1, i, v, h => by
    rw [upB, upB_last W p s m (i - 1) _ (by omega), show i - 1 - (m + 1) = i - (m + 1 + 1) by omega]
    rfl
theorem nodeB_inj {a b c d : List Int} (ha : a.length = 32) (hc : c.length = 32) (h : nodeB a b = nodeB c d) : a = c ∧ b = d := by
  unfold nodeB at h
  exact List.append_inj (List.cons.inj h).2 (by omega)
theorem leafB_inj {a b c d : List Int} (ha : a.length = 32) (hc : c.length = 32) (h : leafB a b = leafB c d) : a = c ∧ b = d := by
  unfold leafB at h
  exact List.append_inj (List.cons.inj h).2 (by omega)
theorem stepB_head (W : Nat) (p d : List Int) (i : Nat) (v : List Int) : ∃ l, stepB W p d i v = 1 :: l := by
  unfold stepB
  split <;> exact ⟨_, rfl⟩
theorem startB_head (p : List Int) (has : Bool) (val : List Int) (oth : Bool) (op ov : List Int) (l : List Int) : startB p has val oth op ov ≠ 1 :: l := by
  unfold startB leafB
  cases has <;> cases oth <;> intro h <;> exact absurd (List.cons.inj h).1 (by decide)
theorem step_eq {W : Nat} (hW : W ≤ 32) {p d d' : List Int} {i : Nat} {v v' : List Int} (hd : Dig d) (hd' : Dig d') (h : stepB W p d i v = stepB W p d' i v') : shortL W v = shortL W v' := by
  have h1 := (shortL_dig hW v).1
  have h2 := (shortL_dig hW v').1
  have h3 := hd.1
  have h4 := hd'.1
  unfold stepB at h
  split at h
  · exact (nodeB_inj h3 h4 h).2
  · exact (nodeB_inj h1 h2 h).1
theorem may_has {p : List Int} {has : Bool} {val : List Int} {s : List (List Int)} {oth : Bool} {op ov : List Int} (h : mayP p has val s oth op ov = true) : has = true ∨ val = z32 := by
  unfold mayP at h
  simp only [Bool.and_eq_true, Bool.or_eq_true, decide_eq_true_eq] at h
  exact h.2.1
theorem may_oth {p : List Int} {has : Bool} {val : List Int} {s : List (List Int)} {op ov : List Int} (h : mayP p has val s true op ov = true) : has = false ∧ op ≠ p := by
  unfold mayP at h
  simp only [Bool.and_eq_true, cond_true, Bool.not_eq_true', decide_eq_false_iff_not] at h
  exact ⟨h.2.2.1, h.2.2.2.1⟩
section
variable {p : List Int} {h1 : Bool} {v1 : List Int} {s1 : List (List Int)} {o1 : Bool} {q1 u1 : List Int} {h2 : Bool} {v2 : List Int} {s2 : List (List Int)} {o2 : Bool} {q2 u2 : List Int}
theorem start_same (hp : Dig p) (hq1 : Dig q1) (hq2 : Dig q2) (m1 : mayP p h1 v1 s1 o1 q1 u1 = true) (m2 : mayP p h2 v2 s2 o2 q2 u2 = true)
    (h : startB p h1 v1 o1 q1 u1 = startB p h2 v2 o2 q2 u2) : h1 = h2 ∧ v1 = v2 := by
  cases h1 <;> cases h2
  · have e1 := may_has m1
    have e2 := may_has m2
    simp only [Bool.false_eq_true, false_or] at e1 e2
    exact ⟨rfl, e1.trans e2.symm⟩
  · cases o1
    · exact absurd (List.cons.inj (show (2 : Int) :: [] = 0 :: (p ++ v2) from h)).1 (by decide)
    · exact absurd (leafB_inj hq1.1 hp.1 (show leafB q1 u1 = leafB p v2 from h)).1 (may_oth m1).2
  · cases o2
    · exact absurd (List.cons.inj (show (0 : Int) :: (p ++ v1) = 2 :: [] from h)).1 (by decide)
    · exact absurd (leafB_inj hp.1 hq2.1 (show leafB p v1 = leafB q2 u2 from h)).1.symm (may_oth m2).2
  · exact ⟨rfl, (leafB_inj hp.1 hp.1 (show leafB p v1 = leafB p v2 from h)).2⟩
theorem binds_loop {W : Nat} {A B : List (List Int)} (hW : W ≤ 32) (hp : Dig p) (hv1 : Dig v1) (hq1 : Dig q1) (hu1 : Dig u1) (hs1 : ∀ d ∈ s1, Dig d) (hv2 : Dig v2) (hq2 : Dig q2) (hu2 : Dig u2) (hs2 : ∀ d ∈ s2, Dig d)
    (m1 : mayP p h1 v1 s1 o1 q1 u1 = true) (m2 : mayP p h2 v2 s2 o2 q2 u2 = true) (hne : ¬ (h1 = h2 ∧ v1 = v2))
    (hA : A = sumsL W p s1 (startB p h1 v1 o1 q1 u1)) (hB : B = sumsL W p s2 (startB p h2 v2 o2 q2 u2)) : ∀ (m j : Nat), j + m = min s1.length s2.length →
    shortL W (upB W p s1 (s1.length - j) s1.length (startB p h1 v1 o1 q1 u1)) = shortL W (upB W p s2 (s2.length - j) s2.length (startB p h2 v2 o2 q2 u2)) →
    ∃ a b, clashF (A.drop j) (B.drop j) = (a, b, 0) ∧ a ≠ b ∧ shortL W a = shortL W b ∧ Rung a ∧ Rung b := by
  have lA : A.length = s1.length + 1 := by rw [hA, sumsL_len]
  have lB : B.length = s2.length + 1 := by rw [hB, sumsL_len]
  intro m
  induction m with
  | zero =>
    intro j hj hs
    have hj1 : j < A.length := by omega
    have hj2 : j < B.length := by omega
    have ra := up_rung hW (p := p) hs1 (s1.length - j) s1.length _ (start_rung (has := h1) (oth := o1) hp hv1 hq1 hu1) (by omega) (by omega)
    have rb := up_rung hW (p := p) hs2 (s2.length - j) s2.length _ (start_rung (has := h2) (oth := o2) hp hv2 hq2 hu2) (by omega) (by omega)
    have ea := sumsL_at (W := W) (p := p) (s := s1) (st := startB p h1 v1 o1 q1 u1) (t := j) (by omega)
    have eb := sumsL_at (W := W) (p := p) (s := s2) (st := startB p h2 v2 o2 q2 u2) (t := j) (by omega)
    rw [← hA, getD_at hj1] at ea
    rw [← hB, getD_at hj2] at eb
    have ne : A[j] ≠ B[j] := by
      intro e
      rw [ea, eb] at e
      rcases Nat.lt_trichotomy s1.length s2.length with g | g | g
      · rw [show s1.length - j = 0 by omega, show s2.length - j = (s2.length - j - 1) + 1 by omega, upB_last W p s2 _ _ _ (by omega)] at e
        obtain ⟨l, hl⟩ := stepB_head W p (s2.getD (s2.length - (s2.length - j - 1 + 1)) z32) (s2.length - (s2.length - j - 1 + 1)) (upB W p s2 (s2.length - j - 1) s2.length (startB p h2 v2 o2 q2 u2))
        rw [hl] at e
        exact startB_head _ _ _ _ _ _ _ e
      · rw [show s1.length - j = 0 by omega, show s2.length - j = 0 by omega] at e
        exact hne (start_same hp hq1 hq2 m1 m2 e)
      · rw [show s2.length - j = 0 by omega, show s1.length - j = (s1.length - j - 1) + 1 by omega, upB_last W p s1 _ _ _ (by omega)] at e
        obtain ⟨l, hl⟩ := stepB_head W p (s1.getD (s1.length - (s1.length - j - 1 + 1)) z32) (s1.length - (s1.length - j - 1 + 1)) (upB W p s1 (s1.length - j - 1) s1.length (startB p h1 v1 o1 q1 u1))
        rw [hl] at e
        exact startB_head _ _ _ _ _ _ _ e.symm
    rw [← ea] at ra hs
    rw [← eb] at rb hs
    exact ⟨A[j], B[j], by rw [drop_cons hj1, drop_cons hj2, clashF, if_neg ne], ne, hs, ra, rb⟩
  | succ m ih =>
    intro j hj hs
    have hj1 : j < A.length := by omega
    have hj2 : j < B.length := by omega
    have ra := up_rung hW (p := p) hs1 (s1.length - j) s1.length _ (start_rung (has := h1) (oth := o1) hp hv1 hq1 hu1) (by omega) (by omega)
    have rb := up_rung hW (p := p) hs2 (s2.length - j) s2.length _ (start_rung (has := h2) (oth := o2) hp hv2 hq2 hu2) (by omega) (by omega)
    have ea := sumsL_at (W := W) (p := p) (s := s1) (st := startB p h1 v1 o1 q1 u1) (t := j) (by omega)
    have eb := sumsL_at (W := W) (p := p) (s := s2) (st := startB p h2 v2 o2 q2 u2) (t := j) (by omega)
    rw [← hA, getD_at hj1] at ea
    rw [← hB, getD_at hj2] at eb
    by_cases ne : A[j] = B[j]
    · have e := ne
      rw [ea, eb] at e
      rw [show s1.length - j = (s1.length - (j + 1)) + 1 by omega, upB_last W p s1 _ _ _ (by omega), show s2.length - j = (s2.length - (j + 1)) + 1 by omega, upB_last W p s2 _ _ _ (by omega),
        show s1.length - (s1.length - (j + 1) + 1) = j by omega, show s2.length - (s2.length - (j + 1) + 1) = j by omega] at e
      have d1 : Dig (s1.getD j z32) := by rw [getD_at (by omega : j < s1.length)]; exact hs1 _ (List.getElem_mem _)
      have d2 : Dig (s2.getD j z32) := by rw [getD_at (by omega : j < s2.length)]; exact hs2 _ (List.getElem_mem _)
      obtain ⟨a, b, e2, r⟩ := ih (j + 1) (by omega) (step_eq hW d1 d2 e)
      exact ⟨a, b, by rw [drop_cons hj1, drop_cons hj2, clashF, if_pos ne]; exact e2, r⟩
    · rw [← ea] at ra hs
      rw [← eb] at rb hs
      exact ⟨A[j], B[j], by rw [drop_cons hj1, drop_cons hj2, clashF, if_neg ne], ne, hs, ra, rb⟩
variable {w : Int} {root : List Int}
theorem clashF_none : ∀ A B : List (List Int), (clashF A B).2.2 ≠ 0 → (clashF A B).1 = [] ∧ (clashF A B).2.1 = []
  | [], _, _ => by unfold clashF; exact ⟨rfl, rfl⟩
  | _ :: _, [], _ => by unfold clashF; exact ⟨rfl, rfl⟩
  | a :: A, b :: B, h => by
    unfold clashF at h ⊢
    by_cases e : a = b
    · rw [if_pos e] at h ⊢; exact clashF_none A B h
    · rw [if_neg e] at h; exact absurd rfl h
theorem clashV_none (h : (clashV w root p h1 v1 s1 o1 q1 u1 h2 v2 s2 o2 q2 u2).2.2 ≠ 0) : (clashV w root p h1 v1 s1 o1 q1 u1 h2 v2 s2 o2 q2 u2).1 = [] ∧ (clashV w root p h1 v1 s1 o1 q1 u1 h2 v2 s2 o2 q2 u2).2.1 = [] := by
  unfold clashV at h ⊢
  split at h
  · rw [if_pos (by assumption)]
    split at h
    · rw [if_pos (by assumption)]
      split at h
      · rw [if_pos (by assumption)]; exact ⟨rfl, rfl⟩
      · rw [if_neg (by assumption)]; exact clashF_none _ _ h
    · rw [if_neg (by assumption)]; exact ⟨rfl, rfl⟩
  · rw [if_neg (by assumption)]; exact ⟨rfl, rfl⟩
theorem clashV_found (hp : Dig p) (hv1 : Dig v1) (hq1 : Dig q1) (hu1 : Dig u1) (hs1 : ∀ d ∈ s1, Dig d) (hv2 : Dig v2) (hq2 : Dig q2) (hu2 : Dig u2) (hs2 : ∀ d ∈ s2, Dig d)
    (c1 : checkV w root p h1 v1 s1 o1 q1 u1 = 0) (c2 : checkV w root p h2 v2 s2 o2 q2 u2 = 0) (c3 : ¬ (h1 = h2 ∧ v1 = v2)) :
    ∃ a b, clashV w root p h1 v1 s1 o1 q1 u1 h2 v2 s2 o2 q2 u2 = (a, b, 0) ∧ a ≠ b ∧ shortL w.toNat a = shortL w.toNat b ∧ Rung a ∧ Rung b := by
  obtain ⟨hw, m1, -, e1⟩ := checkV_zero c1
  obtain ⟨-, m2, -, e2⟩ := checkV_zero c2
  obtain ⟨a, b, e, r⟩ := binds_loop (W := w.toNat) (by omega) hp hv1 hq1 hu1 hs1 hv2 hq2 hu2 hs2 m1 m2 c3 rfl rfl (min s1.length s2.length) 0 (Nat.zero_add _) (e1.trans e2.symm)
  exact ⟨a, b, by unfold clashV; rw [if_pos c1, if_pos c2, if_neg c3]; exact e, r⟩
theorem clashV_zero (h : (clashV w root p h1 v1 s1 o1 q1 u1 h2 v2 s2 o2 q2 u2).2.2 = 0) : checkV w root p h1 v1 s1 o1 q1 u1 = 0 ∧ checkV w root p h2 v2 s2 o2 q2 u2 = 0 ∧ ¬ (h1 = h2 ∧ v1 = v2) := by
  unfold clashV at h
  by_cases c1 : checkV w root p h1 v1 s1 o1 q1 u1 = 0
  · rw [if_pos c1] at h
    by_cases c2 : checkV w root p h2 v2 s2 o2 q2 u2 = 0
    · rw [if_pos c2] at h
      refine ⟨c1, c2, fun c3 => ?_⟩
      rw [if_pos c3] at h; cases h
    · rw [if_neg c2] at h; exact absurd h c2
  · rw [if_neg c1] at h; exact absurd h c1
end
theorem l06_Binds (w : Int) (root p : List Int) (h1 : Bool) (v1 : List Int) (s1 : List (List Int)) (o1 : Bool) (q1 u1 : List Int) (h2 : Bool) (v2 : List Int) (s2 : List (List Int)) (o2 : Bool) (q2 u2 : List Int)
    (hp : Dig p) (hv1 : Dig v1) (hq1 : Dig q1) (hu1 : Dig u1) (hs1 : ∀ d ∈ s1, Dig d) (hv2 : Dig v2) (hq2 : Dig q2) (hu2 : Dig u2) (hs2 : ∀ d ∈ s2, Dig d) :
    ∃ k, F_l06_ProofBinds k w root p h1 v1 s1 o1 q1 u1 h2 v2 s2 o2 q2 u2 (fun b => b = true) := by
  suffices h : ∀ k, 6500 ≤ k → F_l06_ProofBinds k w root p h1 v1 s1 o1 q1 u1 h2 v2 s2 o2 q2 u2 (fun b => b = true) from ⟨6500, h _ (Nat.le_refl _)⟩
  intro k hk
  obtain ⟨k, rfl⟩ : ∃ m, k = m + 5 := ⟨k - 5, by omega⟩
  rw [F_l06_ProofBinds]
  simp only [Hold_eq]
  refine cond_dec (fun g1 => by trivial) (fun g1 => cond_dec (fun g2 => by trivial) (fun g2 => ?_))
  refine proof_Clash_s (k + 4) hp hv1 hq1 hu1 hs1 hv2 hq2 hu2 hs2 (by omega) (fun g => ?_) (fun g => ?_)
  · obtain ⟨n1, n2⟩ := clashV_none g
    have five : ∀ c : Int, c ≠ 0 → C_l06_ProofBinds_5 (k + 3) c [] [] (fun b => b = true) := by
      intro c hc
      rw [C_l06_ProofBinds_5]
      simp only [Hold_eq]
      refine checks_s (k + 2) (by omega) ?_
      rw [cond_true]
      refine clashes_s (k + 2) (by omega) ?_
      rw [cond_true]
      exact cond_ndec (fun _ => by trivial) (fun e => absurd e hc)
    rw [n1, n2]
    generalize hc : (clashV w root p h1 v1 s1 o1 q1 u1 h2 v2 s2 o2 q2 u2).2.2 = c at g
    rw [C_l06_ProofBinds_4]
    simp only [Hold_eq]
    refine proof_Check_s (k + 3) hp hv1 hq1 hu1 hs1 (by omega) (cond_ndec (fun c1 => five c g) (fun c1 => ?_))
    refine proof_Check_s (k + 3) hp hv2 hq2 hu2 hs2 (by omega) (cond_ndec (fun c2 => five c g) (fun c2 => ?_))
    rw [same_claim]
    refine cond_dec (fun c3 => five c g) (fun c3 => ?_)
    obtain ⟨a, b, e, -⟩ := clashV_found hp hv1 hq1 hu1 hs1 hv2 hq2 hu2 hs2 c1 c2 c3
    rw [e] at hc
    exact absurd hc.symm g
  · obtain ⟨c1, c2, c3⟩ := clashV_zero g
    obtain ⟨a, b, e, ne, hs, ra, rb⟩ := clashV_found hp hv1 hq1 hu1 hs1 hv2 hq2 hu2 hs2 c1 c2 c3
    obtain ⟨hw, -⟩ := checkV_zero c1
    obtain ⟨W, rfl⟩ := Int.eq_ofNat_of_zero_le hw.1
    rw [Int.toNat_natCast] at hs
    have la := ra.2
    have lb := rb.2
    rw [e, C_l06_ProofBinds_4_1]
    simp only [Hold_eq]
    refine proof_Check_s (k + 3) hp hv1 hq1 hu1 hs1 (by omega) (cond_ndec (fun d1 => absurd c1 d1) (fun d1 => ?_))
    refine proof_Check_s (k + 3) hp hv2 hq2 hu2 hs2 (by omega) (cond_ndec (fun d2 => absurd c2 d2) (fun d2 => ?_))
    rw [same_claim]
    refine cond_dec (fun d3 => absurd d3 c3) (fun d3 => ?_)
    rw [C_l06_ProofBinds_6_1]
    simp only [Hold_eq]
    refine smt_Short_s (k + 2) (by omega) (by omega) (by omega) ?_
    rw [C_l06_ProofBinds_7_1]
    simp only [Hold_eq]
    refine smt_Short_s (k + 1) (by omega) (by omega) (by omega) ?_
    rw [C_l06_ProofBinds_8_1]
    simp only [Hold_eq]
    refine checks_s k (by omega) ?_
    rw [cond_true]
    refine clashes_s k (by omega) ?_
    rw [cond_true]
    unfold seq
    refine cond_dec (fun _ => cond_ndec (fun _ => cond_dec (fun _ => cond_dec (fun _ => decide_eq_true hs) (fun x => absurd trivial x)) (fun x => absurd trivial x)) (fun x => absurd (bytesOf_inj ra.1 rb.1 x) ne)) (fun x => absurd trivial x)
theorem law_ProofBinds (x0 : Int) (x1 x2 : List Int) (x3 : S_api_Claim) (x4 : S_api_Proof) (x5 : S_api_Claim) (x6 : S_api_Proof) (hw : ∀ m, ∀ a ∈ [PE.enc 3 x0, PE.enc 23 x1, PE.enc 23 x2, PE.enc 25 x3, PE.enc 28 x4, PE.enc 25 x5, PE.enc 28 x6], wf PE m a) :
    ∃ k, F_l06_ProofBinds k x0 x1 x2 x3.f0 x3.f1 x4.f0 x4.f1 x4.f2 x4.f3 x5.f0 x5.f1 x6.f0 x6.f1 x6.f2 x6.f3 (fun b => b = true) := by
  have h2 : Dig x2 := wf_dig (m := 2) (hw 4 (PE.enc 23 x2) (by simp))
  have h3 := wf_claim (m := 0) (hw 4 (PE.enc 25 x3) (by simp))
  obtain ⟨h4, h5, h6⟩ := wf_proof (m := 0) (hw 4 (PE.enc 28 x4) (by simp))
  have h7 := wf_claim (m := 0) (hw 4 (PE.enc 25 x5) (by simp))
  obtain ⟨h8, h9, h10⟩ := wf_proof (m := 0) (hw 4 (PE.enc 28 x6) (by simp))
  exact l06_Binds _ _ _ _ _ _ _ _ _ _ _ _ _ _ _ h2 h3 h5 h6 h4 h7 h9 h10 h8
end Go.V
