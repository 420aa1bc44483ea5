/- what the proofs' checks answer -/
import Derived.Test.YtepdmpjmlfeanaaDoorVD16C
set_option linter.unusedVariables false
set_option linter.unusedSimpArgs false
set_option maxRecDepth 4000
namespace Go.V
/-- what stands over a knot's sum and a sibling -/
def stepB (W : Nat) (p d : List Int) (i : Nat) (v : List Int) : List Int := if bitN p i = 1 then nodeB d (shortL W v) else nodeB (shortL W v) d
/-- m steps up, the first with the sibling i - 1 -/
def upB (W : Nat) (p : List Int) (s : List (List Int)) : Nat → Nat → List Int → List Int
  | 0, _, v => v
  | m + 1, i, v => upB W p s m (i - 1) (stepB W p (s.getD (i - 1) z32) (i - 1) v)
/-- what a check begins with -/
def startB (p : List Int) (has : Bool) (val : List Int) (oth : Bool) (op ov : List Int) : List Int :=
  cond has (leafB p val) (cond oth (leafB op ov) [2])
def mayP (p : List Int) (has : Bool) (val : List Int) (s : List (List Int)) (oth : Bool) (op ov : List Int) : Bool :=
  decide (s.length ≤ 256) && ((has || decide (val = z32)) && cond oth (!has && (!decide (op = p) && decide (s.length ≤ commonL p op))) (decide (op = z32) && decide (ov = z32)))
/-- what a check answers -/
def checkV (w : Int) (root p : List Int) (has : Bool) (val : List Int) (s : List (List Int)) (oth : Bool) (op ov : List Int) : Int :=
  if 0 ≤ w ∧ w ≤ 32 then cond (mayP p has val s oth op ov) (if shortL w.toNat (upB w.toNat p s s.length s.length (startB p has val oth op ov)) = root then 0 else 41) 40 else 1
/-- bytes that a check sums -/
def Rung (v : List Int) : Prop := B8 v ∧ v.length ≤ 65
theorem step_rung {W : Nat} (hW : W ≤ 32) {p d : List Int} {i : Nat} {v : List Int} (hd : Dig d) : Rung (stepB W p d i v) := by
  have hs := shortL_dig hW v
  unfold stepB
  split
  · exact ⟨(nodeB_B8 hd hs).1, Nat.le_of_eq (nodeB_B8 hd hs).2⟩
  · exact ⟨(nodeB_B8 hs hd).1, Nat.le_of_eq (nodeB_B8 hs hd).2⟩
theorem start_rung {p : List Int} {has : Bool} {val : List Int} {oth : Bool} {op ov : List Int} (hp : Dig p) (hv : Dig val) (hop : Dig op) (hov : Dig ov) : Rung (startB p has val oth op ov) := by
  unfold startB
  cases has
  · cases oth
    · exact ⟨B8.cons (by decide) B8.nil, by simp⟩
    · exact ⟨(leafB_B8 hop hov).1, Nat.le_of_eq (leafB_B8 hop hov).2⟩
  · exact ⟨(leafB_B8 hp hv).1, Nat.le_of_eq (leafB_B8 hp hv).2⟩
theorem up_rung {W : Nat} (hW : W ≤ 32) {p : List Int} {s : List (List Int)} (hs : ∀ d ∈ s, Dig d) : ∀ (m i : Nat) (v : List Int), Rung v → m ≤ i → i ≤ s.length → Rung (upB W p s m i v)
  | 0, i, v, hv, _, _ => hv
  | m + 1, i, v, hv, hm, hi => by
    unfold upB
    refine up_rung hW hs m (i - 1) _ (step_rung hW ?_) (by omega) (by omega)
    rw [getD_at (by omega : i - 1 < s.length)]
    exact hs _ (List.getElem_mem _)
theorem start_s (k : Nat) {w : Int} {p : List Int} {has : Bool} {val : List Int} {s : List (List Int)} {oth : Bool} {op ov : List Int} {K : List Int → Prop} (hp : Dig p) (hv : Dig val) (hop : Dig op) (hov : Dig ov) (hk : 10 ≤ k) (h : K (startB p has val oth op ov)) : F_proof_said_start k w p has val s oth op ov K := by
  obtain ⟨k, rfl⟩ : ∃ m, k = m + 1 := ⟨k - 1, by omega⟩
  rw [F_proof_said_start]
  simp only [Hold_eq]
  refine cond_b (fun h1 => ?_) (fun h1 => cond_b (fun h2 => ?_) (fun h2 => ?_))
  · subst h1
    refine proof_bytes_s k 0 [p, val] (by intro d hd; simp at hd; rcases hd with rfl | rfl; exact hp; exact hv) (by simp; omega) (by simp) ?_
    simpa [startB, leafB] using h
  · subst h1; subst h2
    refine proof_bytes_s k 0 [op, ov] (by intro d hd; simp at hd; rcases hd with rfl | rfl; exact hop; exact hov) (by simp; omega) (by simp) ?_
    simpa [startB, leafB] using h
  · subst h1; subst h2
    exact proof_bytes_s k 2 [] (by simp) (by simp; omega) (by simp) (by simpa [startB] using h)
theorem bytes2_s (k : Nat) {a b : List Int} {K : List Int → Prop} (ha : Dig a) (hb : Dig b) (hk : 10 ≤ k) (h : K (nodeB a b)) : F_proof_bytes k 1 [a, b] K :=
  proof_bytes_s k 1 [a, b] (by intro d hd; simp at hd; rcases hd with rfl | rfl; exact ha; exact hb) (by simp; omega) (by simp) (by simpa [nodeB] using h)
theorem y3_s (k : Nat) {W : Nat} {p d : List Int} {i : Nat} {has : Bool} {val : List Int} {s : List (List Int)} {oth : Bool} {op ov cur : List Int} {p2 : List Int} {has2 : Bool} {val2 : List Int} {s2 : List (List Int)} {oth2 : Bool} {op2 ov2 top : List Int}
    {K : Int → List Int → Bool → List Int → List (List Int) → Bool → List Int → List Int → List Int → Int → List Int → Bool → List Int → List (List Int) → Bool → List Int → List Int → List Int → List Int → Prop}
    (hW : W ≤ 32) (hp : Dig p) (hd : Dig d) (hi : i < 256) (hc : Rung cur) (hk : 4000 ≤ k) (h : K W p has val s oth op ov cur W p2 has2 val2 s2 oth2 op2 ov2 (shortL W cur) (stepB W p d i cur)) :
    F_proof_said_rungs_1_y3 k (i : Int) d (W : Int) p has val s oth op ov cur (W : Int) p2 has2 val2 s2 oth2 op2 ov2 top K := by
  obtain ⟨k, rfl⟩ : ∃ m, k = m + 2 := ⟨k - 2, by omega⟩
  rw [F_proof_said_rungs_1_y3]
  simp only [Hold_eq]
  rw [F_proof_said_check_y7]
  simp only [Hold_eq]
  have hc2 := hc.2
  refine smt_Short_s k hW (by omega) (by omega) (smt_Short_s (k + 1) hW (by omega) (by omega) (pright_s (k + 1) hp hi (by omega) ?_))
  unfold stepB at h
  refine cond_dec (fun h1 => ?_) (fun h1 => ?_)
  · rw [if_pos h1] at h
    exact bytes2_s (k + 1) hd (shortL_dig hW _) (by omega) h
  · rw [if_neg h1] at h
    exact bytes2_s (k + 1) (shortL_dig hW _) hd (by omega) h
theorem back_loop {W : Nat} {p : List Int} {has : Bool} {val : List Int} {s : List (List Int)} {oth : Bool} {op ov v0 : List Int} {p2 : List Int} {has2 : Bool} {val2 : List Int} {s2 : List (List Int)} {oth2 : Bool} {op2 ov2 : List Int}
    (hW : W ≤ 32) (hp : Dig p) (hs : ∀ d ∈ s, Dig d) (hn : s.length ≤ 256) : ∀ (i k : Nat) (top cur : List Int)
    {K : List (List Int) → Int → List Int → Bool → List Int → List (List Int) → Bool → List Int → List Int → List Int → Int → List Int → Bool → List Int → List (List Int) → Bool → List Int → List Int → List Int → List Int → Prop},
    i ≤ s.length → 2 * i + 4010 ≤ k → Rung cur → (∀ t, K s W p has val s oth op ov v0 W p2 has2 val2 s2 oth2 op2 ov2 t (upB W p s i i cur)) →
    C_slices_Backward_api_Digest_api_Digest_1_1_1 k ((i : Int) - 1) s (W : Int) p has val s oth op ov v0 (W : Int) p2 has2 val2 s2 oth2 op2 ov2 top cur K := by
  intro i
  induction i with
  | zero =>
    intro k top cur K hi hk hc h
    obtain ⟨k, rfl⟩ : ∃ m, k = m + 1 := ⟨k - 1, by omega⟩
    rw [C_slices_Backward_api_Digest_api_Digest_1_1_1]
    exact cond_dec (fun h1 => by omega) (fun h1 => h top)
  | succ i ih =>
    intro k top cur K hi hk hc h
    obtain ⟨k, rfl⟩ : ∃ m, k = m + 2 := ⟨k - 2, by omega⟩
    rw [C_slices_Backward_api_Digest_api_Digest_1_1_1]
    simp only [Hold_eq]
    refine cond_dec (fun h1 => ?_) (fun h1 => by omega)
    rw [C_slices_Backward_api_Digest_api_Digest_1_3_1]
    simp only [Hold_eq]
    have e : (((i + 1 : Nat) : Int) - 1) = (i : Int) := by omega
    have hd : Dig (s.getD i z32) := by rw [getD_at (by omega : i < s.length)]; exact hs _ (List.getElem_mem _)
    rw [e, wrap64 (by omega), Int.toNat_natCast]
    refine ⟨by omega, y3_s k hW hp hd (by omega) hc (by omega) ?_⟩
    exact ih k _ _ (by omega) (by omega) (step_rung hW hd) h
/-- the walk up: for all that it is asked for -/
theorem rungs_s (k : Nat) {W : Nat} {p : List Int} {has : Bool} {val : List Int} {s : List (List Int)} {oth : Bool} {op ov : List Int} {p2 : List Int} {has2 : Bool} {val2 : List Int} {s2 : List (List Int)} {oth2 : Bool} {op2 ov2 top : List Int}
    {K : Int → List Int → Bool → List Int → List (List Int) → Bool → List Int → List Int → Int → List Int → Bool → List Int → List (List Int) → Bool → List Int → List Int → List Int → Prop}
    (hW : W ≤ 32) (hp : Dig p) (hv : Dig val) (hop : Dig op) (hov : Dig ov) (hs : ∀ d ∈ s, Dig d) (hn : s.length ≤ 256) (hk : 5000 ≤ k)
    (h : K W p has val s oth op ov W p2 has2 val2 s2 oth2 op2 ov2 (shortL W (upB W p s s.length s.length (startB p has val oth op ov)))) :
    F_proof_said_rungs_1 k (W : Int) p has val s oth op ov (W : Int) p2 has2 val2 s2 oth2 op2 ov2 top K := by
  obtain ⟨k, rfl⟩ : ∃ m, k = m + 3 := ⟨k - 3, by omega⟩
  rw [F_proof_said_rungs_1]
  simp only [Hold_eq]
  refine start_s (k + 2) hp hv hop hov (by omega) ?_
  rw [F_slices_Backward_api_Digest_api_Digest, F_slices_Backward_api_Digest_api_Digest_1]
  simp only [Hold_eq]
  have hst := start_rung (has := has) (oth := oth) hp hv hop hov
  rw [C_slices_Backward_api_Digest_api_Digest_1_1, wrap64 (by omega)]
  simp only [Hold_eq]
  have last : ∀ (c t : List Int), Rung c → K W p has val s oth op ov W p2 has2 val2 s2 oth2 op2 ov2 (shortL W c) → F_proof_said_check_y7 (k + 2) c (W : Int) p2 has2 val2 s2 oth2 op2 ov2 t (fun _ r41 r42 r43 r44 r45 r46 r47 r48 r49 => K W p has val s oth op ov r41 r42 r43 r44 r45 r46 r47 r48 r49) := by
    intro c t hc hK
    rw [F_proof_said_check_y7]
    simp only [Hold_eq]
    have := hc.2
    exact smt_Short_s (k + 1) hW (by omega) (by omega) hK
  refine cond_dec (fun h1 => ?_) (fun h1 => ?_)
  · obtain ⟨k, rfl⟩ : ∃ m, k = m + 1 := ⟨k - 1, by omega⟩
    rw [C_slices_Backward_api_Digest_api_Digest_1_3]
    simp only [Hold_eq]
    obtain ⟨n, hn2⟩ : ∃ n, s.length = n + 1 := ⟨s.length - 1, by omega⟩
    have e : ((s.length : Nat) : Int) - 1 = (n : Int) := by omega
    have hd : Dig (s.getD n z32) := by rw [getD_at (by omega : n < s.length)]; exact hs _ (List.getElem_mem _)
    rw [e, wrap64 (by omega), Int.toNat_natCast]
    refine ⟨by omega, y3_s k hW hp hd (by omega) hst (by omega) ?_⟩
    refine back_loop hW hp hs hn n k _ _ (by omega) (by omega) (step_rung hW hd) fun t => ?_
    refine last _ t (up_rung hW hs n n _ (step_rung hW hd) (by omega) (by omega)) ?_
    rw [hn2] at h
    exact h
  · have e : s.length = 0 := by omega
    rw [e] at h
    exact last _ _ hst h
-- may it be
theorem may4_s (k : Nat) {w : Int} {p : List Int} {has : Bool} {val : List Int} {s : List (List Int)} {oth : Bool} {op ov : List Int} {s' : List (List Int)} {K : Bool → Prop} (hp : Dig p) (hop : Dig op) (hk : 400 ≤ k)
    (h : K (cond oth (!has && (!decide (op = p) && decide (s.length ≤ commonL p op))) (decide (op = z32) && decide (ov = z32)))) : C_proof_said_may_4 k w p has val s oth op ov s oth op ov K := by
  obtain ⟨k, rfl⟩ : ∃ m, k = m + 1 := ⟨k - 1, by omega⟩
  rw [C_proof_said_may_4]
  simp only [Hold_eq]
  refine cond_nb (fun h1 => ?_) (fun h1 => ?_)
  · subst h1
    refine cond_dec (fun h2 => ?_) (fun h2 => ?_)
    · have e : decide (op = z32) = true := decide_eq_true (show op = z32 from h2)
      rw [cond_false, e, Bool.true_and] at h
      exact h
    · have e : decide (op = z32) = false := decide_eq_false (show ¬ op = z32 from h2)
      rw [cond_false, e, Bool.false_and] at h
      exact h
  · subst h1
    refine cond_nb (fun h2 => ?_) (fun h2 => ?_)
    · subst h2
      refine cond_ndec (fun h3 => ?_) (fun h3 => ?_)
      · refine Common_s k hp hop (by omega) ?_
        rw [cond_true, decide_eq_false h3, Bool.not_false, Bool.true_and, Bool.true_and] at h
        rw [decide_eq_decide.2 (by omega : ((s.length : Nat) : Int) ≤ (commonL p op : Int) ↔ s.length ≤ commonL p op)]
        exact h
      · rw [cond_true, decide_eq_true h3, Bool.not_true, Bool.false_and, Bool.and_false] at h
        exact h
    · subst h2
      exact h
theorem may_s (k : Nat) {w : Int} {p : List Int} {has : Bool} {val : List Int} {s : List (List Int)} {oth : Bool} {op ov : List Int} {K : Bool → Prop} (hp : Dig p) (hop : Dig op) (hk : 410 ≤ k)
    (h : K (mayP p has val s oth op ov)) : F_proof_said_may k w p has val s oth op ov K := by
  obtain ⟨k, rfl⟩ : ∃ m, k = m + 1 := ⟨k - 1, by omega⟩
  rw [F_proof_said_may]
  simp only [Hold_eq]
  unfold mayP at h
  refine cond_dec (fun h1 => ?_) (fun h1 => ?_)
  · rw [decide_eq_false (by omega), Bool.false_and] at h; exact h
  · rw [decide_eq_true (by omega), Bool.true_and] at h
    refine cond_nb (fun h2 => ?_) (fun h2 => ?_)
    · subst h2
      refine cond_ndec (fun h3 => ?_) (fun h3 => ?_)
      · have e : decide (val = z32) = false := decide_eq_false (show ¬ val = z32 from h3)
        rw [e] at h; exact h
      · have e : decide (val = z32) = true := decide_eq_true (show val = z32 from h3)
        rw [e, Bool.or_true, Bool.true_and] at h
        exact may4_s k (s' := s) hp hop (by omega) h
    · subst h2
      rw [Bool.true_or, Bool.true_and] at h
      exact may4_s k (s' := s) hp hop (by omega) h
theorem said_check_s (k : Nat) {w : Int} {root p : List Int} {has : Bool} {val : List Int} {s : List (List Int)} {oth : Bool} {op ov : List Int} {K : Int → Prop}
    (hp : Dig p) (hv : Dig val) (hop : Dig op) (hov : Dig ov) (hs : ∀ d ∈ s, Dig d) (hk : 5010 ≤ k) (h : K (checkV w root p has val s oth op ov)) : F_proof_said_check k w p has val s oth op ov root K := by
  obtain ⟨k, rfl⟩ : ∃ m, k = m + 2 := ⟨k - 2, by omega⟩
  rw [F_proof_said_check]
  simp only [Hold_eq]
  unfold checkV at h
  refine cond_dec (fun h1 => ?_) (fun h1 => cond_dec (fun h2 => ?_) (fun h2 => ?_))
  · rw [if_neg (by omega)] at h; exact h
  · rw [if_neg (by omega)] at h; exact h
  · rw [if_pos (by omega)] at h
    refine may_s (k + 1) hp hop (by omega) (cond_nb (fun h3 => ?_) (fun h3 => ?_))
    · rw [h3] at h; exact h
    · rw [h3, cond_true] at h
      rw [F_proof_said_rungs]
      obtain ⟨W, rfl⟩ := Int.eq_ofNat_of_zero_le (by omega : 0 ≤ w)
      rw [Int.toNat_natCast] at h
      have hn : s.length ≤ 256 := by
        unfold mayP at h3
        have := (Bool.and_eq_true _ _ ▸ h3 : _ ∧ _).1
        exact of_decide_eq_true this
      refine rungs_s (k + 1) (by omega) hp hv hop hov hs hn (by omega) (cond_ndec (fun h4 => ?_) (fun h4 => ?_))
      · rw [if_neg h4] at h; exact h
      · rw [if_pos h4] at h; exact h
theorem proof_Check_s (k : Nat) {w : Int} {root p : List Int} {has : Bool} {val : List Int} {s : List (List Int)} {oth : Bool} {op ov : List Int} {K : Int → Prop}
    (hp : Dig p) (hv : Dig val) (hop : Dig op) (hov : Dig ov) (hs : ∀ d ∈ s, Dig d) (hk : 5020 ≤ k) (h : K (checkV w root p has val s oth op ov)) : F_proof_Check k w root p has val s oth op ov K := by
  obtain ⟨k, rfl⟩ : ∃ m, k = m + 1 := ⟨k - 1, by omega⟩
  rw [F_proof_Check]
  simp only [Hold_eq]
  exact said_check_s k hp hv hop hov hs (by omega) h
-- the document's
def p9 : List Int := [9, 0, 0, 0, 0, 0, 0, 0, 0, 0, 0, 0, 0, 0, 0, 0, 0, 0, 0, 0, 0, 0, 0, 0, 0, 0, 0, 0, 0, 0, 0, 0]
theorem p9_dig : Dig p9 := dig_ok (by decide +kernel)
theorem sum_ne : ¬ shortL 32 (leafB p9 z32) = shortL 32 [2] := by
  unfold shortL
  rw [shaC2 (by decide +kernel), shaC1 (by decide +kernel)]
  decide +kernel
theorem checks1 : checkV 32 (shortL 32 [2]) p9 false z32 [] false z32 z32 = 0 := by
  unfold checkV
  rw [if_pos (by decide), show mayP p9 false z32 [] false z32 z32 = true by decide +kernel, cond_true]
  exact if_pos rfl
theorem checks2 : checkV 32 (shortL 32 [2]) p9 true z32 [] false z32 z32 = 41 := by
  unfold checkV
  rw [if_pos (by decide), show mayP p9 true z32 [] false z32 z32 = true by decide +kernel, cond_true]
  exact if_neg sum_ne
theorem checks3 : checkV 32 (shortL 32 [2]) p9 false p9 [] false z32 z32 = 40 := by
  unfold checkV
  rw [if_pos (by decide), show mayP p9 false p9 [] false z32 z32 = false by decide +kernel, cond_false]
theorem checks_s (k : Nat) {K : Bool → Prop} (hk : 6000 ≤ k) (h : K true) : F_l06_checks k K := by
  obtain ⟨k, rfl⟩ : ∃ m, k = m + 1 := ⟨k - 1, by omega⟩
  rw [F_l06_checks]
  simp only [Hold_eq]
  have e (K : List Int → Prop) (hK : K (shortL 32 [2])) : F_smt_Empty k (32 : Int) K := pEmpty_s k (W := 32) (by omega) (by omega) hK
  refine e _ (proof_Check_s k p9_dig Dig.zero Dig.zero Dig.zero (by simp) (by omega) (e _ (proof_Check_s k p9_dig Dig.zero Dig.zero Dig.zero (by simp) (by omega) (e _ (proof_Check_s k p9_dig p9_dig Dig.zero Dig.zero (by simp) (by omega) ?_)))))
  have c1 := checks1
  have c2 := checks2
  have c3 := checks3
  unfold p9 at c1 c2 c3
  rw [c1, c2, c3]
  exact h
end Go.V
