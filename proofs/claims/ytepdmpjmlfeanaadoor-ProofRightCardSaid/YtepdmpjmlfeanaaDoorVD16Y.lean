/- the proofs' depth, and that what is made is right -/
import Derived.Test.YtepdmpjmlfeanaaDoorVD16X
import Derived.Test.YtepdmpjmlfeanaaDoorVD16I
set_option linter.unusedVariables false
set_option linter.unusedSimpArgs false
set_option maxRecDepth 4000
namespace Go.V
theorem pa_s (k : Nat) {K : List Int → List Int → Prop} (hk : 1 ≤ k) (h : K (List.replicate 32 0) v5) : F_l06_a k K := by
  obtain ⟨k, rfl⟩ : ∃ m, k = m + 1 := ⟨k - 1, by omega⟩
  rw [F_l06_a]; exact h
theorem pb_s (k : Nat) {K : List Int → List Int → Prop} (hk : 1 ≤ k) (h : K p128 v6) : F_l06_b k K := by
  obtain ⟨k, rfl⟩ : ∃ m, k = m + 1 := ⟨k - 1, by omega⟩
  rw [F_l06_b]; exact h
theorem sib_two {w : Int} {p : List Int} {m n : Nat} {l : List S_api_Leaf} (h : 1 < l.length) : sibs w p (m + 1) n l = digT w (bld w m (n + 1) (halfL l n (1 - bitN p n))) :: sibs w p m (n + 1) (halfL l n (bitN p n)) := by rw [sibs, if_pos h]
theorem near_two {p : List Int} {m n : Nat} {l : List S_api_Leaf} (h : 1 < l.length) : nearL p (m + 1) n l = nearL p m (n + 1) (halfL l n (bitN p n)) := by rw [nearL, if_pos h]
theorem eAB : rootE 32 [lfA, lfB] = 0 := by decide +kernel
theorem bA : bitN lfA.f0 0 = 0 := by decide +kernel
theorem bB : bitN lfB.f0 0 = 1 := by decide +kernel
theorem hA : halfL [lfA, lfB] 0 (bitN z32 0) = [lfA] := by
  rw [show bitN z32 0 = 0 from by decide +kernel]
  unfold halfL
  rw [List.filter_cons, if_pos (decide_eq_true bA), List.filter_cons, if_neg (by rw [bB]; decide)]; rfl
theorem hB : halfL [lfA, lfB] 0 (1 - bitN z32 0) = [lfB] := by
  rw [show bitN z32 0 = 0 from by decide +kernel]
  unfold halfL
  rw [List.filter_cons, if_neg (by rw [bA]; decide), List.filter_cons, if_pos (decide_eq_true bB)]; rfl
theorem sAB : sibL 32 z32 [lfA, lfB] = [rootL 32 [lfB]] := by
  unfold sibL
  rw [sib_two (m := 255) (by decide), hA, hB, digT_one, sibs_le (by decide)]
theorem nAB : endN z32 [lfA, lfB] = [lfA] := by
  unfold endN
  rw [near_two (m := 255) (by decide), hA, nearL_le (by decide)]
theorem makes_s (k : Nat) {K : Bool → Prop} (hk : 9000100 ≤ k) (h : K true) : F_l06_makes k K := by
  obtain ⟨k, rfl⟩ : ∃ m, k = m + 1 := ⟨k - 1, by omega⟩
  rw [F_l06_makes]
  simp only [Hold_eq]
  refine pa_s k (by omega) (pb_s k (by omega) (pa_s k (by omega) ?_))
  refine Make_s k (l := [lfA, lfB]) (LDig.cons lA_dig (LDig.cons lB_dig LDig.nil)) Dig.zero (by omega) (fun e => absurd eAB e) (fun _ => ?_)
  refine pa_s k (by omega) (pb_s k (by omega) ?_)
  refine Make_s k (l := [lfA]) (LDig.cons lA_dig LDig.nil) p128_dig (by omega) (fun e => absurd eA e) (fun _ => ?_)
  have n2 : endN p128 [lfA] = [lfA] := nearL_le (by decide)
  have s2 : sibL 32 p128 [lfA] = [] := sibs_le (by decide)
  rw [show (List.replicate 32 (0 : Int)) = z32 from rfl, nAB, sAB, n2, s2]
  have m1 : mHas z32 [lfA] = true := by decide +kernel
  have m2 : mVal z32 [lfA] = v5 := by decide +kernel
  have m3 : mHas p128 [lfA] = false := by decide +kernel
  have m4 : mOth p128 [lfA] = true := by decide +kernel
  have m5 : mOp p128 [lfA] = z32 := by decide +kernel
  rw [m1, m2, m3, m4, m5]
  refine cond_dec (fun _ => ?_) (fun e => absurd rfl e)
  rw [cond_true]
  refine pa_s k (by omega) (cond_dec (fun _ => ?_) (fun e => absurd rfl e))
  refine cond_dec (fun _ => ⟨by simp, ?_⟩) (fun e => absurd rfl e)
  refine pb_s k (by omega) (Leaf_i k (by decide) lB_dig.1 lB_dig.2 (by omega) (cond_dec (fun _ => ?_) (fun e => absurd rfl e)))
  refine cond_dec (fun _ => ?_) (fun e => absurd rfl e)
  rw [Bool.not_false, cond_true, cond_true]
  refine pa_s k (by omega) (cond_dec (fun _ => ?_) (fun e => absurd rfl e))
  exact h
-- how far paths go along
theorem com_iff (a b : List Int) : ∀ (m n t : Nat), n ≤ t → t ≤ n + m → (t ≤ comGo a b m n ↔ ∀ i, n ≤ i → i < t → bitN a i = bitN b i) := by
  intro m
  induction m with
  | zero =>
    intro n t h1 h2
    rw [comGo]
    exact ⟨fun _ i h3 h4 => by omega, fun _ => by omega⟩
  | succ m ih =>
    intro n t h1 h2
    by_cases e : bitN a n = bitN b n
    · rw [comGo, if_pos e]
      by_cases h3 : t = n
      · have := (comGo_le a b m (n + 1)).1
        exact ⟨fun _ i h4 h5 => by omega, fun _ => by omega⟩
      · rw [ih (n + 1) t (by omega) (by omega)]
        refine ⟨fun g i h4 h5 => ?_, fun g i h4 h5 => g i (by omega) h5⟩
        by_cases h6 : i = n
        · rw [h6]; exact e
        · exact g i (by omega) h5
    · rw [comGo_stop e]
      refine ⟨fun g i h4 h5 => by omega, fun g => ?_⟩
      by_cases h3 : t = n
      · omega
      · exact absurd (g n (Nat.le_refl _) (by omega)) e
theorem common_iff (a b : List Int) {t : Nat} (h : t ≤ 256) : t ≤ commonL a b ↔ ∀ i, i < t → bitN a i = bitN b i := by
  unfold commonL
  rw [com_iff a b 256 0 t (by omega) (by omega)]
  exact ⟨fun g i hi => g i (Nat.zero_le _) hi, fun g i _ hi => g i hi⟩
theorem common_le (a b : List Int) : commonL a b ≤ 256 := by
  have := (comGo_le a b 256 0).2
  unfold commonL; omega
/-- the leaves that go along with a path to a depth -/
def along (p : List Int) (l : List S_api_Leaf) (t : Nat) : List S_api_Leaf := l.filter fun x => decide (t ≤ commonL x.f0 p)
theorem along_half (p : List Int) (l : List S_api_Leaf) {t : Nat} (ht : t < 256) : halfL (along p l t) t (bitN p t) = along p l (t + 1) := by
  unfold halfL along
  rw [List.filter_filter]
  refine List.filter_congr fun x hx => ?_
  rw [← Bool.decide_and]
  refine decide_eq_decide.2 ?_
  rw [common_iff _ _ (by omega), common_iff _ _ (by omega)]
  constructor
  · rintro ⟨h1, h2⟩ i hi
    by_cases e : i = t
    · rw [e]; exact h1
    · exact h2 i (by omega)
  · exact fun h => ⟨h t (by omega), fun i hi => h i (by omega)⟩
theorem along_zero (p : List Int) (l : List S_api_Leaf) : along p l 0 = l := by
  unfold along
  exact List.filter_eq_self.2 fun x _ => by simp
theorem along_ok {p : List Int} {l : List S_api_Leaf} (hl : LDig l) (hd : Dst l) {t : Nat} (ht : t ≤ 256) : OkL t p (along p l t) where
  dig := fun x hx => hl x (List.mem_filter.1 hx).1
  agr := fun x hx i hi => (common_iff x.f0 p ht).1 (of_decide_eq_true (List.mem_filter.1 hx).2) i hi
  dst := List.Pairwise.filter _ hd
theorem sibs_len (w : Int) {p : List Int} {l : List S_api_Leaf} (hl : LDig l) (hd : Dst l) {D : Int} (hD : ∀ t : Nat, t ≤ 256 → (2 ≤ (along p l t).length ↔ (t : Int) ≤ D)) : ∀ (m n : Nat), m + n = 256 → (n : Int) ≤ D + 1 →
    ((sibs w p m n (along p l n)).length : Int) = D + 1 - n := by
  intro m
  induction m with
  | zero =>
    intro n hn h
    obtain rfl : n = 256 := by omega
    have h1 := (along_ok hl hd (p := p) (Nat.le_refl 256)).len
    have h2 := hD 256 (Nat.le_refl _)
    rw [sibs]
    simp only [List.length_nil]
    omega
  | succ m ih =>
    intro n hn h
    have h2 := hD n (by omega)
    by_cases e : 1 < (along p l n).length
    · rw [sib_two e, along_half p l (by omega), List.length_cons]
      have := ih (n + 1) (by omega) (by omega)
      omega
    · rw [sibs_le (by omega)]
      simp only [List.length_nil]
      omega
-- the law's loop
theorem depth_step {p : List Int} {l : List S_api_Leaf} {j : Nat} (hj : j < l.length) (t : Nat) : (along p (l.take (j + 1)) t).length = (along p (l.take j) t).length + (if t ≤ commonL l[j].f0 p then 1 else 0) := by
  rw [List.take_succ_eq_append_getElem hj]
  unfold along
  rw [List.filter_append, List.length_append, List.filter_cons]
  by_cases g : t ≤ commonL l[j].f0 p
  · rw [if_pos (by simpa using g), if_pos g]; rfl
  · rw [if_neg (by simpa using g), if_neg g]; rfl
theorem maxI_ge (a b x : Int) : x ≤ maxI a b ↔ x ≤ a ∨ x ≤ b := by
  rw [maxI]
  by_cases h : a < b
  · rw [decide_eq_true h, cond_true]; omega
  · rw [decide_eq_false h, cond_false]; omega
theorem maxI_in {a b x y : Int} (ha : x ≤ a ∧ a ≤ y) (hb : x ≤ b ∧ b ≤ y) : x ≤ maxI a b ∧ maxI a b ≤ y := by
  rw [maxI]
  cases decide (a < b)
  · exact ha
  · exact hb
theorem depth_loop {w : Int} {p : List Int} (hp : Dig p) {l : List S_api_Leaf} (hl : LDig l) (hd : Dst l) (hn : l.length ≤ 4096) {r17 : Bool} {r18 r19 : List Int} {K : Bool → Prop} (h : K true) :
    ∀ (m j k : Nat) (a b : Int), j + m = l.length → m + 9000200 ≤ k → (-1 ≤ b ∧ b ≤ a ∧ a ≤ 256) → (∀ t : Nat, t ≤ 256 → ((1 ≤ (along p (l.take j) t).length ↔ (t : Int) ≤ a) ∧ (2 ≤ (along p (l.take j) t).length ↔ (t : Int) ≤ b))) →
    C_l06_ProofDepth_9 k l a b (j : Int) p r17 r18 r19 (sibL w p l) K := by
  intro m
  induction m with
  | zero =>
    intro j k a b hj hk hab hI
    obtain ⟨k, rfl⟩ : ∃ m, k = m + 1 := ⟨k - 1, by omega⟩
    rw [C_l06_ProofDepth_9]
    simp only [Hold_eq]
    rw [List.take_of_length_le (by omega)] at hI
    refine cond_dec (fun e => by omega) (fun e => makes_s k (by omega) ?_)
    have hb := sibs_len w hl hd (fun t ht => (hI t ht).2) 256 0 rfl (by omega)
    rw [along_zero] at hb
    have h256 := (along_ok hl hd (p := p) (Nat.le_refl 256)).len
    have h2 := (hI 256 (Nat.le_refl _)).2
    rw [cond_true, wrap64 (by omega), decide_eq_true (by unfold sibL; omega)]
    exact h
  | succ m ih =>
    intro j k a b hj hk hab hI
    obtain ⟨k, rfl⟩ : ∃ m, k = m + 1 := ⟨k - 1, by omega⟩
    have hjl : j < l.length := by omega
    rw [C_l06_ProofDepth_9]
    simp only [Hold_eq]
    refine cond_dec (fun e => ⟨⟨by omega, by omega⟩, ?_⟩) (fun e => by omega)
    rw [Int.toNat_natCast, getD_at hjl, step64 j (by omega)]
    refine Common_s k (hl _ (List.getElem_mem hjl)).1 hp (by omega) ?_
    have hc := common_le l[j].f0 p
    refine cond_dec (fun e => ?_) (fun e => ?_)
    · refine ih (j + 1) k _ _ (by omega) (by omega) (by omega) fun t ht => ?_
      have ⟨h1, h2⟩ := hI t ht
      rw [depth_step hjl]
      split <;> omega
    · refine ih (j + 1) k _ _ (by omega) (by omega) ?_ fun t ht => ?_
      · have := maxI_in (a := b) (b := (commonL l[j].f0 p : Int)) (x := -1) (y := a) (by omega) (by omega)
        omega
      · have ⟨h1, h2⟩ := hI t ht
        rw [depth_step hjl, maxI_ge]
        split <;> omega
theorem l06_Depth (k : Nat) {w : Int} {l : List S_api_Leaf} {p : List Int} {K : Bool → Prop} (hl : LDig l) (hp : Dig p) (hk : 10000000 ≤ k) (h : K true) : F_l06_ProofDepth k w l p K := by
  obtain ⟨k, rfl⟩ : ∃ m, k = m + 1 := ⟨k - 1, by omega⟩
  rw [F_l06_ProofDepth]
  simp only [Hold_eq]
  refine cond_dec (fun _ => h) (fun hn => ?_)
  refine Make_s k hl hp (by omega) (fun e => ?_) (fun e => ?_)
  · rw [decide_eq_false e, Bool.not_false, cond_true]
    exact makes_s k (by omega) (by rw [cond_true]; exact h)
  · rw [decide_eq_true rfl, Bool.not_true, cond_false]
    obtain ⟨hw, hln, hd⟩ := rootE_ok e
    refine depth_loop hp hl hd hln h l.length 0 k (-1) (-1) (by omega) (by omega) (by omega) fun t ht => ?_
    have : along p (l.take 0) t = [] := rfl
    rw [this]
    simp only [List.length_nil]
    omega
-- the climb
/-- bytes at a depth, of those further down -/
def climb (W : Nat) (p : List Int) : Nat → List (List Int) → List Int → List Int
  | _, [], v => v
  | n, d :: s, v => stepB W p d n (climb W p (n + 1) s v)
theorem up_climb (W : Nat) (p : List Int) (v : List Int) : ∀ (R S : List (List Int)), upB W p (S ++ R) (R.length + S.length) (R.length + S.length) v = upB W p (S ++ R) S.length S.length (climb W p S.length R v) := by
  intro R
  induction R with
  | nil => intro S; simp [climb]
  | cons d R ih =>
    intro S
    have h := ih (S ++ [d])
    rw [List.append_assoc, List.singleton_append, List.length_append, List.length_singleton] at h
    rw [List.length_cons, show R.length + 1 + S.length = R.length + (S.length + 1) by omega, h, upB]
    rw [show S.length + 1 - 1 = S.length by omega, climb]
    congr 2
    rw [List.getD_eq_getElem?_getD, List.getElem?_append_right (Nat.le_refl _)]
    simp
theorem up_all (W : Nat) (p : List Int) (v : List Int) (s : List (List Int)) : upB W p s s.length s.length v = climb W p 0 s v := up_climb W p v s []
/-- what a check of what was made begins with -/
theorem start_made {w : Int} (hw : 0 ≤ w ∧ w ≤ 32) {p : List Int} {m n : Nat} {l : List S_api_Leaf} (h : l.length ≤ 1) :
    shortL w.toNat (startB p (mHas p l) (mVal p l) (mOth p l) (mOp p l) (mOv p l)) = digT w (bld w m n l) := by
  match l, h with
  | [], _ => rw [bld_nil]; rfl
  | [y], _ =>
    rw [bld_one]
    unfold startB mHas mVal mOth mOp mOv
    by_cases e : y.f0 = p
    · simp only [decide_eq_true e, cond_true, if_pos e]
      rw [← e]; rfl
    · simp only [decide_eq_false e, Bool.not_false, cond_true, cond_false, if_neg e]
      rfl
  | _ :: _ :: _, h => simp at h
theorem climb_made {w : Int} (hw : 0 ≤ w ∧ w ≤ 32) {p : List Int} : ∀ (m n : Nat) {l : List S_api_Leaf}, m + n = 256 → OkL n p l → ∀ e, e = nearL p m n l →
    shortL w.toNat (climb w.toNat p n (sibs w p m n l) (startB p (mHas p e) (mVal p e) (mOth p e) (mOp p e) (mOv p e))) = digT w (bld w m n l) := by
  intro m
  induction m with
  | zero =>
    intro n l hn hl e he
    obtain rfl : n = 256 := by omega
    subst he
    exact start_made hw hl.len
  | succ m ih =>
    intro n l hn hl e he
    by_cases h2 : 1 < l.length
    · rw [sib_two h2, climb, dig_two hn hl h2]
      rw [near_two h2] at he
      have g := ih (n + 1) (by omega) (hl.half rfl) e he
      unfold stepB
      rw [g]
      rcases bit01 p n with b | b
      · rw [if_neg (by omega), b]; rfl
      · rw [if_pos b, b]; rfl
    · rw [sibs_le (by omega)]
      rw [nearL_le (by omega)] at he
      subst he
      exact start_made hw (by omega)
theorem nearL_sub {p : List Int} : ∀ (m n : Nat) {l : List S_api_Leaf} {y : S_api_Leaf}, y ∈ nearL p m n l → y ∈ l := by
  intro m
  induction m with
  | zero => intro n l y h; exact h
  | succ m ih =>
    intro n l y h
    by_cases h2 : 1 < l.length
    · rw [near_two h2] at h
      exact (List.mem_filter.1 (ih (n + 1) h)).1
    · rwa [nearL_le (by omega)] at h
theorem nearL_len {p : List Int} : ∀ (m n : Nat) {l : List S_api_Leaf}, m + n = 256 → OkL n p l → (nearL p m n l).length ≤ 1 := by
  intro m
  induction m with
  | zero =>
    intro n l hn hl
    obtain rfl : n = 256 := by omega
    exact hl.len
  | succ m ih =>
    intro n l hn hl
    by_cases h2 : 1 < l.length
    · rw [near_two h2]; exact ih (n + 1) (by omega) (hl.half rfl)
    · rw [nearL_le (by omega)]; omega
/-- what is left goes along for all siblings -/
theorem nearL_along {w : Int} {p : List Int} : ∀ (m n : Nat) {l : List S_api_Leaf} {y : S_api_Leaf}, m + n = 256 → OkL n p l → y ∈ nearL p m n l → n + (sibs w p m n l).length ≤ 256 ∧ ∀ i, i < n + (sibs w p m n l).length → bitN p i = bitN y.f0 i := by
  intro m
  induction m with
  | zero =>
    intro n l y hn hl h
    rw [sibs]
    exact ⟨by simp; omega, fun i hi => (hl.agr y h i (by simpa using hi)).symm⟩
  | succ m ih =>
    intro n l y hn hl h
    by_cases h2 : 1 < l.length
    · rw [near_two h2] at h
      have := ih (n + 1) (by omega) (hl.half rfl) h
      rw [sib_two h2, List.length_cons]
      exact ⟨by omega, fun i hi => this.2 i (by omega)⟩
    · rw [nearL_le (by omega)] at h
      rw [sibs_le (by omega)]
      exact ⟨by simp; omega, fun i hi => (hl.agr y h i (by simpa using hi)).symm⟩
theorem sibs_le256 (w : Int) {p : List Int} : ∀ (m n : Nat) {l : List S_api_Leaf}, (sibs w p m n l).length ≤ m := by
  intro m
  induction m with
  | zero => intro n l; exact Nat.le_refl _
  | succ m ih =>
    intro n l
    rw [sibs]
    split
    · have := ih (n + 1) (l := halfL l n (bitN p n))
      rw [List.length_cons]; omega
    · exact Nat.zero_le _
theorem sibs_dig {w : Int} (hw : 0 ≤ w ∧ w ≤ 32) {p : List Int} : ∀ (m n : Nat) {l : List S_api_Leaf}, ∀ d ∈ sibs w p m n l, Dig d := by
  intro m
  induction m with
  | zero => intro n l d hd; cases hd
  | succ m ih =>
    intro n l d hd
    rw [sibs] at hd
    split at hd
    · rcases List.mem_cons.1 hd with rfl | hd
      · exact digT_dig hw _
      · exact ih (n + 1) d hd
    · cases hd
/-- the end's leaf among a path's -/
theorem end_get {p : List Int} {l : List S_api_Leaf} (hd : LDig l) (hn : (endN p l).length ≤ 1) : (mHas p (endN p l) = true → ∃ y ∈ l, y.f0 = p ∧ y.f1 = mVal p (endN p l)) := by
  have hs : ∀ y ∈ endN p l, y ∈ l := fun y hy => nearL_sub 256 0 hy
  generalize endN p l = e at *
  match e, hn with
  | [], _ => intro h; cases h
  | [y], _ =>
    intro h
    have h : y.f0 = p := of_decide_eq_true h
    exact ⟨y, hs y (by simp), h, by simp [mVal, h]⟩
  | _ :: _ :: _, hn => simp at hn
theorem end_dig {p : List Int} {l : List S_api_Leaf} (hd : LDig l) : Dig (mVal p (endN p l)) ∧ Dig (mOp p (endN p l)) ∧ Dig (mOv p (endN p l)) := by
  have hs : ∀ y ∈ endN p l, y ∈ l := fun y hy => nearL_sub 256 0 hy
  generalize endN p l = e at *
  match e with
  | [] => exact ⟨Dig.zero, Dig.zero, Dig.zero⟩
  | y :: _ =>
    have hy := hd y (hs y (by simp))
    unfold mVal mOp mOv
    by_cases g : y.f0 = p
    · simp only [if_pos g]; exact ⟨hy.2, Dig.zero, Dig.zero⟩
    · simp only [if_neg g]; exact ⟨Dig.zero, hy.1, hy.2⟩
theorem may_made {w : Int} {p : List Int} {l : List S_api_Leaf} (hd : LDig l) (hdd : Dst l) : mayP p (mHas p (endN p l)) (mVal p (endN p l)) (sibL w p l) (mOth p (endN p l)) (mOp p (endN p l)) (mOv p (endN p l)) = true := by
  have h1 : (sibL w p l).length ≤ 256 := sibs_le256 w 256 0
  have h2 : ∀ y ∈ endN p l, ∀ i, i < (sibL w p l).length → bitN p i = bitN y.f0 i := fun y hy i hi => (nearL_along (w := w) 256 0 rfl (.of hd hdd p) hy).2 i (by unfold sibL at hi; omega)
  generalize endN p l = e at *
  generalize sibL w p l = s at *
  unfold mayP
  rw [decide_eq_true h1, Bool.true_and]
  match e with
  | [] => simp [mHas, mVal, mOth, mOp, mOv]
  | y :: _ =>
    unfold mHas mVal mOth mOp mOv
    by_cases g : y.f0 = p
    · simp [g]
    · simp only [decide_eq_false g, if_neg g]
      have := (common_iff p y.f0 h1).2 (h2 y (by simp))
      simp [this, g]
theorem check_made {w : Int} {p : List Int} {l : List S_api_Leaf} (hd : LDig l) (he : rootE w l = 0) : checkV w (rootR w l) p (mHas p (endN p l)) (mVal p (endN p l)) (sibL w p l) (mOth p (endN p l)) (mOp p (endN p l)) (mOv p (endN p l)) = 0 := by
  obtain ⟨hw, hn, hdd⟩ := rootE_ok he
  unfold checkV
  rw [if_pos hw, may_made hd hdd, cond_true, up_all, if_pos]
  unfold rootR rootL
  rw [if_pos he]
  exact climb_made hw 256 0 rfl (.of hd hdd p) _ rfl
-- the law's loop
def thereL (p : List Int) (has : Bool) (val : List Int) (l : List S_api_Leaf) : Bool := l.any fun y => decide (y.f0 = p) && (has && decide (y.f1 = val))
theorem there_loop {w : Int} {l : List S_api_Leaf} (hn : l.length ≤ 4096) {p val op ov root : List Int} {has oth : Bool} {s : List (List Int)} (hp : Dig p) (hv : Dig val) (hop : Dig op) (hov : Dig ov) (hs : ∀ d ∈ s, Dig d)
    (hc : checkV w root p has val s oth op ov = 0) (hh : thereL p has val l = has) {K : Bool → Prop} (h : K true) :
    ∀ (m j k : Nat), j + m = l.length → 2 * m + 9000200 ≤ k → C_l06_ProofRight_9 k w l (thereL p has val (l.take j)) (j : Int) p has val oth op ov root s K := by
  intro m
  induction m with
  | zero =>
    intro j k hj hk
    obtain ⟨k, rfl⟩ : ∃ m, k = m + 1 := ⟨k - 1, by omega⟩
    rw [C_l06_ProofRight_9]
    simp only [Hold_eq]
    rw [List.take_of_length_le (by omega), hh]
    refine cond_dec (fun e => by omega) (fun e => makes_s k (by omega) ?_)
    rw [cond_true]
    refine checks_s k (by omega) ?_
    rw [cond_true, beq_self_eq_true, cond_true]
    refine proof_Check_s k hp hv hop hov hs (by omega) ?_
    rw [hc]
    exact h
  | succ m ih =>
    intro j k hj hk
    obtain ⟨k, rfl⟩ : ∃ m, k = m + 2 := ⟨k - 2, by omega⟩
    have hjl : j < l.length := by omega
    have next := ih (j + 1) k (by omega) (by omega)
    have four : C_l06_ProofRight_10 (k + 1) w l (thereL p has val (l.take (j + 1))) (j : Int) p has val oth op ov root s K := by
      rw [C_l06_ProofRight_10]
      simp only [Hold_eq]
      rw [step64 j (by omega)]
      exact next
    rw [C_l06_ProofRight_9]
    simp only [Hold_eq]
    have st : thereL p has val (l.take (j + 1)) = (thereL p has val (l.take j) || (decide (l[j].f0 = p) && (has && decide (l[j].f1 = val)))) := by
      rw [List.take_succ_eq_append_getElem hjl]
      unfold thereL
      rw [List.any_append, List.any_cons, List.any_nil, Bool.or_false]
    rw [st] at four
    refine cond_dec (fun e => ?_) (fun e => by omega)
    refine cond_b (fun g => ?_) (fun g => ⟨⟨by omega, by omega⟩, ?_⟩)
    · rw [g, Bool.true_or] at four; exact four
    · rw [g, Bool.false_or] at four
      rw [Int.toNat_natCast, getD_at hjl]
      refine cond_dec (fun g1 => ?_) (fun g1 => ?_)
      · rw [decide_eq_true g1, Bool.true_and] at four
        refine cond_b (fun g2 => ⟨⟨by omega, by omega⟩, ?_⟩) (fun g2 => ?_)
        · subst g2
          rw [Bool.true_and] at four; exact four
        · subst g2
          rw [Bool.false_and] at four; exact four
      · rw [decide_eq_false g1, Bool.false_and] at four; exact four
theorem l06_Right (k : Nat) {w : Int} {l : List S_api_Leaf} {p : List Int} {K : Bool → Prop} (hl : LDig l) (hp : Dig p) (hk : 10000000 ≤ k) (h : K true) : F_l06_ProofRight k w l p K := by
  obtain ⟨k, rfl⟩ : ∃ m, k = m + 1 := ⟨k - 1, by omega⟩
  rw [F_l06_ProofRight]
  simp only [Hold_eq]
  refine cond_dec (fun _ => h) (fun hn => ?_)
  refine Make_s k hl hp (by omega) (fun e => ?_) (fun e => ?_)
  · refine Root_s k hl (by omega) ?_
    rw [decide_eq_false e, Bool.not_false, cond_true]
    refine makes_s k (by omega) ?_
    rw [cond_true]
    refine checks_s k (by omega) ?_
    rw [cond_true, decide_eq_true rfl]
    exact h
  · refine Root_s k hl (by omega) ?_
    rw [decide_eq_true rfl, Bool.not_true, cond_false, e, decide_eq_true rfl, Bool.not_true, cond_false]
    obtain ⟨hw, hln, hd⟩ := rootE_ok e
    obtain ⟨d1, d2, d3⟩ := end_dig (p := p) hl
    refine there_loop hln hp d1 d2 d3 (sibs_dig hw 256 0) (check_made hl e) ?_ h l.length 0 k (by omega) (by omega)
    have hg := end_get hl (p := p) (nearL_len 256 0 rfl (.of hl hd p))
    unfold thereL
    cases hb : mHas p (endN p l) with
    | false => simp
    | true =>
      obtain ⟨y, hy, e1, e2⟩ := hg hb
      rw [List.any_eq_true]
      exact ⟨y, hy, by simp [e1, e2]⟩
end Go.V
