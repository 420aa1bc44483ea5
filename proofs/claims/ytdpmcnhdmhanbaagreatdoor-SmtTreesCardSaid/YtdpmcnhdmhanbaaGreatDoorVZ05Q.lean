/- what the document computes of sets of leaves -/
import Derived.Test.YtdpmcnhdmhanbaaGreatDoorVZ05P
import Derived.Test.YtdpmcnhdmhanbaaGreatDoorVZ05X
import Derived.Test.YtdpmcnhdmhanbaaGreatDoorVZ05O
set_option linter.unusedVariables false
set_option linter.unusedSimpArgs false
set_option maxRecDepth 8000
namespace Go.V
theorem r04_Common_loop {p q : List Int} (hp : Dig p) (hq : Dig q) : ∀ (m j k : Nat) {K : Int → Prop}, j + m = 256 → m + 20 ≤ k → K (comGo p q m j) → C_r04_Common_2 k (j : Int) p q K := by
  intro m
  induction m with
  | zero =>
    intro j k K hj hk h
    obtain ⟨k, rfl⟩ : ∃ m, k = m + 1 := ⟨k - 1, by omega⟩
    rw [C_r04_Common_2]
    exact cond_dec (fun h1 => by omega) (fun h1 => h)
  | succ m ih =>
    intro j k K hj hk h
    obtain ⟨k, rfl⟩ : ∃ m, k = m + 1 := ⟨k - 1, by omega⟩
    rw [C_r04_Common_2]
    simp only [Hold_eq]
    refine cond_dec (fun h1 => ?_) (fun h1 => by omega)
    refine At_s k hp (by omega) (by omega) (At_s k hq (by omega) (by omega) ?_)
    rw [comGo] at h
    rw [decide_eq_decide.2 (by omega : ((bitN p j : Nat) : Int) = (bitN q j : Int) ↔ bitN p j = bitN q j), step64 j (by omega)]
    refine cond_dec (fun h2 => ?_) (fun h2 => ?_)
    · rw [if_pos h2] at h
      exact ih (j + 1) k (by omega) (by omega) h
    · rw [if_neg h2] at h; exact h
theorem r04_Common_s (k : Nat) {p q : List Int} {K : Int → Prop} (hp : Dig p) (hq : Dig q) (hk : 300 ≤ k) (h : K (commonL p q)) : F_r04_Common k p q K := by
  obtain ⟨k, rfl⟩ : ∃ m, k = m + 1 := ⟨k - 1, by omega⟩
  rw [F_r04_Common]
  simp only [Hold_eq]
  exact r04_Common_loop hp hq 256 0 k (by omega) (by omega) h
theorem Less_s (k : Nat) {p q : List Int} {K : Bool → Prop} (hp : Dig p) (hq : Dig q) (hk : 400 ≤ k) (h : K (lessB p q)) : F_r04_Less k p q K := by
  obtain ⟨k, rfl⟩ : ∃ m, k = m + 1 := ⟨k - 1, by omega⟩
  rw [F_r04_Less]
  simp only [Hold_eq]
  refine r04_Common_s k hp hq (by omega) ?_
  unfold lessB at h
  have hc := comGo_le p q 256 0
  change _ ≤ commonL p q ∧ commonL p q ≤ _ at hc
  refine cond_dec (fun e => ?_) (fun e => ?_)
  · refine At_s k hp (by omega) (by omega) ?_
    rw [decide_eq_true (by omega), Bool.true_and] at h
    rw [decide_eq_decide.2 (by omega : ((bitN p (commonL p q) : Nat) : Int) = 0 ↔ bitN p (commonL p q) = 0)]
    exact h
  · rw [decide_eq_false (by omega), Bool.false_and] at h
    exact h
theorem r05_Drop_loop {l : List S_api_Leaf} (hn : l.length ≤ 4096) {p : List Int} {K : List S_api_Leaf → Bool → Prop} (h : K (remL l p) (decide ((remL l p).length < l.length))) :
    ∀ (m j k : Nat), j + m = l.length → 2 * m + 2 ≤ k → C_r05_Drop_3 k l (j : Int) p (remL (l.take j) p) K := by
  intro m
  induction m with
  | zero =>
    intro j k hj hk
    obtain ⟨k, rfl⟩ : ∃ m, k = m + 1 := ⟨k - 1, by omega⟩
    rw [C_r05_Drop_3]
    simp only [Hold_eq]
    refine cond_dec (fun e => by omega) (fun e => ?_)
    rw [List.take_of_length_le (by omega), decide_eq_decide.2 (by omega : (((remL l p).length : Nat) : Int) < ((l.length : Nat) : Int) ↔ (remL l p).length < l.length)]
    exact h
  | succ m ih =>
    intro j k hj hk
    obtain ⟨k, rfl⟩ : ∃ m, k = m + 2 := ⟨k - 2, by omega⟩
    have hjl : j < l.length := by omega
    rw [C_r05_Drop_3]
    simp only [Hold_eq]
    refine cond_dec (fun e => ?_) (fun e => by omega)
    rw [Int.toNat_natCast, getD_at hjl]
    have next := ih (j + 1) k (by omega) (by omega)
    have hs : remL (l.take (j + 1)) p = remL (l.take j) p ++ (if l[j].f0 = p then [] else [l[j]]) := by
      rw [List.take_succ_eq_append_getElem hjl]
      unfold remL
      rw [List.filter_append, List.filter_cons]
      by_cases g : l[j].f0 = p <;> simp [g]
    have hlen : (remL (l.take j) p).length ≤ 4096 := Nat.le_trans (List.length_filter_le _ _) (by rw [List.length_take]; omega)
    have four : ∀ a, C_r05_Drop_3 k l ((j + 1 : Nat) : Int) p a K → C_r05_Drop_4 (k + 1) l (j : Int) p a K := by
      intro a ha
      rw [C_r05_Drop_4]
      simp only [Hold_eq]
      rw [step64 j (by omega)]
      exact ha
    refine ⟨⟨by omega, by omega⟩, cond_ndec (fun g => ?_) (fun g => ?_)⟩
    · rw [hs, if_neg g] at next
      exact ⟨⟨by omega, by omega⟩, by unfold room; simp only [List.length_cons, List.length_nil]; omega, four _ next⟩
    · rw [hs, if_pos g, List.append_nil] at next
      exact four _ next
theorem r05_Drop_s (k : Nat) {l : List S_api_Leaf} (hd : Dst l) (hn : l.length ≤ 4096) {p : List Int} {K : List S_api_Leaf → Bool → Prop} (hk : 9000 ≤ k) (h : K (remL l p) (getL l p).isSome) : F_r05_Drop k l p K := by
  obtain ⟨k, rfl⟩ : ∃ m, k = m + 1 := ⟨k - 1, by omega⟩
  rw [F_r05_Drop]
  simp only [Hold_eq]
  refine r05_Drop_loop hn ?_ l.length 0 k (by omega) (by omega)
  have hr := rem_len_eq (p := p) hd
  cases hg : (getL l p).isSome with
  | true =>
    rw [hg] at hr h
    simp only [if_true] at hr
    rw [decide_eq_true (by omega)]; exact h
  | false =>
    rw [hg] at hr h
    have hr : (remL l p).length + 0 = l.length := hr
    rw [decide_eq_false (by omega)]; exact h
theorem r05_Get_loop {l : List S_api_Leaf} (hn : l.length ≤ 4096) {p z : List Int} {K : List Int → Bool → Prop} : ∀ (m j k : Nat), j + m = l.length → m + 1 ≤ k → K ((getL (l.drop j) p).getD (List.replicate 32 0)) (getL (l.drop j) p).isSome → C_r05_Get_2 k l (j : Int) p z K := by
  intro m
  induction m with
  | zero =>
    intro j k hj hk h
    obtain ⟨k, rfl⟩ : ∃ m, k = m + 1 := ⟨k - 1, by omega⟩
    rw [C_r05_Get_2]
    simp only [Hold_eq]
    refine cond_dec (fun e => by omega) (fun e => ?_)
    rw [List.drop_of_length_le (by omega)] at h
    exact h
  | succ m ih =>
    intro j k hj hk h
    obtain ⟨k, rfl⟩ : ∃ m, k = m + 1 := ⟨k - 1, by omega⟩
    have hjl : j < l.length := by omega
    rw [C_r05_Get_2]
    simp only [Hold_eq]
    rw [drop_cons hjl] at h
    refine cond_dec (fun e => ?_) (fun e => by omega)
    rw [Int.toNat_natCast, getD_at hjl, step64 j (by omega)]
    refine ⟨⟨by omega, by omega⟩, cond_dec (fun g => ⟨⟨by omega, by omega⟩, ?_⟩) (fun g => ih (j + 1) k (by omega) (by omega) ?_)⟩
    · unfold getL at h
      rw [List.find?_cons_of_pos (by simp [g])] at h
      exact h
    · unfold getL at h
      rw [List.find?_cons_of_neg (by simp [g])] at h
      exact h
theorem r05_Get_s (k : Nat) {l : List S_api_Leaf} (hn : l.length ≤ 4096) {p : List Int} {K : List Int → Bool → Prop} (hk : 4100 ≤ k) (h : K ((getL l p).getD (List.replicate 32 0)) (getL l p).isSome) : F_r05_Get k l p K := by
  obtain ⟨k, rfl⟩ : ∃ m, k = m + 1 := ⟨k - 1, by omega⟩
  rw [F_r05_Get]
  simp only [Hold_eq]
  exact r05_Get_loop hn l.length 0 k (by omega) (by omega) h
theorem r05_Set_loop {l more : List S_api_Leaf} (hl : Dst l) (ln : l.length ≤ 2000) (hm : Dst more) (mn : more.length ≤ 2000) {K0 K1 : List S_api_Leaf → Int → Prop} (h0 : K0 (setN l more) (setE l more)) (h1 : K1 (setN l more) (setE l more)) :
    ∀ (m j k : Nat), j + m = more.length → 3 * m + 9010 ≤ k → C_r05_Set_7_1 k l more (j : Int) (setL l (more.take j)) K0 K1 := by
  intro m
  induction m with
  | zero =>
    intro j k hj hk
    obtain ⟨k, rfl⟩ : ∃ m, k = m + 1 := ⟨k - 1, by omega⟩
    rw [C_r05_Set_7_1]
    simp only [Hold_eq]
    refine cond_dec (fun e => by omega) (fun e => ?_)
    rw [List.take_of_length_le (by omega)]
    have e := setE_end (b := l) hm (by omega)
    unfold setN at h0 h1
    refine cond_dec (fun g => ?_) (fun g => ?_)
    · rw [show setE l more = 2 by rw [e, if_pos (by omega)]] at h0; exact h0
    · rw [show setE l more = 0 by rw [e, if_neg (by omega)]] at h1; exact h1
  | succ m ih =>
    intro j k hj hk
    obtain ⟨k, rfl⟩ : ∃ m, k = m + 3 := ⟨k - 3, by omega⟩
    have hjl : j < more.length := by omega
    have hsl := set_len (l := more.take j) hl
    rw [List.length_take] at hsl
    rw [C_r05_Set_7_1]
    simp only [Hold_eq]
    refine cond_dec (fun e => ?_) (fun e => by omega)
    rw [C_r05_Set_9_1]
    simp only [Hold_eq]
    rw [Int.toNat_natCast, getD_at hjl]
    refine ⟨⟨by omega, by omega⟩, r05_Drop_s (k + 1) hl.set (by omega) (by omega) ?_⟩
    rw [C_r05_Set_10]
    simp only [Hold_eq]
    rw [Int.toNat_natCast, getD_at hjl, step64 j (by omega)]
    have next := ih (j + 1) k (by omega) (by omega)
    rw [List.take_succ_eq_append_getElem hjl, setL_snoc] at next
    refine ⟨⟨by omega, by omega⟩, ?_, next⟩
    have := (rem_len (p := more[j].f0) (hl.set (l := more.take j))).2
    unfold room
    simp only [List.length_cons, List.length_nil]
    omega
theorem r05_Set_s (k : Nat) {l more : List S_api_Leaf} (hl : Dst l) (ln : l.length ≤ 2000) (mn : more.length ≤ 2000) {K0 K1 : List S_api_Leaf → Int → Prop} (hk : 5000 * more.length + 20000 ≤ k) (h0 : K0 (setN l more) (setE l more)) (h1 : K1 (setN l more) (setE l more)) : F_r05_Set k l more K0 K1 := by
  obtain ⟨k, rfl⟩ : ∃ m, k = m + 1 := ⟨k - 1, by omega⟩
  rw [F_r05_Set]
  simp only [Hold_eq]
  rw [decide_eq_false (by omega), cond_false]
  refine Twice_s k (by omega) (by omega) (cond_dec (fun g => ?_) (fun g => ?_))
  · unfold setN at h0
    rw [show setE l more = 30 by unfold setE; rw [if_neg (by omega), if_pos g]] at h0
    exact h0
  · have g := Decidable.not_not.1 g
    obtain ⟨k, rfl⟩ : ∃ m, k = m + 3 := ⟨k - 3, by omega⟩
    have run := r05_Set_loop hl ln g mn h0 h1
    rw [C_r05_Set_7]
    simp only [Hold_eq]
    refine cond_dec (fun e => ?_) (fun e => ?_)
    · have hjl : 0 < more.length := by omega
      rw [C_r05_Set_9]
      simp only [Hold_eq]
      rw [show Int.toNat 0 = 0 from rfl, getD_at hjl]
      refine ⟨⟨by omega, by omega⟩, r05_Drop_s (k + 1) hl (by omega) (by omega) ?_⟩
      rw [C_r05_Set_10]
      simp only [Hold_eq]
      rw [show Int.toNat 0 = 0 from rfl, getD_at hjl]
      have next := run (more.length - 1) 1 k (by omega) (by omega)
      rw [show more.take 1 = [more[0]] by rw [List.take_succ_eq_append_getElem hjl]; rfl] at next
      refine ⟨⟨by omega, by omega⟩, ?_, next⟩
      have := (rem_len (p := more[0].f0) hl).2
      unfold room
      simp only [List.length_cons, List.length_nil]
      omega
    · have hm : more = [] := List.length_eq_zero_iff.1 (by omega)
      subst hm
      have e0 : setE l [] = 0 := by rw [setE_end Dst.nil (by simp), if_neg]; show ¬ 4096 < l.length; omega
      have n0 : setN l [] = l := by unfold setN; rw [if_pos e0]; rfl
      rw [e0, n0] at h0
      rw [decide_eq_false (by omega), cond_false]
      exact h0
-- in order
theorem ins_take {x : S_api_Leaf} (hx : Dig x.f0) {l out : List S_api_Leaf} {i : Nat} (hi : i < l.length) (e : l[i] = x) (ln : l.length ≤ 4096) (ho : LDig out) (on : out.length ≤ 4096) {N : Nat} {K : List S_api_Leaf → Prop} :
    ∀ (m j k : Nat), j + m = out.length → N + m + 1000 ≤ k → (∀ k, N ≤ k → C_r05_Sorted_3 k l ((i + 1 : Nat) : Int) (out.take j ++ insS x (out.drop j)) K) → C_r05_Sorted_6 k l (i : Int) (j : Int) out K := by
  have put : ∀ (j k : Nat), j ≤ out.length → N + 1 ≤ k → (∀ k, N ≤ k → C_r05_Sorted_3 k l ((i + 1 : Nat) : Int) (out.take j ++ x :: out.drop j) K) → C_r05_Sorted_9 k l (i : Int) (j : Int) out [] K := by
    intro j k hj hk h
    obtain ⟨k, rfl⟩ : ∃ m, k = m + 1 := ⟨k - 1, by omega⟩
    rw [C_r05_Sorted_9]
    simp only [Hold_eq]
    have c1 : cut out (Int.toNat 0) (Int.toNat ((j : Int) - 0)) = out.take j := by unfold cut; simp
    have c2 : cut out (Int.toNat (j : Int)) (Int.toNat ((out.length : Int) - (j : Int))) = out.drop j := by
      unfold cut
      rw [Int.toNat_natCast, List.take_of_length_le (by rw [List.length_drop]; omega)]
    rw [c1, c2, Int.toNat_natCast, getD_at hi, e, step64 i (by omega)]
    have h := h k (by omega)
    refine ⟨by omega, ?_, by omega, ?_, by omega, ?_, ?_⟩
    · unfold room; simp; omega
    · unfold room; simp; omega
    · unfold room; simp; omega
    · rw [List.nil_append, List.append_assoc]
      exact h
  intro m
  induction m with
  | zero =>
    intro j k hj hk h
    obtain ⟨k, rfl⟩ : ∃ m, k = m + 1 := ⟨k - 1, by omega⟩
    rw [C_r05_Sorted_6]
    simp only [Hold_eq]
    refine cond_dec (fun e => by omega) (fun _ => put j k (by omega) (by omega) ?_)
    rw [List.drop_of_length_le (by omega)] at h ⊢
    exact h
  | succ m ih =>
    intro j k hj hk h
    obtain ⟨k, rfl⟩ : ∃ m, k = m + 1 := ⟨k - 1, by omega⟩
    have hjl : j < out.length := by omega
    rw [C_r05_Sorted_6]
    simp only [Hold_eq]
    refine cond_dec (fun _ => ?_) (fun e => by omega)
    rw [Int.toNat_natCast, Int.toNat_natCast, getD_at hi, getD_at hjl, e, step64 j (by omega)]
    refine ⟨by omega, by omega, Less_s k hx (ho _ (List.getElem_mem hjl)).1 (by omega) ?_⟩
    rw [drop_cons hjl, insS] at h
    refine cond_nb (fun g => ?_) (fun g => ?_)
    · rw [g, cond_false] at h
      refine ih (j + 1) k (by omega) (by omega) ?_
      rw [List.take_succ_eq_append_getElem hjl, List.append_assoc]
      exact h
    · rw [g, cond_true] at h
      refine put j k (by omega) (by omega) ?_
      rw [drop_cons hjl]
      exact h
theorem insS_dig {x : S_api_Leaf} (hx : Dig x.f0 ∧ Dig x.f1) {l : List S_api_Leaf} (h : LDig l) : LDig (insS x l) := fun y hy => by
  rcases List.mem_cons.1 ((insS_perm x l).mem_iff.1 hy) with rfl | hy
  · exact hx
  · exact h y hy
theorem Sorted_loop {l : List S_api_Leaf} (hl : LDig l) (ln : l.length ≤ 4096) {K : List S_api_Leaf → Prop} : ∀ (m j k : Nat) {o : List S_api_Leaf}, j + m = l.length → 6000 * m + 10 ≤ k → LDig o → o.length ≤ j → K ((l.drop j).foldl (fun o x => insS x o) o) → C_r05_Sorted_3 k l (j : Int) o K := by
  intro m
  induction m with
  | zero =>
    intro j k o hj hk _ _ h
    obtain ⟨k, rfl⟩ : ∃ m, k = m + 1 := ⟨k - 1, by omega⟩
    rw [C_r05_Sorted_3]
    simp only [Hold_eq]
    rw [List.drop_of_length_le (by omega)] at h
    exact cond_dec (fun e => by omega) (fun e => h)
  | succ m ih =>
    intro j k o hj hk ho on h
    obtain ⟨k, rfl⟩ : ∃ m, k = m + 1 := ⟨k - 1, by omega⟩
    have hjl : j < l.length := by omega
    have hx := hl _ (List.getElem_mem hjl)
    rw [C_r05_Sorted_3]
    simp only [Hold_eq]
    refine cond_dec (fun _ => ?_) (fun e => by omega)
    rw [drop_cons hjl] at h
    refine ins_take hx.1 hjl rfl ln ho (by omega) (N := 6000 * m + 10) o.length 0 k (by omega) (by omega) fun k hk => ?_
    rw [List.take_zero, List.nil_append, List.drop_zero]
    exact ih (j + 1) k (by omega) hk (insS_dig hx ho) (by rw [(insS_perm l[j] o).length_eq, List.length_cons]; omega) h
theorem Sorted_s (k : Nat) {l : List S_api_Leaf} (hl : LDig l) (ln : l.length ≤ 4096) {K : List S_api_Leaf → Prop} (hk : 6000 * l.length + 20 ≤ k) (h : K (sortS l)) : F_r05_Sorted k l K := by
  obtain ⟨k, rfl⟩ : ∃ m, k = m + 1 := ⟨k - 1, by omega⟩
  rw [F_r05_Sorted]
  simp only [Hold_eq]
  exact Sorted_loop hl ln l.length 0 k (by omega) (by omega) LDig.nil (by simp) h
end Go.V
