/- whatever is set and dropped, a tree has just these leaves, and this root -/
import Derived.Test.YtdpmcnhdmhanbaaGreatDoorVZ05Q
import Derived.Test.YtdpmcnhdmhanbaaGreatDoorVZ05E
import Derived.Test.YtdpmcnhdmhanbaaGreatDoorVJ11
set_option linter.unusedVariables false
set_option linter.unusedSimpArgs false
set_option maxRecDepth 8000
namespace Go.V
abbrev TT (w : Int) (l : List S_api_Leaf) : KT S_api_Leaf := bld w 256 0 l
structure Inv5 (l : List S_api_Leaf) (b : Nat) : Prop where
  dig : LDig l
  dst : Dst l
  len : l.length ≤ b
/-- the next round, in both shapes -/
def Nx (w : Int) (s : List S_l05_Op) (j : Nat) (l : List S_api_Leaf) (N : Nat) (K : Bool → Prop) : Prop :=
  (∀ k, N ≤ k → C_l05_SmtTrees_15 k w s (j : Int) w l.length (TT w l) l K) ∧ (∀ k, N ≤ k → C_l05_SmtTrees_15_1 k w s l (j : Int) w l.length (TT w l) K)

theorem spoilV {w : Int} {s : List S_l05_Op} {l : List S_api_Leaf} {i N : Nat} {K : Bool → Prop} (hi : i < 60) (hN : Nx w s (i + 1) l N K) : ∀ (m j k : Nat) (g : List S_api_Leaf), g.length ≤ 4096 → j + m = g.length → 3 * m + N + 2 ≤ k →
    C_l05_SmtTrees_39 k w s l (i : Int) (j : Int) w l.length (TT w l) g K := by
  intro m
  induction m with
  | zero =>
    intro j k g hg hj hk
    obtain ⟨k, rfl⟩ : ∃ m, k = m + 1 := ⟨k - 1, by omega⟩
    rw [C_l05_SmtTrees_39]
    simp only [Hold_eq]
    refine cond_dec (fun e => by omega) (fun e => ?_)
    rw [step64 i (by omega)]
    exact hN.2 k (by omega)
  | succ m ih =>
    intro j k g hg hj hk
    obtain ⟨k, rfl⟩ : ∃ m, k = m + 3 := ⟨k - 3, by omega⟩
    rw [C_l05_SmtTrees_39]
    simp only [Hold_eq]
    refine cond_dec (fun e => ?_) (fun e => by omega)
    rw [C_l05_SmtTrees_41]
    simp only [Hold_eq]
    refine ⟨by omega, by decide, ?_⟩
    rw [C_l05_SmtTrees_40]
    simp only [Hold_eq]
    rw [step64 j (by omega)]
    exact ih (j + 1) k _ (by rw [List.length_set]; exact hg) (by rw [List.length_set]; omega) (by omega)
theorem askV {w : Int} {s : List S_l05_Op} {l : List S_api_Leaf} {i N : Nat} {K : Bool → Prop} (hw : 0 ≤ w ∧ w ≤ 32) (hi : i < 60) (hl : LDig l) (hd : Dst l) (hn : l.length ≤ 400) (hN : Nx w s (i + 1) l N K) (k : Nat) (hk : N + 3000 ≤ k) (hk2 : 2500000 ≤ k) :
    C_l05_SmtTrees_35 k w s l (i : Int) w l.length (TT w l) K := by
  obtain ⟨k, rfl⟩ : ∃ m, k = m + 2 := ⟨k - 2, by omega⟩
  rw [C_l05_SmtTrees_35]
  simp only [Hold_eq]
  refine Leaves_s (k + 1) hl hd (by omega) (by omega) ?_
  rw [C_l05_SmtTrees_36]
  simp only [Hold_eq]
  refine Len_s k (by omega) (cond_ndec (fun e => absurd rfl e) (fun _ => ?_))
  refine Sorted_s k hl (by omega) (by omega) ?_
  rw [sort_leaves w hl hd]
  have hs := sortS_len hl hd
  refine same_s k (by omega) (by omega) ?_
  rw [Bool.not_true, cond_false]
  refine Root1_s k hw hl (by omega) (Digest_s hw 256 0 k rfl (.of hl hd []) (by omega) (by omega) ?_)
  refine cond_ndec (fun e => absurd rfl e) (fun _ => ?_)
  exact spoilV hi hN _ 0 k _ (by omega) (Nat.zero_add _) (by omega)

theorem spoilO {w : Int} {s : List S_l05_Op} {l : List S_api_Leaf} {i N : Nat} {K : Bool → Prop} (hi : i < 60) (hN : Nx w s (i + 1) l N K) : ∀ (m j k : Nat) (g : List S_api_Leaf), g.length ≤ 4096 → j + m = g.length → 3 * m + N + 2 ≤ k →
    C_l05_SmtTrees_39_1 k w s (i : Int) (j : Int) w l.length (TT w l) l g K := by
  intro m
  induction m with
  | zero =>
    intro j k g hg hj hk
    obtain ⟨k, rfl⟩ : ∃ m, k = m + 1 := ⟨k - 1, by omega⟩
    rw [C_l05_SmtTrees_39_1]
    simp only [Hold_eq]
    refine cond_dec (fun e => by omega) (fun e => ?_)
    rw [step64 i (by omega)]
    exact hN.1 k (by omega)
  | succ m ih =>
    intro j k g hg hj hk
    obtain ⟨k, rfl⟩ : ∃ m, k = m + 3 := ⟨k - 3, by omega⟩
    rw [C_l05_SmtTrees_39_1]
    simp only [Hold_eq]
    refine cond_dec (fun e => ?_) (fun e => by omega)
    rw [C_l05_SmtTrees_41_1]
    simp only [Hold_eq]
    refine ⟨by omega, by decide, ?_⟩
    rw [C_l05_SmtTrees_40_1]
    simp only [Hold_eq]
    rw [step64 j (by omega)]
    exact ih (j + 1) k _ (by rw [List.length_set]; exact hg) (by rw [List.length_set]; omega) (by omega)
theorem askO {w : Int} {s : List S_l05_Op} {l : List S_api_Leaf} {i N : Nat} {K : Bool → Prop} (hw : 0 ≤ w ∧ w ≤ 32) (hi : i < 60) (hl : LDig l) (hd : Dst l) (hn : l.length ≤ 400) (hN : Nx w s (i + 1) l N K) (k : Nat) (hk : N + 3000 ≤ k) (hk2 : 2500000 ≤ k) :
    C_l05_SmtTrees_35_1 k w s (i : Int) w l.length (TT w l) l K := by
  obtain ⟨k, rfl⟩ : ∃ m, k = m + 2 := ⟨k - 2, by omega⟩
  rw [C_l05_SmtTrees_35_1]
  simp only [Hold_eq]
  refine Leaves_s (k + 1) hl hd (by omega) (by omega) ?_
  rw [C_l05_SmtTrees_36_1]
  simp only [Hold_eq]
  refine Len_s k (by omega) (cond_ndec (fun e => absurd rfl e) (fun _ => ?_))
  refine Sorted_s k hl (by omega) (by omega) ?_
  rw [sort_leaves w hl hd]
  have hs := sortS_len hl hd
  refine same_s k (by omega) (by omega) ?_
  rw [Bool.not_true, cond_false]
  refine Root1_s k hw hl (by omega) (Digest_s hw 256 0 k rfl (.of hl hd []) (by omega) (by omega) ?_)
  refine cond_ndec (fun e => absurd rfl e) (fun _ => ?_)
  exact spoilO hi hN _ 0 k _ (by omega) (Nat.zero_add _) (by omega)

theorem stepO {w : Int} {s : List S_l05_Op} {l : List S_api_Leaf} {i N : Nat} {K : Bool → Prop} (hw : 0 ≤ w ∧ w ≤ 32) (hi : i < s.length) (hs : s.length ≤ 60) (ho : LDig s[i].f1 ∧ Dig s[i].f2) (hln : s[i].f1.length ≤ 200) (hl : LDig l) (hd : Dst l) (hn : l.length ≤ 200)
    (hN : ∀ l' : List S_api_Leaf, LDig l' → Dst l' → l'.length ≤ l.length + s[i].f1.length → Nx w s (i + 1) l' N K) (k : Nat) (hk : N + 4000 ≤ k) (hk2 : 2600000 ≤ k) :
    C_l05_SmtTrees_17 k w s (i : Int) w l.length (TT w l) l K := by
  have askO' : ∀ l' : List S_api_Leaf, LDig l' → Dst l' → l'.length ≤ l.length + s[i].f1.length → ∀ k, N + 3000 ≤ k → 2500000 ≤ k → C_l05_SmtTrees_35_1 k w s (i : Int) w l'.length (TT w l') l' K := fun l' h1 h2 h3 k h4 h5 => askO hw (by omega) h1 h2 (by omega) (hN l' h1 h2 h3) k h4 h5
  have askV' : ∀ l' : List S_api_Leaf, LDig l' → Dst l' → l'.length ≤ l.length + s[i].f1.length → ∀ k, N + 3000 ≤ k → 2500000 ≤ k → C_l05_SmtTrees_35 k w s l' (i : Int) w l'.length (TT w l') K := fun l' h1 h2 h3 k h4 h5 => askV hw (by omega) h1 h2 (by omega) (hN l' h1 h2 h3) k h4 h5
  obtain ⟨k, rfl⟩ : ∃ m, k = m + 6 := ⟨k - 6, by omega⟩
  rw [C_l05_SmtTrees_17]
  simp only [Hold_eq]
  rw [Int.toNat_natCast, getD_at hi]
  refine ⟨by omega, ?_⟩
  rw [C_l05_SmtTrees_18]
  simp only [Hold_eq]
  rw [C_l05_SmtTrees_19]
  simp only [Hold_eq]
  obtain ⟨hm, hp⟩ := ho
  generalize s[i].f1 = more at *
  generalize s[i].f2 = p at *
  generalize s[i].f0 = kind at *
  have hsl := set_len (l := more) hd
  refine cond_dec (fun _ => ?_) (fun _ => ?_)
  · rw [C_l05_SmtTrees_20]
    simp only [Hold_eq]
    refine own_s (k + 2) (by omega) (by omega) ?_
    rw [C_l05_SmtTrees_21]
    simp only [Hold_eq]
    have hds : LDig (setN l more) := by unfold setN; split <;> first | exact hl.set hm | exact hl
    have hdd : Dst (setN l more) := by unfold setN; split <;> first | exact hd.set | exact hd
    have hdl : (setN l more).length ≤ l.length + more.length := by unfold setN; split <;> omega
    refine r05_Set_s (k + 1) hd (by omega) (by omega) (by omega) ?_ ?_
    · rw [C_l05_SmtTrees_22]
      simp only [Hold_eq]
      refine Set_sA k hl hd hm (by omega) (by omega) (cond_ndec (fun e => absurd rfl e) (fun _ => ?_))
      refine same_s k (by omega) (by omega) ?_
      rw [Bool.not_true, cond_false]
      exact askV' _ hds hdd hdl k (by omega) (by omega)
    · rw [C_l05_SmtTrees_22_1]
      simp only [Hold_eq]
      refine Set_sA k hl hd hm (by omega) (by omega) (cond_ndec (fun e => absurd rfl e) (fun _ => ?_))
      refine same_s k (by omega) (by omega) ?_
      rw [Bool.not_true, cond_false]
      exact askO' _ hds hdd hdl k (by omega) (by omega)
  · rw [C_l05_SmtTrees_25_1]
    simp only [Hold_eq]
    refine cond_dec (fun _ => ?_) (fun _ => ?_)
    · rw [C_l05_SmtTrees_26_1]
      simp only [Hold_eq]
      have hr := (rem_len (p := p) hd).2
      refine r05_Drop_s (k + 1) hd (by omega) (by omega) (Drop_s (k + 1) hl hd hp (by omega) (by omega) ?_)
      rw [show (!((getL l p).isSome == (getL l p).isSome)) = false by simp, cond_false]
      exact askO' _ (hl.rem p) (hd.rem p) (by omega) (k + 1) (by omega) (by omega)
    · rw [C_l05_SmtTrees_30_1]
      simp only [Hold_eq]
      refine cond_dec (fun _ => ?_) (fun _ => ?_)
      · rw [C_l05_SmtTrees_31_1]
        simp only [Hold_eq]
        refine Get_s k hl hd hp (by omega) (r05_Get_s k (by omega) (by omega) (cond_ndec (fun e => absurd rfl e) (fun _ => ?_)))
        rw [show (!((getL l p).isSome == (getL l p).isSome)) = false by simp, cond_false]
        exact askO' _ hl hd (by omega) k (by omega) (by omega)
      · exact askO' _ hl hd (by omega) (k + 1) (by omega) (by omega)

theorem stepV {w : Int} {s : List S_l05_Op} {l : List S_api_Leaf} {i N : Nat} {K : Bool → Prop} (hw : 0 ≤ w ∧ w ≤ 32) (hi : i < s.length) (hs : s.length ≤ 60) (ho : LDig s[i].f1 ∧ Dig s[i].f2) (hln : s[i].f1.length ≤ 200) (hl : LDig l) (hd : Dst l) (hn : l.length ≤ 200)
    (hN : ∀ l' : List S_api_Leaf, LDig l' → Dst l' → l'.length ≤ l.length + s[i].f1.length → Nx w s (i + 1) l' N K) (k : Nat) (hk : N + 4000 ≤ k) (hk2 : 2600000 ≤ k) :
    C_l05_SmtTrees_17_1 k w s l (i : Int) w l.length (TT w l) K := by
  have askO' : ∀ l' : List S_api_Leaf, LDig l' → Dst l' → l'.length ≤ l.length + s[i].f1.length → ∀ k, N + 3000 ≤ k → 2500000 ≤ k → C_l05_SmtTrees_35_1 k w s (i : Int) w l'.length (TT w l') l' K := fun l' h1 h2 h3 k h4 h5 => askO hw (by omega) h1 h2 (by omega) (hN l' h1 h2 h3) k h4 h5
  have askV' : ∀ l' : List S_api_Leaf, LDig l' → Dst l' → l'.length ≤ l.length + s[i].f1.length → ∀ k, N + 3000 ≤ k → 2500000 ≤ k → C_l05_SmtTrees_35 k w s l' (i : Int) w l'.length (TT w l') K := fun l' h1 h2 h3 k h4 h5 => askV hw (by omega) h1 h2 (by omega) (hN l' h1 h2 h3) k h4 h5
  obtain ⟨k, rfl⟩ : ∃ m, k = m + 6 := ⟨k - 6, by omega⟩
  rw [C_l05_SmtTrees_17_1]
  simp only [Hold_eq]
  rw [Int.toNat_natCast, getD_at hi]
  refine ⟨by omega, ?_⟩
  rw [C_l05_SmtTrees_18_1]
  simp only [Hold_eq]
  rw [C_l05_SmtTrees_19_1]
  simp only [Hold_eq]
  obtain ⟨hm, hp⟩ := ho
  generalize s[i].f1 = more at *
  generalize s[i].f2 = p at *
  generalize s[i].f0 = kind at *
  have hsl := set_len (l := more) hd
  refine cond_dec (fun _ => ?_) (fun _ => ?_)
  · rw [C_l05_SmtTrees_20_1]
    simp only [Hold_eq]
    refine own_s (k + 2) (by omega) (by omega) ?_
    rw [C_l05_SmtTrees_21_1]
    simp only [Hold_eq]
    have hds : LDig (setN l more) := by unfold setN; split <;> first | exact hl.set hm | exact hl
    have hdd : Dst (setN l more) := by unfold setN; split <;> first | exact hd.set | exact hd
    have hdl : (setN l more).length ≤ l.length + more.length := by unfold setN; split <;> omega
    refine r05_Set_s (k + 1) hd (by omega) (by omega) (by omega) ?_ ?_
    · rw [C_l05_SmtTrees_22]
      simp only [Hold_eq]
      refine Set_sA k hl hd hm (by omega) (by omega) (cond_ndec (fun e => absurd rfl e) (fun _ => ?_))
      refine same_s k (by omega) (by omega) ?_
      rw [Bool.not_true, cond_false]
      exact askV' _ hds hdd hdl k (by omega) (by omega)
    · rw [C_l05_SmtTrees_22_1]
      simp only [Hold_eq]
      refine Set_sA k hl hd hm (by omega) (by omega) (cond_ndec (fun e => absurd rfl e) (fun _ => ?_))
      refine same_s k (by omega) (by omega) ?_
      rw [Bool.not_true, cond_false]
      exact askO' _ hds hdd hdl k (by omega) (by omega)
  · rw [C_l05_SmtTrees_25]
    simp only [Hold_eq]
    refine cond_dec (fun _ => ?_) (fun _ => ?_)
    · rw [C_l05_SmtTrees_26]
      simp only [Hold_eq]
      have hr := (rem_len (p := p) hd).2
      refine r05_Drop_s (k + 1) hd (by omega) (by omega) (Drop_s (k + 1) hl hd hp (by omega) (by omega) ?_)
      rw [show (!((getL l p).isSome == (getL l p).isSome)) = false by simp, cond_false]
      exact askO' _ (hl.rem p) (hd.rem p) (by omega) (k + 1) (by omega) (by omega)
    · rw [C_l05_SmtTrees_30]
      simp only [Hold_eq]
      refine cond_dec (fun _ => ?_) (fun _ => ?_)
      · rw [C_l05_SmtTrees_31]
        simp only [Hold_eq]
        refine Get_s k hl hd hp (by omega) (r05_Get_s k (by omega) (by omega) (cond_ndec (fun e => absurd rfl e) (fun _ => ?_)))
        rw [show (!((getL l p).isSome == (getL l p).isSome)) = false by simp, cond_false]
        exact askV' _ hl hd (by omega) k (by omega) (by omega)
      · exact askV' _ hl hd (by omega) (k + 1) (by omega) (by omega)

def tot (s : List S_l05_Op) (j : Nat) : Nat := ((s.take j).map fun o => o.f1.length).sum
theorem tot_succ {s : List S_l05_Op} {j : Nat} (h : j < s.length) : tot s (j + 1) = tot s j + s[j].f1.length := by
  unfold tot
  rw [List.take_succ_eq_append_getElem h, List.map_append, List.sum_append]
  simp
theorem rounds_all {w : Int} {s : List S_l05_Op} {K : Bool → Prop} (hw : 0 ≤ w ∧ w ≤ 32) (hs : s.length ≤ 60) (ho : ∀ o ∈ s, LDig o.f1 ∧ Dig o.f2) (ht : ∀ j, j ≤ s.length → tot s j ≤ 200) (h : K true) :
    ∀ (m j : Nat) (l : List S_api_Leaf), j + m = s.length → LDig l → Dst l → l.length ≤ tot s j → Nx w s j l (5000 * m + 2700000) K := by
  intro m
  induction m with
  | zero =>
    intro j l hj hl hd hn
    have fin : ∀ k, 2600000 ≤ k → F_l05_grows k (fun r397 => (cond r397 ((F_r05_Width k w (fun r398 => K r398))) (K false))) := fun k hk => by
      refine grows_s k (by omega) ?_
      rw [cond_true]
      refine r05_Width_s k (by omega) ?_
      rw [decide_eq_true hw]
      exact h
    refine ⟨fun k hk => ?_, fun k hk => ?_⟩
    · obtain ⟨k, rfl⟩ : ∃ m, k = m + 1 := ⟨k - 1, by omega⟩
      rw [C_l05_SmtTrees_15]
      simp only [Hold_eq]
      exact cond_dec (fun e => by omega) (fun _ => fin k (by omega))
    · obtain ⟨k, rfl⟩ : ∃ m, k = m + 1 := ⟨k - 1, by omega⟩
      rw [C_l05_SmtTrees_15_1]
      simp only [Hold_eq]
      exact cond_dec (fun e => by omega) (fun _ => fin k (by omega))
  | succ m ih =>
    intro j l hj hl hd hn
    have hjl : j < s.length := by omega
    have h1 := ht j (by omega)
    have h2 := ht (j + 1) (by omega)
    have h3 := tot_succ hjl
    have hN : ∀ l' : List S_api_Leaf, LDig l' → Dst l' → l'.length ≤ l.length + s[j].f1.length → Nx w s (j + 1) l' (5000 * m + 2700000) K := fun l' a b c => ih (j + 1) l' (by omega) a b (by omega)
    have hoj := ho _ (List.getElem_mem hjl)
    refine ⟨fun k hk => ?_, fun k hk => ?_⟩
    · obtain ⟨k, rfl⟩ : ∃ m, k = m + 1 := ⟨k - 1, by omega⟩
      rw [C_l05_SmtTrees_15]
      simp only [Hold_eq]
      exact cond_dec (fun _ => stepO hw hjl hs hoj (by omega) hl hd (by omega) hN k (by omega) (by omega)) (fun e => by omega)
    · obtain ⟨k, rfl⟩ : ∃ m, k = m + 1 := ⟨k - 1, by omega⟩
      rw [C_l05_SmtTrees_15_1]
      simp only [Hold_eq]
      exact cond_dec (fun _ => stepV hw hjl hs hoj (by omega) hl hd (by omega) hN k (by omega) (by omega)) (fun e => by omega)
theorem count_loop {w : Int} {s : List S_l05_Op} {K : Bool → Prop} (hs : s.length ≤ 60) (ho : ∀ o ∈ s, LDig o.f1 ∧ Dig o.f2) (h : K true) : ∀ (m j k : Nat), j + m = s.length → m + 4000000 ≤ k → (∀ i, i ≤ j → tot s i ≤ 200) → C_l05_SmtTrees_5 k w s (tot s j : Int) (j : Int) K := by
  intro m
  induction m with
  | zero =>
    intro j k hj hk ht
    obtain ⟨k, rfl⟩ : ∃ m, k = m + 1 := ⟨k - 1, by omega⟩
    rw [C_l05_SmtTrees_5]
    simp only [Hold_eq]
    refine cond_dec (fun e => by omega) (fun _ => ?_)
    refine New_s k (by omega) (fun hw => ?_) (fun hw => ?_)
    · refine grows_s k (by omega) ?_
      simp only [cond_true, decide_true]
      refine r05_Width_s k (by omega) ?_
      rw [decide_eq_false hw]
      exact h
    · refine cond_ndec (fun e => absurd rfl e) (fun _ => ?_)
      exact (rounds_all hw hs ho (fun i hi => ht i (by omega)) h s.length 0 [] (by omega) LDig.nil Dst.nil (by simp)).1 k (by omega)
  | succ m ih =>
    intro j k hj hk ht
    obtain ⟨k, rfl⟩ : ∃ m, k = m + 1 := ⟨k - 1, by omega⟩
    have hjl : j < s.length := by omega
    have h1 := ht j (by omega)
    have h3 := tot_succ hjl
    rw [C_l05_SmtTrees_5]
    simp only [Hold_eq]
    refine cond_dec (fun _ => ?_) (fun e => by omega)
    rw [Int.toNat_natCast, getD_at hjl, wrap64 (n := (200 : Int) - (tot s j : Int)) (by omega), step64 j (by omega)]
    refine ⟨by omega, cond_dec (fun _ => h) (fun g => ⟨by omega, ?_⟩)⟩
    have := ih (j + 1) k (by omega) (by omega) (fun i hi => by
      rcases Nat.lt_or_ge j i with g2 | g2
      · obtain rfl : i = j + 1 := by omega
        omega
      · exact ht i g2)
    rw [wrap64 (n := (tot s j : Int) + (s[j].f1.length : Int)) (by omega), show ((tot s j : Int) + (s[j].f1.length : Int)) = ((tot s (j + 1) : Nat) : Int) by omega]
    exact this
theorem l05_Trees (k : Nat) {w : Int} {s : List S_l05_Op} {K : Bool → Prop} (ho : ∀ o ∈ s, LDig o.f1 ∧ Dig o.f2) (hk : 5000000 ≤ k) (h : K true) : F_l05_SmtTrees k w s K := by
  obtain ⟨k, rfl⟩ : ∃ m, k = m + 1 := ⟨k - 1, by omega⟩
  rw [F_l05_SmtTrees]
  simp only [Hold_eq]
  refine cond_dec (fun _ => h) (fun e => ?_)
  have h0 : ∀ i, i ≤ 0 → tot s i ≤ 200 := fun i hi => by
    have : i = 0 := by omega
    subst this
    exact Nat.zero_le _
  exact count_loop (by omega) ho h s.length 0 k (by omega) (by omega) h0
end Go.V
