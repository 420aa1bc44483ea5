/- more laws without the document's answer; what is handed in -/
import Derived.Test.YtdpmcnhdmhanbaaDoorVT05P
set_option linter.unusedVariables false
set_option linter.unusedSimpArgs false
set_option maxRecDepth 8000
namespace Go.V
theorem own_s (k : Nat) {l : List S_api_Leaf} {K : List S_api_Leaf → Prop} (hn : l.length ≤ 100000) (hk : 1 ≤ k) (h : K l) : F_l05_own k l K := by
  obtain ⟨k, rfl⟩ : ∃ m, k = m + 1 := ⟨k - 1, by omega⟩
  rw [F_l05_own]
  exact ⟨by unfold room; omega, h⟩
-- another order
theorem swap_perm {l : List S_api_Leaf} {x y : Nat} (hx : x < l.length) (hy : y < l.length) : ((l.set x l[y]).set y l[x]).Perm l := List.set_set_perm hx hy
theorem order_loop {w : Int} {l : List S_api_Leaf} {s : List Int} {K : Bool → Prop} (hl : LDig l) (hs : s.length ≤ 400) (h : K true) : ∀ (m j k : Nat) {o : List S_api_Leaf}, s.length ≤ j + m → j ≤ 402 → 2 * m + 10100 ≤ k → o.Perm l →
    C_l05_SmtOrder_5 k w l s (j : Int) o K := by
  intro m
  induction m using Nat.strongRecOn with
  | _ m ih =>
  intro j k o hj hj2 hk ho
  obtain ⟨k, rfl⟩ : ∃ m, k = m + 1 := ⟨k - 1, by omega⟩
  rw [C_l05_SmtOrder_5]
  simp only [Hold_eq]
  rw [step64 j (by omega)]
  refine cond_dec (fun e => ?_) (fun e => ?_)
  · have next : ∀ o : List S_api_Leaf, o.Perm l → C_l05_SmtOrder_6 k w l s (j : Int) o K := by
      intro o ho
      obtain ⟨k, rfl⟩ : ∃ m, k = m + 1 := ⟨k - 1, by omega⟩
      rw [C_l05_SmtOrder_6]
      simp only [Hold_eq]
      rw [show (j : Int) + 2 = ((j + 2 : Nat) : Int) by omega, wrap64 (by omega)]
      exact ih (m - 2) (by omega) (j + 2) k (by omega) (by omega) (by omega) ho
    refine ⟨⟨by omega, by omega⟩, ⟨by omega, by omega⟩, ?_⟩
    refine cond_dec (fun e1 => ?_) (fun _ => next o ho)
    refine cond_dec (fun e2 => ?_) (fun _ => next o ho)
    refine cond_dec (fun e3 => ?_) (fun _ => next o ho)
    refine cond_dec (fun e4 => ?_) (fun _ => next o ho)
    obtain ⟨x, hx⟩ := Int.eq_ofNat_of_zero_le e1
    obtain ⟨y, hy⟩ := Int.eq_ofNat_of_zero_le e2
    rw [hx] at e3
    rw [hy] at e4
    rw [hx, hy]
    have hol := ho.length_eq
    have hxo : x < o.length := by omega
    have hyo : y < o.length := by omega
    rw [Int.toNat_natCast, Int.toNat_natCast, List.length_set, getD_at hxo, getD_at hyo]
    refine ⟨⟨by omega, by omega⟩, ⟨by omega, by omega⟩, ⟨by omega, by omega⟩, ⟨by omega, by omega⟩, next _ ?_⟩
    exact (swap_perm hxo hyo).trans ho
  · refine Root_s k hl (by omega) (Root_s k (fun x hx => hl x (ho.mem_iff.1 hx)) (by omega) (roots_s k (by omega) ?_))
    rw [cond_true, rootE_perm ho, rootR_perm ho]
    refine cond_dec (fun _ => ?_) (fun e => absurd rfl e)
    rw [decide_eq_true rfl]
    exact h
theorem l05_Order (k : Nat) {w : Int} {l : List S_api_Leaf} {s : List Int} {K : Bool → Prop} (hl : LDig l) (hk : 11000 ≤ k) (h : K true) : F_l05_SmtOrder k w l s K := by
  obtain ⟨k, rfl⟩ : ∃ m, k = m + 1 := ⟨k - 1, by omega⟩
  rw [F_l05_SmtOrder]
  simp only [Hold_eq]
  refine cond_dec (fun _ => h) (fun e1 => cond_dec (fun _ => h) (fun e2 => ?_))
  exact own_s k (by omega) (by omega) (order_loop hl (by omega) h s.length 0 k (by omega) (by omega) (by omega) (.refl _))
-- leaves that come and go
theorem cut_one {l : List S_api_Leaf} {j : Nat} (hj : j < l.length) : cut l (Int.toNat (j : Int)) (Int.toNat (((j + 1 : Nat) : Int) - (j : Int))) = [l[j]] := by
  rw [Int.toNat_natCast, show Int.toNat (((j + 1 : Nat) : Int) - (j : Int)) = 1 by omega]
  unfold cut
  rw [drop_cons hj]
  rfl
theorem set_one {b : List S_api_Leaf} (hb : Dst b) (hn : b.length < 4096) (x : S_api_Leaf) : setE b [x] = 0 ∧ setN b [x] = insL b x := by
  have h := ins_len hb x
  have : setE b [x] = 0 := by
    unfold setE
    rw [if_neg (by simp), if_neg (not_not_intro (show Dst [x] from List.pairwise_singleton _ _)), if_neg]
    show ¬ 4096 < (insL b x).length
    split at h <;> omega
  exact ⟨this, by unfold setN; rw [if_pos this]; rfl⟩
def remS (l : List S_api_Leaf) (g : List (List Int)) : List S_api_Leaf := g.foldl remL l
theorem grows_end {w : Int} {b : List S_api_Leaf} {K : Bool → Prop} (hw : 0 ≤ w ∧ w ≤ 32) (hb : LDig b) (db : Dst b) (hn : b.length ≤ 4096) (h : K true) (k : Nat) (hk : 10100 ≤ k) :
    F_smt_Tree_Leaves_s1 k w b.length (bld w 256 0 b) (fun r34 r35 r36 r37 => F_smt_Root k w r37 (fun r38 r39 => F_l05_grows k (fun r40 => cond r40 (F_l05_roots k (fun r41 => cond r41 (cond (decide (r39 = (0 : Int))) (F_smt_Tree_Root_s1 k r34 r35 r36 (fun r42 r43 r44 r45 => cond (decide (r42 = r38)) (F_smt_Tree_Len k r43 r44 r45 (fun r46 r47 r48 r49 => K (decide (r46 = ((List.length r37 : Nat) : Int))))) (K false))) (K false)) (K false))) (K false)))) := by
  have hp := leaves_perm w 256 0 rfl (.of hb db [])
  have hd : Dst (leavesT (bld w 256 0 b)) := (Dst.perm hp).2 db
  refine Leaves_s k hb db (by omega) (by omega) (Root_s k (fun x hx => hb x (hp.mem_iff.1 hx)) (by omega) (grows_s k (by omega) ?_))
  rw [cond_true]
  refine roots_s k (by omega) ?_
  have e : rootE w b = 0 := by unfold rootE; rw [if_neg (not_not_intro hw), if_neg (by omega), if_neg (not_not_intro db)]
  have r : rootR w b = rootL w b := by unfold rootR; rw [if_pos e]
  rw [cond_true, rootE_perm hp, rootR_perm hp, e, r]
  refine cond_dec (fun _ => ?_) (fun e => absurd rfl e)
  refine Root1_s k hw hb (by omega) (cond_dec (fun _ => ?_) (fun e => absurd rfl e))
  refine Len_s k (by omega) ?_
  rw [hp.length_eq, decide_eq_true rfl]
  exact h
theorem drops_loop {w : Int} {g : List (List Int)} {K : Bool → Prop} (hw : 0 ≤ w ∧ w ≤ 32) (hg : ∀ p ∈ g, Dig p) (hgn : g.length ≤ 200) (h : K true) : ∀ (m j k : Nat) {b : List S_api_Leaf}, j + m = g.length → m + 10110 ≤ k → LDig b → Dst b → b.length ≤ 4096 →
    C_l05_SmtGrows_12 k w g (j : Int) w b.length (bld w 256 0 b) K := by
  intro m
  induction m with
  | zero =>
    intro j k b hj hk hb db hn
    obtain ⟨k, rfl⟩ : ∃ m, k = m + 1 := ⟨k - 1, by omega⟩
    rw [C_l05_SmtGrows_12]
    simp only [Hold_eq]
    refine cond_dec (fun e => by omega) (fun e => ?_)
    exact grows_end hw hb db hn h k (by omega)
  | succ m ih =>
    intro j k b hj hk hb db hn
    obtain ⟨k, rfl⟩ : ∃ m, k = m + 1 := ⟨k - 1, by omega⟩
    have hjl : j < g.length := by omega
    rw [C_l05_SmtGrows_12]
    simp only [Hold_eq]
    refine cond_dec (fun e => ?_) (fun e => by omega)
    rw [Int.toNat_natCast, getD_at hjl, step64 j (by omega)]
    refine ⟨⟨by omega, by omega⟩, Drop_s k hb db (hg _ (List.getElem_mem hjl)) hn (by omega) ?_⟩
    have := (rem_len (p := g[j]) db).2
    exact ih (j + 1) k (by omega) (by omega) (hb.rem _) (db.rem _) (by omega)
theorem sets_loop {w : Int} {l : List S_api_Leaf} {g : List (List Int)} {K : Bool → Prop} (hw : 0 ≤ w ∧ w ≤ 32) (hl : LDig l) (hln : l.length ≤ 200) (hg : ∀ p ∈ g, Dig p) (hgn : g.length ≤ 200) (h : K true) : ∀ (m j k : Nat) {b : List S_api_Leaf}, j + m = l.length → m + 10400 ≤ k → LDig b → Dst b → b.length ≤ j →
    C_l05_SmtGrows_7 k w l g (j : Int) w b.length (bld w 256 0 b) K := by
  intro m
  induction m with
  | zero =>
    intro j k b hj hk hb db hn
    obtain ⟨k, rfl⟩ : ∃ m, k = m + 1 := ⟨k - 1, by omega⟩
    rw [C_l05_SmtGrows_7]
    simp only [Hold_eq]
    refine cond_dec (fun e => by omega) (fun e => ?_)
    exact drops_loop hw hg hgn h g.length 0 k (by omega) (by omega) hb db (by omega)
  | succ m ih =>
    intro j k b hj hk hb db hn
    obtain ⟨k, rfl⟩ : ∃ m, k = m + 1 := ⟨k - 1, by omega⟩
    have hjl : j < l.length := by omega
    rw [C_l05_SmtGrows_7]
    simp only [Hold_eq]
    refine cond_dec (fun e => ?_) (fun e => by omega)
    rw [step64 j (by omega), cut_one hjl]
    have hx := hl _ (List.getElem_mem hjl)
    obtain ⟨s1, s2⟩ := set_one db (by omega) l[j]
    refine ⟨⟨by omega, by omega, by omega⟩, Set_sA k hb db (LDig.cons hx LDig.nil) (by omega) (by omega) ?_⟩
    rw [s1, s2]
    refine cond_ndec (fun e => absurd rfl e) (fun _ => ?_)
    have := ins_len db l[j]
    refine ih (j + 1) k (by omega) (by omega) (hb.ins hx) (db.ins _) ?_
    split at this <;> omega
theorem l05_Grows (k : Nat) {w : Int} {l : List S_api_Leaf} {g : List (List Int)} {K : Bool → Prop} (hl : LDig l) (hg : ∀ p ∈ g, Dig p) (hk : 11000 ≤ k) (h : K true) : F_l05_SmtGrows k w l g K := by
  obtain ⟨k, rfl⟩ : ∃ m, k = m + 1 := ⟨k - 1, by omega⟩
  rw [F_l05_SmtGrows]
  simp only [Hold_eq]
  refine cond_dec (fun _ => h) (fun e1 => cond_dec (fun _ => h) (fun e2 => ?_))
  refine New_s k (by omega) (fun _ => both_s k (by omega) h) (fun hw => ?_)
  refine cond_ndec (fun _ => both_s k (by omega) h) (fun _ => ?_)
  exact sets_loop hw hl (by omega) hg (by omega) h l.length 0 k (by omega) (by omega) (b := []) LDig.nil Dst.nil (by simp)
-- leaves at once
theorem Same_loop {l : List S_api_Leaf} (hn : l.length ≤ 4096) {K : Bool → Prop} (h : K true) : ∀ (m j k : Nat), j + m = l.length → m + 1 ≤ k → C_r05_Same_4 k l l (j : Int) K := by
  intro m
  induction m with
  | zero =>
    intro j k hj hk
    obtain ⟨k, rfl⟩ : ∃ m, k = m + 1 := ⟨k - 1, by omega⟩
    rw [C_r05_Same_4]
    simp only [Hold_eq]
    exact cond_dec (fun e => by omega) (fun e => h)
  | succ m ih =>
    intro j k hj hk
    obtain ⟨k, rfl⟩ : ∃ m, k = m + 1 := ⟨k - 1, by omega⟩
    rw [C_r05_Same_4]
    simp only [Hold_eq]
    refine cond_dec (fun e => ?_) (fun e => by omega)
    rw [step64 j (by omega)]
    refine ⟨⟨by omega, by omega⟩, ⟨by omega, by omega⟩, ?_⟩
    simp only [decide_true, Bool.and_true, Bool.not_true, cond_false]
    exact ih (j + 1) k (by omega) (by omega)
theorem same_s (k : Nat) {l : List S_api_Leaf} (hn : l.length ≤ 4096) {K : Bool → Prop} (hk : 4100 ≤ k) (h : K true) : F_l05_same k l l K := by
  obtain ⟨k, rfl⟩ : ∃ m, k = m + 2 := ⟨k - 2, by omega⟩
  rw [F_l05_same]
  simp only [Hold_eq]
  rw [F_r05_Same]
  simp only [Hold_eq]
  simp only [decide_true, Bool.not_true, cond_false]
  exact Same_loop hn h l.length 0 k (by omega) (by omega)
theorem Twice_in {l : List S_api_Leaf} (hn : l.length ≤ 4096) {j : Nat} (hj : j < l.length) {K : Bool → Prop} {N : Nat} (h1 : ¬ Dst l → K true) (h0 : (∀ i, i < j → ¬ l[j].f0 = (l.getD i zlf).f0) → ∀ k, N ≤ k → C_r05_Twice_2 k l ((j + 1 : Nat) : Int) K) :
    ∀ (m i k : Nat), i + m = j → N + m + 2 ≤ k → (∀ t, t < i → ¬ l[j].f0 = (l.getD t zlf).f0) → C_r05_Twice_5 k l (j : Int) (i : Int) K := by
  intro m
  induction m with
  | zero =>
    intro i k hi hk hh
    obtain ⟨k, rfl⟩ : ∃ m, k = m + 1 := ⟨k - 1, by omega⟩
    rw [C_r05_Twice_5]
    simp only [Hold_eq]
    refine cond_dec (fun e => by omega) (fun e => ?_)
    rw [step64 j (by omega)]
    obtain rfl : i = j := by omega
    exact h0 hh k (by omega)
  | succ m ih =>
    intro i k hi hk hh
    obtain ⟨k, rfl⟩ : ∃ m, k = m + 1 := ⟨k - 1, by omega⟩
    have hil : i < l.length := by omega
    rw [C_r05_Twice_5]
    simp only [Hold_eq]
    refine cond_dec (fun e => ?_) (fun e => by omega)
    rw [step64 i (by omega), Int.toNat_natCast, Int.toNat_natCast, getD_at hj, getD_at hil]
    refine ⟨⟨by omega, by omega⟩, ⟨by omega, by omega⟩, cond_dec (fun g => h1 fun hd => ?_) (fun g => ?_)⟩
    · exact List.pairwise_iff_getElem.1 hd i j hil hj (by omega) g.symm
    · refine ih (i + 1) k (by omega) (by omega) fun t ht => ?_
      by_cases h : t = i
      · subst h; rw [getD_at hil]; exact g
      · exact hh t (by omega)
theorem Twice_loop {l : List S_api_Leaf} (hn : l.length ≤ 4096) {K : Bool → Prop} (h : K (decide (¬ Dst l))) : ∀ (m j k : Nat), j + m = l.length → 5000 * m + 1 ≤ k → Dst (l.take j) → C_r05_Twice_2 k l (j : Int) K := by
  intro m
  induction m with
  | zero =>
    intro j k hj hk hd
    obtain ⟨k, rfl⟩ : ∃ m, k = m + 1 := ⟨k - 1, by omega⟩
    rw [C_r05_Twice_2]
    simp only [Hold_eq]
    rw [List.take_of_length_le (by omega)] at hd
    rw [decide_eq_false (not_not_intro hd)] at h
    exact cond_dec (fun e => by omega) (fun e => h)
  | succ m ih =>
    intro j k hj hk hd
    obtain ⟨k, rfl⟩ : ∃ m, k = m + 1 := ⟨k - 1, by omega⟩
    have hjl : j < l.length := by omega
    rw [C_r05_Twice_2]
    simp only [Hold_eq]
    refine cond_dec (fun e => ?_) (fun e => by omega)
    refine Twice_in hn hjl (N := 5000 * m + 1) (fun g => ?_) (fun g k hk => ?_) j 0 k (by omega) (by omega) (fun t ht => by omega)
    · rw [decide_eq_true g] at h; exact h
    · refine ih (j + 1) k (by omega) hk ?_
      rw [List.take_succ_eq_append_getElem hjl]
      unfold Dst at hd ⊢
      rw [List.pairwise_append]
      refine ⟨hd, List.pairwise_singleton _ _, fun a ha b hb => ?_⟩
      obtain rfl := List.mem_singleton.1 hb
      obtain ⟨i, hi, rfl⟩ := List.mem_take_iff_getElem.1 ha
      exact fun e => g i (by omega) (by rw [getD_at (by omega)]; exact e.symm)
theorem Twice_s (k : Nat) {l : List S_api_Leaf} (hn : l.length ≤ 4096) {K : Bool → Prop} (hk : 5000 * l.length + 10 ≤ k) (h : K (decide (¬ Dst l))) : F_r05_Twice k l K := by
  obtain ⟨k, rfl⟩ : ∃ m, k = m + 1 := ⟨k - 1, by omega⟩
  rw [F_r05_Twice]
  simp only [Hold_eq]
  exact Twice_loop hn h l.length 0 k (by omega) (by omega) (by simp [Dst])
theorem batch_end {w : Int} {b : List S_api_Leaf} {K : Bool → Prop} (hw : 0 ≤ w ∧ w ≤ 32) (hb : LDig b) (db : Dst b) (hn : b.length ≤ 4096) (h : K true) (k : Nat) (hk : 10100 ≤ k) :
    (F_l05_grows k (fun r97 => (cond r97 ((F_l05_roots k (fun r98 => (cond r98 ((F_smt_Tree_Root_s1 k w b.length (bld w 256 0 b) (fun r99 r100 r101 r102 => (F_smt_Tree_Root_s1 k w b.length (bld w 256 0 b) (fun r103 r104 r105 r106 => (cond (decide (r99 = r103)) ((F_smt_Tree_Len k r100 r101 r102 (fun r107 r108 r109 r110 => (F_smt_Tree_Len k r104 r105 r106 (fun r111 r112 r113 r114 => (cond (decide (r107 = r111)) ((F_smt_Tree_Leaves_s1 k r108 r109 r110 (fun r115 r116 r117 r118 => (F_smt_Tree_Leaves_s1 k r112 r113 r114 (fun r119 r120 r121 r122 => (F_l05_same k r118 r122 (fun r123 => K r123))))))) (K false))))))) (K false))))))) (K false))))) (K false)))) := by
  refine grows_s k (by omega) ?_
  rw [cond_true]
  refine roots_s k (by omega) ?_
  rw [cond_true]
  refine Root1_s k hw hb (by omega) (Root1_s k hw hb (by omega) (cond_dec (fun _ => ?_) (fun e => absurd rfl e)))
  refine Len_s k (by omega) (Len_s k (by omega) (cond_dec (fun _ => ?_) (fun e => absurd rfl e)))
  refine Leaves_s k hb db (by omega) (by omega) (Leaves_s k hb db (by omega) (by omega) ?_)
  exact same_s k (by rw [(leaves_perm w 256 0 rfl (.of hb db [])).length_eq]; exact hn) (by omega) h
theorem batch_two {w : Int} {t l : List S_api_Leaf} {K : Bool → Prop} (hw : 0 ≤ w ∧ w ≤ 32) (ht : LDig t) (dt : Dst t) (htn : t.length ≤ 4096) (hl : LDig l) (hln : l.length ≤ 200) (h : K true) :
    ∀ (m j k : Nat) {b : List S_api_Leaf}, j + m = l.length → m + 10110 ≤ k → LDig b → Dst b → b.length ≤ 200 + j → setL b (l.drop j) = t →
    C_l05_SmtBatches_18 k l (j : Int) w t.length (bld w 256 0 t) w b.length (bld w 256 0 b) K := by
  intro m
  induction m with
  | zero =>
    intro j k b hj hk hb db hn e
    obtain ⟨k, rfl⟩ : ∃ m, k = m + 1 := ⟨k - 1, by omega⟩
    rw [List.drop_of_length_le (by omega)] at e
    obtain rfl : b = t := e
    rw [C_l05_SmtBatches_18]
    simp only [Hold_eq]
    refine cond_dec (fun e => by omega) (fun e => ?_)
    exact batch_end hw hb db htn h k (by omega)
  | succ m ih =>
    intro j k b hj hk hb db hn e
    obtain ⟨k, rfl⟩ : ∃ m, k = m + 1 := ⟨k - 1, by omega⟩
    have hjl : j < l.length := by omega
    rw [C_l05_SmtBatches_18]
    simp only [Hold_eq]
    refine cond_dec (fun e' => ?_) (fun e' => by omega)
    rw [step64 j (by omega), cut_one hjl]
    have hx := hl _ (List.getElem_mem hjl)
    obtain ⟨s1, s2⟩ := set_one db (by omega) l[j]
    refine ⟨⟨by omega, by omega, by omega⟩, Set_sA k hb db (LDig.cons hx LDig.nil) (by omega) (by omega) ?_⟩
    rw [s2]
    have := ins_len db l[j]
    rw [drop_cons hjl] at e
    refine ih (j + 1) k (by omega) (by omega) (hb.ins hx) (db.ins _) ?_ e
    split at this <;> omega
theorem batch_one {w : Int} {l x : List S_api_Leaf} {K : Bool → Prop} (hw : 0 ≤ w ∧ w ≤ 32) (hl : LDig l) (dl : Dst l) (hln : l.length ≤ 200) (hx : LDig x) (hxn : x.length ≤ 200) (h : K true) :
    ∀ (m j k : Nat) {b : List S_api_Leaf}, j + m = l.length → m + 2000000 ≤ k → LDig b → Dst b → b.length ≤ j → setL b (l.drop j) = l →
    C_l05_SmtBatches_8 k l x (j : Int) w l.length (bld w 256 0 l) w b.length (bld w 256 0 b) K := by
  intro m
  induction m with
  | zero =>
    intro j k b hj hk hb db hn e
    obtain ⟨k, rfl⟩ : ∃ m, k = m + 1 := ⟨k - 1, by omega⟩
    rw [List.drop_of_length_le (by omega)] at e
    obtain rfl : b = l := e
    rw [C_l05_SmtBatches_8]
    simp only [Hold_eq]
    refine cond_dec (fun e => by omega) (fun e => ?_)
    refine Root1_s k hw hb (by omega) (Set_sA k hb db hx (by omega) (by omega) (Twice_s k (by omega) (by omega) ?_))
    have hsn := set_len (l := x) db
    by_cases hd : Dst x
    · have e0 : setE b x = 0 := by rw [setE_end hd (by omega), if_neg (by omega)]
      have n0 : setN b x = setL b x := by unfold setN; rw [if_pos e0]
      rw [decide_eq_false (not_not_intro hd), e0, n0]
      show cond (!(decide ((0 : Int) = 30) == false)) _ _
      rw [show (!(decide ((0 : Int) = 30) == false)) = false by decide, cond_false]
      refine cond_ndec (fun e => absurd rfl e) (fun _ => ?_)
      exact batch_two hw (hb.set hx) db.set (by omega) hx hxn h x.length 0 k (by omega) (by omega) hb db (by omega) rfl
    · have e0 : setE b x = 30 := by unfold setE; rw [if_neg (by omega), if_pos hd]
      have n0 : setN b x = b := by unfold setN; rw [e0]; rfl
      rw [decide_eq_true hd, e0, n0]
      show cond (!(decide ((30 : Int) = 30) == true)) _ _
      rw [show (!(decide ((30 : Int) = 30) == true)) = false by decide, cond_false]
      refine cond_ndec (fun _ => cond_dec (fun _ => ?_) (fun e => absurd rfl e)) (fun e => absurd e (by decide))
      refine grows_s k (by omega) ?_
      rw [cond_true]
      refine roots_s k (by omega) ?_
      rw [cond_true]
      refine Root1_s k hw hb (by omega) (cond_dec (fun _ => ?_) (fun e => absurd rfl e))
      refine Len_s k (by omega) ?_
      rw [decide_eq_true rfl]
      exact h
  | succ m ih =>
    intro j k b hj hk hb db hn e
    obtain ⟨k, rfl⟩ : ∃ m, k = m + 1 := ⟨k - 1, by omega⟩
    have hjl : j < l.length := by omega
    rw [C_l05_SmtBatches_8]
    simp only [Hold_eq]
    refine cond_dec (fun e' => ?_) (fun e' => by omega)
    rw [step64 j (by omega), cut_one hjl]
    have hx := hl _ (List.getElem_mem hjl)
    obtain ⟨s1, s2⟩ := set_one db (by omega) l[j]
    refine ⟨⟨by omega, by omega, by omega⟩, Set_sA k hb db (LDig.cons hx LDig.nil) (by omega) (by omega) ?_⟩
    rw [s2]
    have := ins_len db l[j]
    rw [drop_cons hjl] at e
    refine ih (j + 1) k (by omega) (by omega) (hb.ins hx) (db.ins _) ?_ e
    split at this <;> omega
theorem l05_Batches (k : Nat) {w : Int} {l x : List S_api_Leaf} {K : Bool → Prop} (hl : LDig l) (hx : LDig x) (hk : 2001000 ≤ k) (h : K true) : F_l05_SmtBatches k w l x K := by
  obtain ⟨k, rfl⟩ : ∃ m, k = m + 2 := ⟨k - 2, by omega⟩
  rw [F_l05_SmtBatches]
  simp only [Hold_eq]
  have six : ∀ k, 10100 ≤ k → C_l05_SmtBatches_6 k K := by
    intro k hk
    obtain ⟨k, rfl⟩ : ∃ m, k = m + 1 := ⟨k - 1, by omega⟩
    rw [C_l05_SmtBatches_6]
    simp only [Hold_eq]
    exact both_s k (by omega) h
  refine cond_dec (fun _ => h) (fun e1 => cond_dec (fun _ => h) (fun e2 => ?_))
  refine New_s (k + 1) (by omega) (fun hw => ?_) (fun hw => ?_)
  · refine New_s (k + 1) (by omega) (fun _ => ?_) (fun hw' => absurd hw' hw)
    rw [C_l05_SmtBatches_5]
    simp only [Hold_eq]
    exact six k (by omega)
  refine New_s (k + 1) (by omega) (fun hw' => absurd hw hw') (fun _ => ?_)
  rw [C_l05_SmtBatches_5_3]
  simp only [Hold_eq, decide_true, Bool.not_true, cond_false]
  refine Set_sA k (b := []) LDig.nil Dst.nil hl (by decide) (by omega) ?_
  refine cond_ndec (fun e => six k (by omega)) (fun e => ?_)
  have hd : Dst l := by
    rw [setE_nil, if_neg (by omega)] at e
    exact Decidable.not_not.1 fun g => by rw [if_pos g] at e; cases e
  rw [setN_nil e]
  exact batch_one hw hl hd (by omega) hx (by omega) h l.length 0 k (by omega) (by omega) (b := []) LDig.nil Dst.nil (by simp) (setL_new l [] hd)
end Go.V
