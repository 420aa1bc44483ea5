/- leaves by rising paths -/
import Derived.Test.YtdpmcnhdmhanbaaGreatDoorVZ05K
set_option linter.unusedVariables false
set_option linter.unusedSimpArgs false
namespace Go.V
/-- the first bit that is not the same is a 0, and a 1 -/
def ltB (a b : List Int) : Prop := ∃ i, i < 256 ∧ (∀ j, j < i → bitN a j = bitN b j) ∧ bitN a i = 0 ∧ bitN b i = 1
def lessB (a b : List Int) : Bool := decide (commonL a b < 256) && decide (bitN a (commonL a b) = 0)
theorem ltB.trans {a b c : List Int} (h1 : ltB a b) (h2 : ltB b c) : ltB a c := by
  obtain ⟨i, hi, e1, e2, e3⟩ := h1
  obtain ⟨j, hj, g1, g2, g3⟩ := h2
  rcases Nat.lt_trichotomy i j with h | h | h
  · exact ⟨i, hi, fun t ht => (e1 t ht).trans (g1 t (by omega)), e2, by rw [← g1 i h]; exact e3⟩
  · subst h; rw [g2] at e3; cases e3
  · exact ⟨j, hj, fun t ht => (e1 t (by omega)).trans (g1 t ht), by rw [e1 j h]; exact g2, g3⟩
theorem ltB.asymm {a b : List Int} (h1 : ltB a b) (h2 : ltB b a) : False := by
  obtain ⟨i, hi, e1, e2, e3⟩ := h1.trans h2
  rw [e2] at e3; cases e3
theorem first_diff {a b : List Int} : ∀ m, (∀ i, i < m → bitN a i = bitN b i) ∨ ∃ i, i < m ∧ (∀ j, j < i → bitN a j = bitN b j) ∧ bitN a i ≠ bitN b i := by
  intro m
  induction m with
  | zero => exact .inl fun i hi => by omega
  | succ m ih =>
    rcases ih with h | ⟨i, hi, h1, h2⟩
    · by_cases e : bitN a m = bitN b m
      · refine .inl fun i hi => ?_
        rcases Nat.lt_succ_iff_lt_or_eq.1 hi with h3 | rfl
        · exact h i h3
        · exact e
      · exact .inr ⟨m, by omega, h, e⟩
    · exact .inr ⟨i, by omega, h1, h2⟩
theorem ltB.tri {a b : List Int} (ha : Dig a) (hb : Dig b) (hne : a ≠ b) : ltB a b ∨ ltB b a := by
  rcases first_diff (a := a) (b := b) 256 with h | ⟨i, hi, h1, h2⟩
  · exact absurd (bits_eq ha hb h) hne
  · have l1 := bitN_lt a i
    have l2 := bitN_lt b i
    by_cases h0 : bitN a i = 0
    · exact .inl ⟨i, hi, h1, h0, by omega⟩
    · exact .inr ⟨i, hi, fun j hj => (h1 j hj).symm, by omega, by omega⟩
theorem common_at {a b : List Int} {i : Nat} (hi : i < 256) (h1 : ∀ j, j < i → bitN a j = bitN b j) (h2 : bitN a i ≠ bitN b i) : commonL a b = i := by
  unfold commonL
  rw [comGo_skip i 256 0 (by omega) (fun t ht => by rw [Nat.zero_add]; exact h1 t ht), Nat.zero_add]
  exact comGo_stop h2
theorem lessB_eq {a b : List Int} (ha : Dig a) (hb : Dig b) : lessB a b = true ↔ ltB a b := by
  unfold lessB
  rw [Bool.and_eq_true, decide_eq_true_eq, decide_eq_true_eq]
  constructor
  · rintro ⟨h1, h2⟩
    rcases first_diff (a := a) (b := b) 256 with h | ⟨i, hi, g1, g2⟩
    · exfalso
      have := comGo_skip (a := a) (b := b) 256 256 0 (by omega) (fun t ht => by rw [Nat.zero_add]; exact h t ht)
      unfold commonL at h1
      rw [this] at h1
      have := (comGo_le a b (256 - 256) (0 + 256)).1
      omega
    · rw [common_at hi g1 g2] at h2
      have l2 := bitN_lt b i
      exact ⟨i, hi, g1, h2, by omega⟩
  · rintro ⟨i, hi, g1, g2, g3⟩
    rw [common_at hi g1 (by omega)]
    exact ⟨hi, g2⟩
/-- a leaf that is put in order -/
def insS (x : S_api_Leaf) : List S_api_Leaf → List S_api_Leaf
  | [] => [x]
  | y :: l => bif lessB x.f0 y.f0 then x :: y :: l else y :: insS x l
def sortS (l : List S_api_Leaf) : List S_api_Leaf := l.foldl (fun o x => insS x o) []
def Rise (l : List S_api_Leaf) : Prop := l.Pairwise fun x y => ltB x.f0 y.f0
theorem insS_perm (x : S_api_Leaf) : ∀ l, (insS x l).Perm (x :: l)
  | [] => .refl _
  | y :: l => by
    rw [insS]
    cases lessB x.f0 y.f0 with
    | true => exact .refl _
    | false => exact ((insS_perm x l).cons y).trans (.swap x y l)
theorem insS_rise {x : S_api_Leaf} (hx : Dig x.f0) : ∀ {l : List S_api_Leaf}, (∀ y ∈ l, Dig y.f0 ∧ y.f0 ≠ x.f0) → Rise l → Rise (insS x l)
  | [], _, _ => List.pairwise_singleton _ _
  | y :: l, hl, h => by
    unfold Rise at h ⊢
    rw [List.pairwise_cons] at h
    obtain ⟨hy, hyx⟩ := hl y (by simp)
    rw [insS]
    cases hb : lessB x.f0 y.f0 with
    | true =>
      have hxy := (lessB_eq hx hy).1 hb
      rw [cond_true, List.pairwise_cons, List.pairwise_cons]
      refine ⟨fun z hz => ?_, h⟩
      rcases List.mem_cons.1 hz with rfl | hz
      · exact hxy
      · exact hxy.trans (h.1 z hz)
    | false =>
      have hxy : ltB y.f0 x.f0 := (ltB.tri hy hx hyx).resolve_right fun g => by rw [(lessB_eq hx hy).2 g] at hb; cases hb
      rw [cond_false, List.pairwise_cons]
      refine ⟨fun z hz => ?_, insS_rise hx (fun z hz => hl z (by simp [hz])) h.2⟩
      rcases List.mem_cons.1 ((insS_perm x l).mem_iff.1 hz) with rfl | hz
      · exact hxy
      · exact h.1 z hz
theorem sort_fold : ∀ (l o : List S_api_Leaf), LDig (o ++ l) → Dst (o ++ l) → Rise o → Rise (l.foldl (fun o x => insS x o) o) ∧ (l.foldl (fun o x => insS x o) o).Perm (o ++ l) := by
  intro l
  induction l with
  | nil => intro o _ _ h; exact ⟨h, by rw [List.append_nil]; exact .refl _⟩
  | cons x l ih =>
    intro o hd ds h
    have p := insS_perm x o
    have p2 : (insS x o ++ l).Perm (o ++ x :: l) := (p.append_right l).trans (List.perm_middle.symm)
    have hx : Dig x.f0 := (hd x (by simp)).1
    obtain ⟨h1, h2⟩ := ih (insS x o) (fun y hy => hd y (p2.mem_iff.1 hy)) ((Dst.perm p2).2 ds) (insS_rise hx (fun y hy => ⟨(hd y (by simp [hy])).1, by
      unfold Dst at ds
      rw [List.pairwise_append] at ds
      exact ds.2.2 y hy x (by simp)⟩) h)
    exact ⟨h1, h2.trans p2⟩
theorem rise_eq : ∀ {l m : List S_api_Leaf}, Rise l → Rise m → l.Perm m → l = m
  | [], m, _, _, h => (List.nil_perm.1 h).symm
  | x :: l, [], _, _, h => absurd h.length_eq (by simp)
  | x :: l, y :: m, hl, hm, h => by
    unfold Rise at hl hm
    rw [List.pairwise_cons] at hl hm
    have e : x = y := by
      rcases List.mem_cons.1 (h.mem_iff.1 (List.mem_cons_self (a := x) (l := l))) with e | hx
      · exact e
      · rcases List.mem_cons.1 (h.mem_iff.2 (List.mem_cons_self (a := y) (l := m))) with e | hy
        · exact e.symm
        · exact ((hl.1 y hy).asymm (hm.1 x hx)).elim
    subst e
    rw [rise_eq hl.2 hm.2 ((List.perm_cons x).1 h)]
theorem leaves_rise (w : Int) : ∀ (m n : Nat) {q : List Int} {l : List S_api_Leaf}, m + n = 256 → OkL n q l → Rise (leavesT (bld w m n l)) := by
  intro m
  induction m with
  | zero =>
    intro n q l hn h
    obtain rfl : n = 256 := by omega
    match l, h.len with
    | [], _ => exact .nil
    | [x], _ => exact List.pairwise_singleton _ _
    | _ :: _ :: _, h => simp at h
  | succ m ih =>
    intro n q l hn h
    match l, h with
    | [], _ => exact .nil
    | [x], _ => exact List.pairwise_singleton _ _
    | x :: y :: l, h =>
      have hi := bld_inner w (m + 1) n hn h
      rw [bld_two _ _ _ (by simp)] at hi ⊢
      obtain ⟨q0, h0⟩ := h.half' 0
      obtain ⟨q1, h1⟩ := h.half' 1
      have hb : ((bld w m (n + 1) (halfL (x :: y :: l) n 0)).isNil && (bld w m (n + 1) (halfL (x :: y :: l) n 1)).isNil) = false := by
        change (!(bld w m (n + 1) (halfL (x :: y :: l) n 0)).isNil || !(bld w m (n + 1) (halfL (x :: y :: l) n 1)).isNil) = _ at hi
        rw [decide_eq_true (by simp : 2 ≤ (x :: y :: l).length), ← Bool.not_and] at hi
        rwa [Bool.not_eq_true'] at hi
      rw [leavesT, hb, cond_false]
      unfold Rise
      rw [List.pairwise_append]
      refine ⟨ih (n + 1) (by omega) h0, ih (n + 1) (by omega) h1, fun a ha b hb => ?_⟩
      have ha := (leaves_perm w m (n + 1) (by omega) h0).mem_iff.1 ha
      have hb := (leaves_perm w m (n + 1) (by omega) h1).mem_iff.1 hb
      obtain ⟨a1, a2⟩ := List.mem_filter.1 ha
      obtain ⟨b1, b2⟩ := List.mem_filter.1 hb
      refine ⟨n, by omega, fun j hj => by rw [h.agr a a1 j hj, h.agr b b1 j hj], of_decide_eq_true a2, of_decide_eq_true b2⟩
theorem sort_leaves (w : Int) {l : List S_api_Leaf} (hl : LDig l) (hd : Dst l) : leavesT (bld w 256 0 l) = sortS l := by
  obtain ⟨h1, h2⟩ := sort_fold l [] hl hd .nil
  exact rise_eq (leaves_rise w 256 0 rfl (.of hl hd [])) h1 ((leaves_perm w 256 0 rfl (.of hl hd [])).trans h2.symm)
theorem sortS_len {l : List S_api_Leaf} (hl : LDig l) (hd : Dst l) : (sortS l).length = l.length := (sort_fold l [] hl hd .nil).2.length_eq
end Go.V
