/- directories: the program's check; commands; the law -/
import Derived.Test.YtnpdhpbhkdejoaaDoorVG19M
import Derived.Test.YtnpdhpbhkdejoaaDoorVG19E
import Derived.Test.YtnpdhpbhkdejoaaDoorVOpen
set_option linter.unusedVariables false
set_option linter.unusedSimpArgs false
set_option maxRecDepth 4000
namespace Go.V
section
variable {e : Int} {us : List S_api_User} {hs : List S_api_Head} {ss : List S_api_Session}
theorem sess_loop (hn : ss.length ≤ 100000) : ∀ (m j k : Nat) (ok : Bool) (last : Int) {K : Int → Prop}, j + m = ss.length → 4 * m + 20 ≤ k → K (cond (ok && sessGo e last (ss.drop j)) 0 70) →
    C_directory_Check_18 k ok last ss (ss.length : Int) (j : Int) e us hs ss K := by
  intro m
  induction m with
  | zero =>
    intro j k ok last K hj hk h
    obtain ⟨k, rfl⟩ : ∃ m, k = m + 1 := ⟨k - 1, by omega⟩
    rw [C_directory_Check_18]
    rw [List.drop_of_length_le (by omega), sessGo, Bool.and_true] at h
    refine cond_dec (fun h1 => by omega) (fun h1 => ?_)
    cases ok <;> exact h
  | succ m ih =>
    intro j k ok last K hj hk h
    obtain ⟨k, rfl⟩ : ∃ m, k = m + 3 := ⟨k - 3, by omega⟩
    rw [C_directory_Check_18]
    simp only [Hold_eq]
    have hj1 : j < ss.length := by omega
    refine cond_dec (fun h1 => ?_) (fun h1 => by omega)
    rw [Int.toNat_natCast, getD_at hj1]
    rw [drop_cons hj1, sessGo, ← Bool.and_assoc] at h
    have next : ∀ b : Bool, b = (ok && sessOk last e ss[j]) → C_directory_Check_21 (k + 2) b ss (ss.length : Int) (j : Int) e us hs ss ss[j].f0 ss[j].f1 ss[j].f2 ss[j].f3 K := by
      intro b hb
      rw [C_directory_Check_21]
      simp only [Hold_eq]
      rw [C_directory_Check_22]
      simp only [Hold_eq]
      rw [step64 j (by omega)]
      exact ih (j + 1) k b _ (by omega) (by omega) (by rw [hb]; exact h)
    refine ⟨by omega, cond_b (fun h2 => cond_dec (fun h3 => cond_dec (fun h4 => within_s (k + 2) (by omega) (cond_b (fun h5 => within_s (k + 2) (by omega) (cond_b (fun h6 => within_s (k + 2) (by omega) (next _ ?_)) (fun h6 => next _ ?_))) (fun h5 => next _ ?_))) (fun h4 => next _ ?_)) (fun h3 => next _ ?_)) (fun h2 => next _ ?_)⟩
    · unfold sessOk; rw [h2, h5, h6, decide_eq_true h3, decide_eq_true h4]; simp only [Bool.true_and]
    · unfold sessOk; rw [h6, Bool.false_and, Bool.and_false, Bool.and_false, Bool.and_false, Bool.and_false]
    · unfold sessOk; rw [h5, Bool.false_and, Bool.and_false, Bool.and_false, Bool.and_false]
    · unfold sessOk; rw [decide_eq_false h4, Bool.false_and, Bool.and_false, Bool.and_false]
    · unfold sessOk; rw [decide_eq_false h3, Bool.false_and, Bool.and_false]
    · rw [h2, Bool.false_and]
theorem heads_loop (hh : ∀ h ∈ hs, HeadOk h) (hn : hs.length ≤ 100000) (hns : ss.length ≤ 100000) : ∀ (m j k : Nat) (ok : Bool) {K : Int → Prop}, j + m = hs.length → 4 * m + 410000 ≤ k → K (cond (ok && (headsGo hs m j && sessGo e 0 ss)) 0 70) →
    C_directory_Check_12 k ok hs (hs.length : Int) (j : Int) e us hs ss K := by
  intro m
  induction m with
  | zero =>
    intro j k ok K hj hk h
    obtain ⟨k, rfl⟩ : ∃ m, k = m + 1 := ⟨k - 1, by omega⟩
    rw [C_directory_Check_12]
    simp only [Hold_eq]
    rw [headsGo, Bool.true_and] at h
    exact cond_dec (fun h1 => by omega) (fun h1 => sess_loop hns ss.length 0 k ok 0 (by omega) (by omega) h)
  | succ m ih =>
    intro j k ok K hj hk h
    obtain ⟨k, rfl⟩ : ∃ m, k = m + 2 := ⟨k - 2, by omega⟩
    rw [C_directory_Check_12]
    simp only [Hold_eq]
    have hj1 : j < hs.length := by omega
    refine cond_dec (fun h1 => ?_) (fun h1 => by omega)
    rw [Int.toNat_natCast, getD_at hj1, step64 j (by omega)]
    rw [headsGo, getD_at hj1, Bool.and_assoc, ← Bool.and_assoc] at h
    have next : ∀ b : Bool, b = (ok && (decide (hs[j].f0 = ((j + 1 : Nat) : Int)) && decide (hs[j].f2 = prevL hs j))) → C_directory_Check_15 (k + 1) b hs (hs.length : Int) (j : Int) e us hs ss K := by
      intro b hb
      rw [C_directory_Check_15]
      simp only [Hold_eq]
      rw [step64 j (by omega)]
      exact ih (j + 1) k b (by omega) (by omega) (by rw [hb]; exact h)
    refine ⟨by omega, cond_b (fun h2 => cond_dec (fun h3 => ⟨by omega, prev_s (k + 1) hh (by omega) hn (by omega) (next _ ?_)⟩) (fun h3 => next _ ?_)) (fun h2 => next _ ?_)⟩
    · rw [h2, decide_eq_true h3, Bool.true_and, Bool.true_and]
    · rw [decide_eq_false h3, Bool.false_and, Bool.and_false]
    · rw [h2, Bool.false_and]
theorem users_loop2 (he : 0 ≤ e ∧ e ≤ 200) (hv : ∀ u ∈ us, u.f1.length ≤ 100000) (hu : us.length ≤ 64) (hh : ∀ h ∈ hs, HeadOk h) (hn : hs.length ≤ 100000) (hns : ss.length ≤ 100000) : ∀ (m j k : Nat) (ok : Bool) (was : ByteArray) {K : Int → Prop}, j + m = us.length → 4 * m + 820000 ≤ k →
    K (cond (ok && (usersGo e was (us.drop j) && (headsB hs && sessGo e 0 ss))) 0 70) →
    C_directory_Check_6 k ok was us (us.length : Int) (j : Int) e us hs ss K := by
  intro m
  induction m with
  | zero =>
    intro j k ok was K hj hk h
    obtain ⟨k, rfl⟩ : ∃ m, k = m + 1 := ⟨k - 1, by omega⟩
    rw [C_directory_Check_6]
    simp only [Hold_eq]
    rw [List.drop_of_length_le (by omega), usersGo, Bool.true_and] at h
    exact cond_dec (fun h1 => by omega) (fun h1 => heads_loop hh hn hns hs.length 0 k ok (by omega) (by omega) h)
  | succ m ih =>
    intro j k ok was K hj hk h
    obtain ⟨k, rfl⟩ : ∃ m, k = m + 3 := ⟨k - 3, by omega⟩
    rw [C_directory_Check_6]
    simp only [Hold_eq]
    have hj1 : j < us.length := by omega
    refine cond_dec (fun h1 => ?_) (fun h1 => by omega)
    have hv1 := hv _ (List.getElem_mem hj1)
    rw [Int.toNat_natCast, getD_at hj1, slt_tri]
    rw [drop_cons hj1, usersGo, Bool.and_assoc, ← Bool.and_assoc] at h
    have next : ∀ b : Bool, b = (ok && userOk was e us[j]) → C_directory_Check_9 (k + 2) b us (us.length : Int) (j : Int) e us hs ss us[j].f0 us[j].f1 K := by
      intro b hb
      rw [C_directory_Check_9]
      simp only [Hold_eq]
      rw [C_directory_Check_10]
      simp only [Hold_eq]
      rw [step64 j (by omega)]
      exact ih (j + 1) k b _ (by omega) (by omega) (by rw [hb]; exact h)
    refine ⟨by omega, cond_b (fun h2 => cond_b (fun h3 => name_s (k + 2) (by omega) (cond_b (fun h4 => cond_dec (fun h5 => version_Check_s (k + 2) (by omega) ?_) (fun h5 => next _ ?_)) (fun h4 => next _ ?_))) (fun h3 => next _ ?_)) (fun h2 => next _ ?_)⟩
    · have h0 : 0 < us[j].f1.length := by omega
      cases h6 : versB us[j].f1
      · rw [cond_false]
        exact next false (by unfold userOk; rw [h6, Bool.false_and, Bool.and_false, Bool.and_false, Bool.and_false, Bool.and_false])
      · rw [cond_true]
        have e2 : IntKind.i64.wrap ((us[j].f1.length : Int) - 1) = ((us[j].f1.length - 1 : Nat) : Int) := by rw [wrap64 (by omega)]; omega
        have e3 : IntKind.i64.wrap (e + 1) = e + 1 := wrap64 (by omega)
        rw [e2, e3, Int.toNat_natCast]
        show (0 ≤ ((us[j].f1.length - 1 : Nat) : Int) ∧ ((us[j].f1.length - 1 : Nat) : Int) < (us[j].f1.length : Int)) ∧ _
        refine ⟨by omega, next _ ?_⟩
        unfold userOk
        rw [h2, h3, h4, h6, decide_eq_true h0, wasE_end h0]
        simp only [Bool.true_and]
    · unfold userOk; rw [decide_eq_false (by omega : ¬ 0 < us[j].f1.length), Bool.false_and, Bool.and_false, Bool.and_false, Bool.and_false]
    · unfold userOk; rw [h4, Bool.false_and, Bool.and_false, Bool.and_false]
    · unfold userOk; rw [h3, Bool.false_and, Bool.and_false]
    · rw [h2, Bool.false_and]
theorem Check_s (k : Nat) {K : Int → Prop} (hv : ∀ u ∈ us, u.f1.length ≤ 100000) (hh : ∀ h ∈ hs, HeadOk h) (hn : hs.length ≤ 100000) (hns : ss.length ≤ 100000) (hk : 900000 ≤ k) (h : K (cond (dirB e us hs ss) 0 70)) : F_directory_Check k e us hs ss K := by
  obtain ⟨k, rfl⟩ : ∃ m, k = m + 2 := ⟨k - 2, by omega⟩
  rw [F_directory_Check]
  simp only [Hold_eq]
  unfold dirB at h
  have e4 : decide (((List.length ss : Nat) : Int) ≤ (4 : Int)) = decide (ss.length ≤ 4) := decide_eq_decide.2 (by omega)
  refine within_s (k + 1) (by omega) (cond_b (fun h1 => cond_dec (fun h2 => cond_dec (fun h3 => ?_) (fun h3 => ?_)) (fun h2 => ?_)) (fun h1 => ?_)) <;> rw [C_directory_Check_2] <;> simp only [Hold_eq]
  · rw [h1, decide_eq_true (by omega : us.length ≤ 64), decide_eq_true h3, Bool.true_and, Bool.true_and, Bool.true_and, ← e4] at h
    rw [Bool.and_eq_true] at h1
    have he : 0 ≤ e ∧ e ≤ 200 := ⟨of_decide_eq_true h1.1, of_decide_eq_true h1.2⟩
    cases h5 : decide (((List.length ss : Nat) : Int) ≤ (4 : Int))
    · rw [h5] at h; exact h
    · rw [h5, Bool.true_and] at h
      exact users_loop2 he hv (by omega) hh hn hns us.length 0 k true str0 (by omega) (by omega) (by rw [Bool.true_and]; exact h)
  · rw [decide_eq_false h3, Bool.false_and, Bool.and_false, Bool.and_false] at h; exact h
  · rw [decide_eq_false (by omega : ¬ us.length ≤ 64), Bool.false_and, Bool.and_false] at h; exact h
  · rw [h1, Bool.false_and] at h; exact h
end
section
variable {e : Int} {us : List S_api_User} {hs : List S_api_Head} {ss : List S_api_Session}
structure Small (us : List S_api_User) (hs : List S_api_Head) (ss : List S_api_Session) : Prop where
  u : us.length ≤ 5000
  h : hs.length ≤ 5000
  s : ss.length ≤ 5000
  v : ∀ x ∈ us, x.f1.length ≤ 5000
theorem big_loop (hu : us.length ≤ 5000) : ∀ (m j n k : Nat) {K : Bool → Prop}, j + m = us.length → m + 5 ≤ k → n ≤ 10001 → (∀ i (hi : i < us.length), i < j → min us[i].f1.length 5001 ≤ n) →
    (∀ b, (b = false → ∀ x ∈ us, x.f1.length ≤ 5000) → K b) → C_r08_BigDirectory_5 k (n : Int) (j : Int) e us hs ss K := by
  intro m
  induction m with
  | zero =>
    intro j n k K hj hk hn hi h
    obtain ⟨k, rfl⟩ : ∃ m, k = m + 1 := ⟨k - 1, by omega⟩
    rw [C_r08_BigDirectory_5]
    refine cond_dec (fun h1 => by omega) (fun h1 => h _ fun hb x hx => ?_)
    obtain ⟨i, hil, rfl⟩ := List.getElem_of_mem hx
    have := hi i hil (by omega)
    have := of_decide_eq_false hb
    omega
  | succ m ih =>
    intro j n k K hj hk hn hi h
    obtain ⟨k, rfl⟩ : ∃ m, k = m + 1 := ⟨k - 1, by omega⟩
    rw [C_r08_BigDirectory_5]
    simp only [Hold_eq]
    have hj1 : j < us.length := by omega
    rw [Int.toNat_natCast, getD_at hj1, step64 j (by omega)]
    refine cond_dec (fun h1 => cond_dec (fun h2 => ⟨by omega, ?_⟩) (fun h2 => h _ fun hb => ?_)) (fun h1 => by omega)
    · have em : minI ((us[j].f1.length : Nat) : Int) 5001 = ((min us[j].f1.length 5001 : Nat) : Int) := by
        unfold minI
        by_cases g : (5001 : Int) < (us[j].f1.length : Int)
        · rw [decide_eq_true g, cond_true]; omega
        · rw [decide_eq_false g, cond_false]; omega
      have ew : IntKind.i64.wrap ((n : Int) + ((min us[j].f1.length 5001 : Nat) : Int)) = ((n + min us[j].f1.length 5001 : Nat) : Int) := by rw [wrap64 (by omega)]; rfl
      rw [em, ew]
      refine ih (j + 1) _ k (by omega) (by omega) (by omega) (fun i hil hij => ?_) h
      by_cases g : i < j
      · have := hi i hil g; omega
      · have : i = j := by omega
        subst this
        omega
    · exact absurd (of_decide_eq_false hb) (by omega)
end
section
variable {e : Int} {us : List S_api_User} {hs : List S_api_Head} {ss : List S_api_Session}
theorem large_s (k : Nat) {key : ByteArray} {l m : List S_api_Signed} {K : Bool → Prop} (hk : 5100 ≤ k) (h : ∀ b, (b = false → Small us hs ss ∧ l.length ≤ 300 ∧ m.length ≤ 300) → K b) : F_l19_large k key e us hs ss l m K := by
  obtain ⟨k, rfl⟩ : ∃ m, k = m + 2 := ⟨k - 2, by omega⟩
  rw [F_l19_large]
  simp only [Hold_eq]
  rw [F_r08_BigDirectory]
  simp only [Hold_eq]
  have tr : cond true (K true) (cond (decide ((65536 : Int) < ((ByteArray.size key : Nat) : Int))) (K true) (cond (decide ((300 : Int) < ((List.length l : Nat) : Int))) (K true) (K (decide ((300 : Int) < ((List.length m : Nat) : Int)))))) := h true fun e => by cases e
  refine cond_dec (fun h1 => tr) (fun h1 => cond_dec (fun h2 => tr) (fun h2 => cond_dec (fun h3 => tr) (fun h3 => ?_)))
  refine big_loop (by omega) us.length 0 0 k (by omega) (by omega) (by omega) (fun i hi hij => by omega) fun b hb => ?_
  cases b with
  | true => exact tr
  | false =>
    have sm : Small us hs ss := ⟨by omega, by omega, by omega, hb rfl⟩
    exact cond_dec (fun _ => h _ fun e => by cases e) (fun _ => cond_dec (fun _ => h _ fun e => by cases e) (fun h4 => h _ fun e => ⟨sm, by omega, by have := of_decide_eq_false e; omega⟩))
end
-- the keyed sum
def k64 (key : List Int) : List Int := key ++ List.replicate (64 - key.length) 0
def xorL (p : Int) (l : List Int) : List Int := l.map fun x => ixor .u8 x p
def macL (key b : List Int) : List Int := shaL (xorL 92 (k64 key) ++ shaL (xorL 54 (k64 key) ++ b))
theorem k64_len {key : List Int} (h : key.length ≤ 64) : (k64 key).length = 64 := by unfold k64; rw [List.length_append, List.length_replicate]; omega
theorem xorL_B8 (p : Int) (l : List Int) : B8 (xorL p l) := by
  intro x hx
  unfold xorL at hx
  obtain ⟨y, -, rfl⟩ := List.mem_map.1 hx
  exact wrap8_B _
theorem xorL_len (p : Int) (l : List Int) : (xorL p l).length = l.length := List.length_map _
theorem turned_loop {l : List Int} {p : Int} (hl : l.length = 64) : ∀ (m j k : Nat) (acc : List Int) {K : Nat → Nat → Int → List Int → Prop}, j + m = 64 → m + 5 ≤ k → acc = xorL p (l.take j) ++ l.drop j → K 0 64 p (xorL p l) → C_mac_turned_byte_2 k l (j : Int) p acc K := by
  intro m
  induction m with
  | zero =>
    intro j k acc K hj hk ha h
    obtain ⟨k, rfl⟩ : ∃ m, k = m + 1 := ⟨k - 1, by omega⟩
    rw [C_mac_turned_byte_2]
    refine cond_dec (fun h1 => by omega) (fun h1 => ⟨by decide, ?_⟩)
    rw [List.take_of_length_le (by omega), List.drop_of_length_le (by omega), List.append_nil] at ha
    rw [ha]; exact h
  | succ m ih =>
    intro j k acc K hj hk ha h
    obtain ⟨k, rfl⟩ : ∃ m, k = m + 2 := ⟨k - 2, by omega⟩
    rw [C_mac_turned_byte_2]
    simp only [Hold_eq]
    have hj1 : j < l.length := by omega
    refine cond_dec (fun h1 => ⟨by omega, ?_⟩) (fun h1 => by omega)
    rw [F_mac_Mac_1_1, Int.toNat_natCast, getD_at hj1, step64 j (by omega)]
    refine ⟨by omega, ih (j + 1) (k + 1) _ (by omega) (by omega) ?_ h⟩
    have e1 : (xorL p (l.take j)).length = j := by rw [xorL_len, List.length_take]; omega
    rw [ha, List.set_append_right _ _ (by omega), e1, Nat.sub_self, drop_cons hj1, List.set_cons_zero]
    rw [List.take_succ_eq_append_getElem hj1]
    unfold xorL
    rw [List.map_append, List.append_assoc]
    rfl
theorem Mac1_s (k : Nat) {l : List Int} {p : Int} {K : Nat → Nat → List Int → List Int → Prop} (hl : l.length = 64) (hk : 100 ≤ k) (h : K 0 64 l (xorL p l)) : F_mac_Mac_1 k p l K := by
  obtain ⟨k, rfl⟩ : ∃ m, k = m + 2 := ⟨k - 2, by omega⟩
  rw [F_mac_Mac_1]
  simp only [Hold_eq]
  rw [F_mac_turned_byte]
  simp only [Hold_eq]
  refine turned_loop hl 64 0 k l (by omega) (by omega) ?_ h
  rfl
theorem mac_s (k : Nat) {key b : List Int} {K : List Int → Prop} (hkey : key.length ≤ 64) (hb : b.length ≤ 1000) (hk : 6000 ≤ k) (h : K (macL key b)) : F_mac_Mac k key b K := by
  obtain ⟨k, rfl⟩ : ∃ m, k = m + 3 := ⟨k - 3, by omega⟩
  rw [F_mac_Mac]
  simp only [Hold_eq]
  refine cond_dec (fun h1 => by omega) (fun h1 => ?_)
  rw [C_mac_Mac_5_1]
  simp only [Hold_eq]
  refine ⟨by decide, ?_⟩
  have e : splice (List.replicate 64 (0 : Int)) (Int.toNat 0) key (Nat.min (List.length key) (Int.toNat (64 - 0))) = k64 key := by
    have : Nat.min key.length 64 = key.length := Nat.min_eq_left hkey
    show List.take 0 _ ++ (key.take (Nat.min key.length 64) ++ (List.replicate 64 (0 : Int)).drop (0 + Nat.min key.length 64)) = _
    rw [this, Nat.zero_add, List.take_of_length_le (Nat.le_refl _), List.drop_replicate]
    rfl
  have l64 := k64_len hkey
  rw [e, C_mac_Mac_7]
  simp only [Hold_eq]
  have x54 := xorL_len 54 (k64 key)
  have x92 := xorL_len 92 (k64 key)
  have c54 : cut (xorL 54 (k64 key)) 0 64 = xorL 54 (k64 key) := cut_all _ (by omega)
  have c92 : cut (xorL 92 (k64 key)) 0 64 = xorL 92 (k64 key) := cut_all _ (by omega)
  refine sha_New_s k (by omega) (sha_New_s k (by omega) (Mac1_s k l64 (by omega) ?_))
  rw [c54]
  refine Write_s k New_inv (by simp; omega) (by omega) fun w1 b1 n1 I1 => ?_
  rw [List.nil_append] at I1
  refine Write_s k I1 (by omega) (by omega) fun w2 b2 n2 I2 => ?_
  refine Sum_s k I2 (by rw [List.length_append]; omega) (by omega) (Mac1_s k l64 (by omega) ?_)
  rw [c92]
  refine Write_s k New_inv (by simp; omega) (by omega) fun w3 b3 n3 I3 => ⟨by decide, ?_⟩
  rw [List.nil_append] at I3
  have ls := (shaL_dig (xorL 54 (k64 key) ++ b)).1
  have cs : cut (shaL (xorL 54 (k64 key) ++ b)) (Int.toNat 0) (Int.toNat (32 - 0)) = shaL (xorL 54 (k64 key) ++ b) := cut_all _ (by rw [ls]; decide)
  rw [cs]
  refine Write_s k I3 (by omega) (by omega) fun w4 b4 n4 I4 => ?_
  exact Sum_s k I4 (by rw [List.length_append]; omega) (by omega) h
-- the document's
theorem r03_fill {key b d : List Int} (hkey : key.length ≤ 64) : ∀ (m j k : Nat) (acc : List Int) {K : List Int → Prop}, j + m = key.length → m + 5 ≤ k → acc = key.take j ++ List.replicate (64 - j) 0 → (∀ k', k ≤ k' + m + 2 → C_r03_Mac_12 k' b (0 : Int) d (k64 key) [] [] K) →
    C_r03_Mac_6_1 k key b (j : Int) d acc K := by
  intro m
  induction m with
  | zero =>
    intro j k acc K hj hk ha h
    obtain ⟨k, rfl⟩ : ∃ m, k = m + 1 := ⟨k - 1, by omega⟩
    rw [C_r03_Mac_6_1]
    simp only [Hold_eq]
    refine cond_dec (fun h1 => by omega) (fun h1 => ?_)
    rw [List.take_of_length_le (by omega), show 64 - j = 64 - key.length by omega] at ha
    rw [ha]
    exact h k (by omega)
  | succ m ih =>
    intro j k acc K hj hk ha h
    obtain ⟨k, rfl⟩ : ∃ m, k = m + 1 := ⟨k - 1, by omega⟩
    rw [C_r03_Mac_6_1]
    simp only [Hold_eq]
    have hj1 : j < key.length := by omega
    refine cond_dec (fun h1 => ⟨by omega, by omega, ?_⟩) (fun h1 => by omega)
    rw [Int.toNat_natCast, getD_at hj1, step64 j (by omega)]
    refine ih (j + 1) k _ (by omega) (by omega) ?_ (fun k' hk' => h k' (by omega))
    have e1 : (key.take j).length = j := by rw [List.length_take]; omega
    rw [ha, List.set_append_right _ _ (by omega), e1, Nat.sub_self, show 64 - j = (64 - (j + 1)) + 1 by omega, List.replicate_succ, List.set_cons_zero, List.take_succ_eq_append_getElem hj1, List.append_assoc]
    rfl
theorem r03_loop {l b d : List Int} (hl : l.length = 64) (hb8 : B8 b) (hb : b.length ≤ 1000) : ∀ (m j k : Nat) {K : List Int → Prop}, j + m = 64 → m + 5000 ≤ k → K (shaL (xorL 92 l ++ shaL (xorL 54 l ++ b))) → C_r03_Mac_12 k b (j : Int) d l (xorL 54 (l.take j)) (xorL 92 (l.take j)) K := by
  intro m
  induction m with
  | zero =>
    intro j k K hj hk h
    obtain ⟨k, rfl⟩ : ∃ m, k = m + 1 := ⟨k - 1, by omega⟩
    rw [C_r03_Mac_12]
    simp only [Hold_eq]
    rw [List.take_of_length_le (by omega)]
    have x54 := xorL_len 54 l
    have x92 := xorL_len 92 l
    have ls := shaL_dig (xorL 54 l ++ b)
    have cs : cut (shaL (xorL 54 l ++ b)) (Int.toNat 0) (Int.toNat (32 - 0)) = shaL (xorL 54 l ++ b) := cut_all _ (by rw [ls.1]; decide)
    have l1 := ls.1
    refine cond_dec (fun h1 => by omega) (fun h1 => ⟨by unfold room; omega, r02_Sum_s k (B8.append (xorL_B8 _ _) hb8) (by rw [List.length_append]; omega) (by rw [List.length_append]; omega) ⟨by decide, ?_⟩⟩)
    rw [cs]
    exact ⟨by unfold room; omega, r02_Sum_s k (B8.append (xorL_B8 _ _) ls.2) (by rw [List.length_append]; omega) (by rw [List.length_append]; omega) h⟩
  | succ m ih =>
    intro j k K hj hk h
    obtain ⟨k, rfl⟩ : ∃ m, k = m + 1 := ⟨k - 1, by omega⟩
    rw [C_r03_Mac_12]
    simp only [Hold_eq]
    have hj1 : j < l.length := by omega
    have l1 := xorL_len 54 (l.take j)
    have l2 := xorL_len 92 (l.take j)
    have l3 : (l.take j).length = j := by rw [List.length_take]; omega
    rw [Int.toNat_natCast, getD_at hj1, step64 j (by omega)]
    refine cond_dec (fun h1 => ⟨by omega, by unfold room; simp only [List.length_cons, List.length_nil]; omega, by omega, by unfold room; simp only [List.length_cons, List.length_nil]; omega, ?_⟩) (fun h1 => by omega)
    have e (p : Int) : xorL p (l.take j) ++ [ixor .u8 l[j] p] = xorL p (l.take (j + 1)) := by
      unfold xorL
      rw [List.take_succ_eq_append_getElem hj1, List.map_append]; rfl
    rw [e, e]
    exact ih (j + 1) k (by omega) (by omega) h
theorem r03_Mac_s (k : Nat) {key b : List Int} {K : List Int → Prop} (hkey : key.length ≤ 64) (hb8 : B8 b) (hb : b.length ≤ 1000) (hk : 6000 ≤ k) (h : K (macL key b)) : F_r03_Mac k key b K := by
  obtain ⟨k, rfl⟩ : ∃ m, k = m + 1 := ⟨k - 1, by omega⟩
  rw [F_r03_Mac]
  simp only [Hold_eq]
  refine cond_dec (fun h1 => by omega) (fun h1 => ?_)
  exact r03_fill hkey key.length 0 k _ (by omega) (by omega) rfl fun k' hk' => r03_loop (k64_len hkey) hb8 hb 64 0 k' (by omega) (by omega) h
-- signed heads
def hb (h : S_api_Head) : List Int := grp h.f0.toNat ++ h.f1 ++ h.f2
def MayH (h : S_api_Head) : Prop := 1 ≤ h.f0 ∧ h.f0 ≤ 200
instance (h : S_api_Head) : Decidable (MayH h) := inferInstanceAs (Decidable (_ ∧ _))
theorem hb_len {h : S_api_Head} (hh : HeadOk h) (hm : MayH h) : (hb h).length ≤ 100 ∧ B8 (hb h) := by
  have lg := (grp_len 4 h.f0.toNat (by have : (128 : Nat) ^ 5 = 34359738368 := rfl; have := hm.2; omega)).1
  have l1 := hh.1.1
  have l2 := hh.2.1
  exact ⟨by unfold hb; rw [List.length_append, List.length_append]; omega, (B8.append (grp_B8 _) hh.1.2).append hh.2.2⟩
theorem head_Bytes_s (k : Nat) {h : S_api_Head} {K : List Int → Int → Prop} (hh : HeadOk h) (hk : 1000 ≤ k) (g : if MayH h then K (hb h) 0 else K [] 80) : F_head_Bytes k h.f0 h.f1 h.f2 K := by
  obtain ⟨k, rfl⟩ : ∃ m, k = m + 1 := ⟨k - 1, by omega⟩
  rw [F_head_Bytes]
  simp only [Hold_eq]
  have l1 := hh.1.1
  have l2 := hh.2.1
  refine cond_dec (fun h1 => ?_) (fun h1 => cond_dec (fun h2 => ?_) (fun h2 => ?_))
  · rw [if_neg (by unfold MayH; omega)] at g; exact g
  · rw [if_neg (by unfold MayH; omega)] at g; exact g
  · rw [if_pos ⟨by omega, by omega⟩] at g
    unfold hb at g
    obtain ⟨n, hn⟩ := Int.eq_ofNat_of_zero_le (by omega : 0 ≤ h.f0)
    rw [hn, Int.toNat_natCast] at g
    rw [hn]
    have lg := (grp_len 4 n (by have : (128 : Nat) ^ 5 = 34359738368 := rfl; omega)).1
    refine PutCount_s n k [] (by omega) (by omega) (by simp) ?_
    rw [List.nil_append]
    exact PutDigest_s k _ _ (by omega) hh.1 (by omega) (PutDigest_s k _ _ (by omega) hh.2 (by rw [List.length_append]; omega) g)
theorem r09_Bytes_s (k : Nat) {h : S_api_Head} {K : List Int → Int → Prop} (hh : HeadOk h) (hk : 1000 ≤ k) (g : if MayH h then K (hb h) 0 else K [] 80) : F_r09_Bytes k h.f0 h.f1 h.f2 K := by
  obtain ⟨k, rfl⟩ : ∃ m, k = m + 2 := ⟨k - 2, by omega⟩
  rw [F_r09_Bytes]
  simp only [Hold_eq]
  rw [F_r09_May]
  have l1 := hh.1.1
  have l2 := hh.2.1
  refine cond_dec (fun h1 => ?_) (fun h1 => ?_)
  · by_cases h2 : h.f0 ≤ 200
    · rw [decide_eq_true h2, Bool.not_true, cond_false]
      rw [if_pos ⟨h1, h2⟩] at g
      unfold hb at g
      obtain ⟨n, hn⟩ := Int.eq_ofNat_of_zero_le (by omega : 0 ≤ h.f0)
      rw [hn, Int.toNat_natCast] at g
      rw [hn]
      have lg := (grp_len 4 n (by have : (128 : Nat) ^ 5 = 34359738368 := rfl; omega)).1
      have e1 : cut h.f1 (Int.toNat 0) (Int.toNat (32 - 0)) = h.f1 := cut_all _ (by rw [l1]; decide)
      have e2 : cut h.f2 (Int.toNat 0) (Int.toNat (32 - 0)) = h.f2 := cut_all _ (by rw [l2]; decide)
      rw [e1, e2]
      refine r01_Groups_s n (k + 1) (by omega) (by omega) ?_
      exact ⟨by decide, by unfold room; omega, by decide, by unfold room; rw [List.length_append]; omega, g⟩
    · rw [if_neg (by unfold MayH; omega)] at g
      rw [decide_eq_false h2]; exact g
  · rw [if_neg (by unfold MayH; omega)] at g; exact g
def keyB (key : ByteArray) : Bool := decide (1 ≤ key.size) && decide (key.size ≤ 64)
theorem signing_s (k : Nat) {key : ByteArray} {K : Bool → Prop} (hk : 1 ≤ k) (h : K (keyB key)) : F_head_signing k key K := by
  obtain ⟨k, rfl⟩ : ∃ m, k = m + 1 := ⟨k - 1, by omega⟩
  rw [F_head_signing, seq_str0]
  unfold keyB at h
  refine cond_ndec (fun h1 => ?_) (fun h1 => ?_)
  · rw [decide_eq_true (by omega), Bool.true_and] at h
    rw [show (64 : Int) = ((64 : Nat) : Int) from rfl, nat_le]; exact h
  · rw [decide_eq_false (by omega), Bool.false_and] at h; exact h
theorem r09_Key_s (k : Nat) {key : ByteArray} {K : Bool → Prop} (hk : 1 ≤ k) (h : K (keyB key)) : F_r09_Key k key K := by
  obtain ⟨k, rfl⟩ : ∃ m, k = m + 1 := ⟨k - 1, by omega⟩
  rw [F_r09_Key]
  unfold keyB at h
  refine cond_dec (fun h1 => ?_) (fun h1 => ?_)
  · rw [decide_eq_true (by omega), Bool.true_and] at h
    rw [show (64 : Int) = ((64 : Nat) : Int) from rfl, nat_le]; exact h
  · rw [decide_eq_false (by omega), Bool.false_and] at h; exact h
abbrev G0 : S_api_Signed := S_api_Signed.mk H0 z32
def signOf (key : ByteArray) (h : S_api_Head) : S_api_Signed := if keyB key = true ∧ MayH h then S_api_Signed.mk h (macL (bytesTo key) (hb h)) else G0
theorem bytesTo_len (s : ByteArray) : (bytesTo s).length = s.size := by unfold bytesTo; rw [List.length_map, Array.length_toList]; rfl
theorem keyB_len {key : ByteArray} (h : keyB key = true) : key.size ≤ 64 := by
  unfold keyB at h
  rw [Bool.and_eq_true] at h
  exact of_decide_eq_true h.2
theorem head_Sign_s (k : Nat) {key : ByteArray} {h : S_api_Head} {K : Int → List Int → List Int → List Int → Int → Prop} (hh : HeadOk h) (hk : 7000 ≤ k) (g : ∀ e, K (signOf key h).f0.f0 (signOf key h).f0.f1 (signOf key h).f0.f2 (signOf key h).f1 e) : F_head_Sign k key h.f0 h.f1 h.f2 K := by
  obtain ⟨k, rfl⟩ : ∃ m, k = m + 1 := ⟨k - 1, by omega⟩
  rw [F_head_Sign]
  simp only [Hold_eq]
  unfold signOf at g
  refine head_Bytes_s k hh (by omega) ?_
  by_cases hm : MayH h
  · rw [if_pos hm]
    refine signing_s k (by omega) (cond_nb (fun h1 => ?_) (fun h1 => ?_))
    · rw [if_neg (by rw [h1]; simp)] at g; exact g _
    · rw [if_pos ⟨h1, hm⟩] at g
      have l1 := keyB_len h1
      have l2 := bytesTo_len key
      obtain ⟨l3, l4⟩ := hb_len hh hm
      exact cond_ndec (fun x => absurd rfl x) (fun _ => ⟨by unfold maxStr; omega, mac_s k (by omega) (by omega) (by omega) (g 0)⟩)
  · rw [if_neg hm]
    rw [if_neg (fun x => hm x.2)] at g
    exact signing_s k (by omega) (cond_nb (fun h1 => g _) (fun h1 => cond_ndec (fun _ => g _) (fun x => absurd x (by decide))))
theorem r09_Sign_s (k : Nat) {key : ByteArray} {h : S_api_Head} {K : Int → List Int → List Int → List Int → Int → Prop} (hh : HeadOk h) (hk : 7000 ≤ k) (g : ∀ e, K (signOf key h).f0.f0 (signOf key h).f0.f1 (signOf key h).f0.f2 (signOf key h).f1 e) : F_r09_Sign k key h.f0 h.f1 h.f2 K := by
  obtain ⟨k, rfl⟩ : ∃ m, k = m + 1 := ⟨k - 1, by omega⟩
  rw [F_r09_Sign]
  simp only [Hold_eq]
  unfold signOf at g
  refine r09_Bytes_s k hh (by omega) ?_
  by_cases hm : MayH h
  · rw [if_pos hm]
    refine r09_Key_s k (by omega) (cond_nb (fun h1 => ?_) (fun h1 => ?_))
    · rw [if_neg (by rw [h1]; simp)] at g; exact g _
    · rw [if_pos ⟨h1, hm⟩] at g
      have l1 := keyB_len h1
      have l2 := bytesTo_len key
      obtain ⟨l3, l4⟩ := hb_len hh hm
      exact cond_ndec (fun x => absurd rfl x) (fun _ => ⟨by unfold maxStr; omega, r03_Mac_s k (by omega) l4 (by omega) (by omega) (g 0)⟩)
  · rw [if_neg hm]
    rw [if_neg (fun x => hm x.2)] at g
    exact r09_Key_s k (by omega) (cond_nb (fun h1 => g _) (fun h1 => cond_ndec (fun _ => g _) (fun x => absurd x (by decide))))
section
variable {e : Int} {us : List S_api_User} {hs : List S_api_Head} {ss : List S_api_Session} {key : ByteArray}
theorem ready_s (k : Nat) {K : Int → Prop} (hv : ∀ u ∈ us, u.f1.length ≤ 100000) (hh : ∀ h ∈ hs, HeadOk h) (hn : hs.length ≤ 100000) (hns : ss.length ≤ 100000) (hk : 900010 ≤ k) (h : K (cond (dirB e us hs ss) (cond (keyB key) 0 80) 70)) : F_signer_ready k key e us hs ss K := by
  obtain ⟨k, rfl⟩ : ∃ m, k = m + 1 := ⟨k - 1, by omega⟩
  rw [F_signer_ready]
  simp only [Hold_eq]
  refine Check_s k hv hh hn hns (by omega) ?_
  cases hd : dirB e us hs ss
  · rw [hd] at h; exact h
  · rw [hd, cond_true] at h
    rw [seq_str0]
    unfold keyB at h
    refine cond_ndec (fun g => absurd rfl g) (fun _ => cond_dec (fun h1 => ?_) (fun h1 => cond_dec (fun h2 => ?_) (fun h2 => ?_)))
    · rw [decide_eq_false (by omega), Bool.false_and] at h; exact h
    · rw [decide_eq_false (by omega : ¬ key.size ≤ 64), Bool.and_false] at h; exact h
    · rw [decide_eq_true (by omega), decide_eq_true (by omega)] at h; exact h
theorem y6_s (k : Nat) {h : S_api_Head} {acc : List S_api_Signed} {K : ByteArray → List S_api_Signed → Prop} (hh : HeadOk h) (ha : acc.length ≤ 100000) (hk : 7010 ≤ k) (g : K key (acc ++ [signOf key h])) : F_signer_Heads_y6 k h.f0 h.f1 h.f2 key acc K := by
  obtain ⟨k, rfl⟩ : ∃ m, k = m + 1 := ⟨k - 1, by omega⟩
  rw [F_signer_Heads_y6]
  simp only [Hold_eq]
  exact head_Sign_s k hh (by omega) fun _ => ⟨by unfold room; simp only [List.length_cons, List.length_nil]; omega, g⟩
theorem vals_loop {l z : List S_api_Head} (hh : ∀ h ∈ l, HeadOk h) (hn : l.length ≤ 5000) : ∀ (m j k : Nat) (acc : List S_api_Signed) {K : List S_api_Head → ByteArray → List S_api_Signed → Prop}, j + m = l.length → 3 * m + 7100 ≤ k → acc.length ≤ j → K z key (acc ++ (l.drop j).map (signOf key)) →
    C_slices_Values_api_Head_api_Head_1_1_1 k l (l.length : Int) (j : Int) z key acc K := by
  intro m
  induction m with
  | zero =>
    intro j k acc K hj hk ha h
    obtain ⟨k, rfl⟩ : ∃ m, k = m + 1 := ⟨k - 1, by omega⟩
    rw [C_slices_Values_api_Head_api_Head_1_1_1]
    simp only [Hold_eq]
    rw [List.drop_of_length_le (by omega), List.map_nil, List.append_nil] at h
    exact cond_dec (fun h1 => by omega) (fun h1 => h)
  | succ m ih =>
    intro j k acc K hj hk ha h
    obtain ⟨k, rfl⟩ : ∃ m, k = m + 3 := ⟨k - 3, by omega⟩
    rw [C_slices_Values_api_Head_api_Head_1_1_1]
    simp only [Hold_eq]
    have hj1 : j < l.length := by omega
    refine cond_dec (fun h1 => ?_) (fun h1 => by omega)
    rw [C_slices_Values_api_Head_api_Head_1_2_1]
    simp only [Hold_eq]
    rw [Int.toNat_natCast, getD_at hj1]
    refine ⟨by omega, ?_⟩
    rw [C_slices_Values_api_Head_api_Head_1_3_1]
    simp only [Hold_eq]
    rw [step64 j (by omega)]
    refine y6_s k (hh _ (List.getElem_mem hj1)) (by omega) (by omega) (ih (j + 1) k _ (by omega) (by omega) (by rw [List.length_append]; simp only [List.length_cons, List.length_nil]; omega) ?_)
    rw [drop_cons hj1, List.map_cons] at h
    rw [List.append_assoc]
    exact h
theorem Heads_s (k : Nat) {K : List S_api_Signed → Int → Prop} (hv : ∀ u ∈ us, u.f1.length ≤ 100000) (hh : ∀ h ∈ hs, HeadOk h) (hn : hs.length ≤ 5000) (hns : ss.length ≤ 100000) (hk : 900100 ≤ k)
    (h : cond (dirB e us hs ss) (cond (keyB key) (K (hs.map (signOf key)) 0) (K [] 80)) (K [] 70)) : F_signer_Heads k key e us hs ss K := by
  obtain ⟨k, rfl⟩ : ∃ m, k = m + 3 := ⟨k - 3, by omega⟩
  rw [F_signer_Heads]
  simp only [Hold_eq]
  refine ready_s (k + 2) hv hh (by omega) hns (by omega) ?_
  cases hd : dirB e us hs ss
  · rw [hd] at h; exact h
  · cases hkb : keyB key
    · rw [hd, hkb] at h; exact h
    · rw [hd, hkb, cond_true, cond_true] at h
      refine cond_ndec (fun g => absurd rfl g) (fun _ => ?_)
      rw [F_slices_Values_api_Head_api_Head, F_slices_Values_api_Head_api_Head_1]
      simp only [Hold_eq]
      rw [C_slices_Values_api_Head_api_Head_1_1]
      simp only [Hold_eq]
      refine cond_dec (fun h1 => ?_) (fun h1 => ?_)
      · obtain ⟨k, rfl⟩ : ∃ m, k = m + 2 := ⟨k - 2, by omega⟩
        rw [C_slices_Values_api_Head_api_Head_1_2]
        simp only [Hold_eq]
        have hj1 : 0 < hs.length := by omega
        rw [show Int.toNat 0 = 0 from rfl, getD_at hj1]
        refine ⟨by omega, ?_⟩
        rw [C_slices_Values_api_Head_api_Head_1_3]
        simp only [Hold_eq]
        rw [show IntKind.i64.wrap (0 + 1) = ((1 : Nat) : Int) from by rw [wrap64 (by omega)]; rfl]
        refine y6_s k (hh _ (List.getElem_mem hj1)) (by simp) (by omega) (vals_loop hh hn (hs.length - 1) 1 k _ (by omega) (by omega) (by simp) ?_)
        have e : hs.map (signOf key) = [signOf key hs[0]] ++ (hs.drop 1).map (signOf key) := by
          conv => lhs; rw [show hs = hs.drop 0 from rfl, drop_cons hj1]
          rfl
        rw [e] at h
        exact h
      · have : hs = [] := List.eq_nil_of_length_eq_zero (by omega)
        rw [this] at h
        exact h
theorem r19_loop (hh : ∀ h ∈ hs, HeadOk h) (hn : hs.length ≤ 5000) : ∀ (m j k : Nat) (acc : List S_api_Signed) {K : List S_api_Signed → Int → Prop}, j + m = hs.length → m + 7100 ≤ k → acc.length ≤ j → K (acc ++ (hs.drop j).map (signOf key)) 0 →
    C_r19_Heads_7 k key (j : Int) e us hs ss acc K := by
  intro m
  induction m with
  | zero =>
    intro j k acc K hj hk ha h
    obtain ⟨k, rfl⟩ : ∃ m, k = m + 1 := ⟨k - 1, by omega⟩
    rw [C_r19_Heads_7]
    rw [List.drop_of_length_le (by omega), List.map_nil, List.append_nil] at h
    exact cond_dec (fun h1 => by omega) (fun h1 => h)
  | succ m ih =>
    intro j k acc K hj hk ha h
    obtain ⟨k, rfl⟩ : ∃ m, k = m + 1 := ⟨k - 1, by omega⟩
    rw [C_r19_Heads_7]
    simp only [Hold_eq]
    have hj1 : j < hs.length := by omega
    rw [Int.toNat_natCast, getD_at hj1, step64 j (by omega)]
    refine cond_dec (fun h1 => ⟨by omega, r09_Sign_s k (hh _ (List.getElem_mem hj1)) (by omega) fun _ => ⟨by unfold room; simp only [List.length_cons, List.length_nil]; omega, ?_⟩⟩) (fun h1 => by omega)
    refine ih (j + 1) k _ (by omega) (by omega) (by rw [List.length_append]; simp only [List.length_cons, List.length_nil]; omega) ?_
    rw [drop_cons hj1, List.map_cons] at h
    rw [List.append_assoc]
    exact h
theorem r19_Heads_s (k : Nat) {K : List S_api_Signed → Int → Prop} (hv : ∀ u ∈ us, u.f1.length ≤ 100000) (hh : ∀ h ∈ hs, HeadOk h) (hn : hs.length ≤ 5000) (hns : ss.length ≤ 100000) (hk : 900100 ≤ k)
    (h : cond (dirB e us hs ss) (cond (keyB key) (K (hs.map (signOf key)) 0) (K [] 80)) (K [] 70)) : F_r19_Heads k key e us hs ss K := by
  obtain ⟨k, rfl⟩ : ∃ m, k = m + 1 := ⟨k - 1, by omega⟩
  rw [F_r19_Heads]
  simp only [Hold_eq]
  refine Right_s k hv hh (by omega) hns (by omega) (cond_nb (fun h1 => ?_) (fun h1 => r09_Key_s k (by omega) (cond_nb (fun h2 => ?_) (fun h2 => ?_))))
  · rw [h1] at h; exact h
  · rw [h1, h2] at h; exact h
  · rw [h1, h2] at h
    exact r19_loop hh hn hs.length 0 k [] (by omega) (by omega) (by simp) h
end
-- the newest
def newV (l : List S_api_Signed) : S_api_Signed := if l.length = 0 then G0 else l.getD (l.length - 1) G0
theorem Newest_s (k : Nat) {l : List S_api_Signed} {K : Int → List Int → List Int → List Int → Prop} (hn : l.length ≤ 100000) (hk : 1 ≤ k) (h : K (newV l).f0.f0 (newV l).f0.f1 (newV l).f0.f2 (newV l).f1) : F_signer_Newest k l K := by
  obtain ⟨k, rfl⟩ : ∃ m, k = m + 1 := ⟨k - 1, by omega⟩
  rw [F_signer_Newest]
  unfold newV at h
  refine cond_dec (fun h1 => ?_) (fun h1 => ?_)
  · rw [if_pos (by omega)] at h; exact h
  · rw [if_neg (by omega)] at h
    have e2 : IntKind.i64.wrap ((l.length : Int) - 1) = ((l.length - 1 : Nat) : Int) := by rw [wrap64 (by omega)]; omega
    rw [e2, Int.toNat_natCast]
    exact ⟨by omega, h⟩
theorem r19_Newest_s (k : Nat) {l : List S_api_Signed} {K : Int → List Int → List Int → List Int → Prop} (hn : l.length ≤ 100000) (hk : 1 ≤ k) (h : K (newV l).f0.f0 (newV l).f0.f1 (newV l).f0.f2 (newV l).f1) : F_r19_Newest k l K := by
  obtain ⟨k, rfl⟩ : ∃ m, k = m + 1 := ⟨k - 1, by omega⟩
  rw [F_r19_Newest]
  unfold newV at h
  refine cond_dec (fun h1 => ?_) (fun h1 => ?_)
  · rw [if_pos (by omega)] at h; exact h
  · rw [if_neg (by omega)] at h
    have e2 : IntKind.i64.wrap ((l.length : Int) - 1) = ((l.length - 1 : Nat) : Int) := by rw [wrap64 (by omega)]; omega
    rw [e2, Int.toNat_natCast]
    exact ⟨by omega, h⟩
-- do lists agree
def headEq (x y : S_api_Head) : Bool := (decide (x.f0 = y.f0)) && ((decide (x.f1 = y.f1)) && ((decide (x.f2 = y.f2)) && true))
def pairB (x y : S_api_Signed) : Bool := cond (decide (x.f0.f0 = y.f0.f0)) (headEq x.f0 y.f0) true
def agreeB (l m : List S_api_Signed) : Bool := l.all fun x => m.all fun y => pairB x y
theorem in_loop {l z : List S_api_Signed} {x : S_api_Signed} (hn : l.length ≤ 100000) {K0 K1 : List S_api_Signed → Bool → Int → List Int → List Int → List Int → Prop} : ∀ (m j k : Nat), j + m = l.length → 2 * m + 10 ≤ k →
    cond ((l.drop j).all fun y => pairB x y) (K1 z true x.f0.f0 x.f0.f1 x.f0.f2 x.f1) (K0 z false x.f0.f0 x.f0.f1 x.f0.f2 x.f1) →
    C_slices_Values_api_Signed_api_Signed_1_1_1 k l (l.length : Int) (j : Int) z true x.f0.f0 x.f0.f1 x.f0.f2 x.f1 K0 K1 := by
  intro m
  induction m with
  | zero =>
    intro j k hj hk h
    obtain ⟨k, rfl⟩ : ∃ m, k = m + 1 := ⟨k - 1, by omega⟩
    rw [C_slices_Values_api_Signed_api_Signed_1_1_1]
    rw [List.drop_of_length_le (by omega)] at h
    exact cond_dec (fun h1 => by omega) (fun h1 => h)
  | succ m ih =>
    intro j k hj hk h
    obtain ⟨k, rfl⟩ : ∃ m, k = m + 2 := ⟨k - 2, by omega⟩
    rw [C_slices_Values_api_Signed_api_Signed_1_1_1]
    simp only [Hold_eq]
    have hj1 : j < l.length := by omega
    refine cond_dec (fun h1 => ⟨by omega, ?_⟩) (fun h1 => by omega)
    rw [F_signer_Agree_y5, Int.toNat_natCast, getD_at hj1, step64 j (by omega)]
    rw [drop_cons hj1, List.all_cons] at h
    have next : pairB x l[j] = true → C_slices_Values_api_Signed_api_Signed_1_1_1 (k + 1) l (l.length : Int) ((j + 1 : Nat) : Int) z true x.f0.f0 x.f0.f1 x.f0.f2 x.f1 K0 K1 := by
      intro hp
      rw [hp, Bool.true_and] at h
      exact ih (j + 1) (k + 1) (by omega) (by omega) h
    refine cond_dec (fun h2 => cond_nb (fun h3 => ?_) (fun h3 => next ?_)) (fun h2 => next ?_)
    · have : pairB x l[j] = false := by unfold pairB; rw [decide_eq_true h2, cond_true]; exact h3
      rw [this, Bool.false_and] at h; exact h
    · unfold pairB; rw [decide_eq_true h2, cond_true]; exact h3
    · unfold pairB; rw [decide_eq_false h2, cond_false]
theorem out_loop {l l2 z : List S_api_Signed} (hn : l.length ≤ 100000) (hn2 : l2.length ≤ 100000) {K2 K3 : List S_api_Signed → List S_api_Signed → Bool → Prop} : ∀ (m j k : Nat), j + m = l.length → m + 2 * l2.length + 50 ≤ k →
    cond ((l.drop j).all fun x => l2.all fun y => pairB x y) (K3 z l2 true) (K2 z l2 false) → C_slices_Values_api_Signed_api_Signed_1_1 k l (l.length : Int) (j : Int) z l2 true K2 K3 := by
  intro m
  induction m with
  | zero =>
    intro j k hj hk h
    obtain ⟨k, rfl⟩ : ∃ m, k = m + 1 := ⟨k - 1, by omega⟩
    rw [C_slices_Values_api_Signed_api_Signed_1_1]
    rw [List.drop_of_length_le (by omega)] at h
    exact cond_dec (fun h1 => by omega) (fun h1 => h)
  | succ m ih =>
    intro j k hj hk h
    obtain ⟨k, rfl⟩ : ∃ m, k = m + 3 := ⟨k - 3, by omega⟩
    rw [C_slices_Values_api_Signed_api_Signed_1_1]
    simp only [Hold_eq]
    have hj1 : j < l.length := by omega
    refine cond_dec (fun h1 => ⟨by omega, ?_⟩) (fun h1 => by omega)
    rw [Int.toNat_natCast, getD_at hj1, step64 j (by omega)]
    rw [drop_cons hj1, List.all_cons] at h
    rw [F_signer_Agree_y3]
    simp only [Hold_eq]
    rw [F_slices_Values_api_Signed_api_Signed, F_slices_Values_api_Signed_api_Signed_1_s1]
    simp only [Hold_eq]
    refine in_loop hn2 l2.length 0 k (by omega) (by omega) ?_
    rw [List.drop_zero]
    cases hp : (l2.all fun y => pairB l[j] y)
    · rw [hp, Bool.false_and] at h; exact h
    · rw [hp, Bool.true_and] at h
      exact ih (j + 1) (k + 2) (by omega) (by omega) h
theorem Agree_s (k : Nat) {l l2 : List S_api_Signed} {K : Bool → Prop} (hn : l.length ≤ 100000) (hn2 : l2.length ≤ 100000) (hk : l.length + 2 * l2.length + 100 ≤ k) (h : K (agreeB l l2)) : F_signer_Agree k l l2 K := by
  obtain ⟨k, rfl⟩ : ∃ m, k = m + 2 := ⟨k - 2, by omega⟩
  rw [F_signer_Agree]
  simp only [Hold_eq]
  rw [F_slices_Values_api_Signed_api_Signed, F_slices_Values_api_Signed_api_Signed_1]
  simp only [Hold_eq]
  refine out_loop hn hn2 l.length 0 k (by omega) (by omega) ?_
  rw [List.drop_zero]
  unfold agreeB at h
  cases hp : (l.all fun x => l2.all fun y => pairB x y) <;> rw [hp] at h <;> exact h
theorem r19_agree {l l2 : List S_api_Signed} (hn : l.length ≤ 100000) (hn2 : l2.length ≤ 100000) {K : Bool → Prop} : ∀ (m i k : Nat), i + m = l.length → (m + 1) * (l2.length + 3) ≤ k → K ((l.drop i).all fun x => l2.all fun y => pairB x y) → C_r19_Agree_2 k l l2 (i : Int) K := by
  intro m
  induction m with
  | zero =>
    intro i k hi hk h
    obtain ⟨k, rfl⟩ : ∃ m, k = m + 1 := ⟨k - 1, by omega⟩
    rw [C_r19_Agree_2]
    rw [List.drop_of_length_le (by omega)] at h
    exact cond_dec (fun h1 => by omega) (fun h1 => h)
  | succ m ih =>
    intro i k hi hk h
    have hk2 : (m + 1) * (l2.length + 3) + (l2.length + 3) ≤ k := by rw [Nat.succ_mul] at hk; exact hk
    obtain ⟨k, rfl⟩ : ∃ m, k = m + 1 := ⟨k - 1, by omega⟩
    rw [C_r19_Agree_2]
    simp only [Hold_eq]
    have hi1 : i < l.length := by omega
    refine cond_dec (fun h1 => ?_) (fun h1 => by omega)
    rw [drop_cons hi1, List.all_cons] at h
    have inner : ∀ (q j k : Nat), j + q = l2.length → (m + 1) * (l2.length + 3) + q + 1 ≤ k → K (((l2.drop j).all fun y => pairB l[i] y) && ((l.drop (i + 1)).all fun x => l2.all fun y => pairB x y)) → C_r19_Agree_5 k l l2 (i : Int) (j : Int) K := by
      intro q
      induction q with
      | zero =>
        intro j k hj hk h
        obtain ⟨k, rfl⟩ : ∃ m, k = m + 1 := ⟨k - 1, by omega⟩
        rw [C_r19_Agree_5]
        simp only [Hold_eq]
        rw [List.drop_of_length_le (by omega), List.all_nil, Bool.true_and] at h
        rw [step64 i (by omega)]
        exact cond_dec (fun h1 => by omega) (fun h1 => ih (i + 1) k (by omega) (by omega) h)
      | succ q ihq =>
        intro j k hj hk h
        obtain ⟨k, rfl⟩ : ∃ m, k = m + 1 := ⟨k - 1, by omega⟩
        rw [C_r19_Agree_5]
        simp only [Hold_eq]
        have hj1 : j < l2.length := by omega
        rw [Int.toNat_natCast, Int.toNat_natCast, getD_at hi1, getD_at hj1, step64 j (by omega)]
        rw [drop_cons hj1, List.all_cons, Bool.and_assoc] at h
        have next : pairB l[i] l2[j] = true → C_r19_Agree_5 k l l2 (i : Int) ((j + 1 : Nat) : Int) K := by
          intro hp
          rw [hp, Bool.true_and] at h
          exact ihq (j + 1) k (by omega) (by omega) h
        refine cond_dec (fun h1 => ⟨by omega, by omega, cond_dec (fun h2 => ⟨by omega, by omega, cond_nb (fun h3 => ?_) (fun h3 => next ?_)⟩) (fun h2 => next ?_)⟩) (fun h1 => by omega)
        · have : pairB l[i] l2[j] = false := by unfold pairB; rw [decide_eq_true h2, cond_true]; exact h3
          rw [this, Bool.false_and] at h; exact h
        · unfold pairB; rw [decide_eq_true h2, cond_true]; exact h3
        · unfold pairB; rw [decide_eq_false h2, cond_false]
    exact inner l2.length 0 k (by omega) (by omega) h
theorem r19_Agree_s (k : Nat) {l l2 : List S_api_Signed} {K : Bool → Prop} (hn : l.length ≤ 300) (hn2 : l2.length ≤ 300) (hk : 100000 ≤ k) (h : K (agreeB l l2)) : F_r19_Agree k l l2 K := by
  obtain ⟨k, rfl⟩ : ∃ m, k = m + 1 := ⟨k - 1, by omega⟩
  rw [F_r19_Agree]
  simp only [Hold_eq]
  have : (l.length + 1) * (l2.length + 3) ≤ 301 * 303 := Nat.mul_le_mul (by omega) (by omega)
  exact r19_agree (by omega) (by omega) l.length 0 k (by omega) (by omega) h
theorem same_loop {l : List S_api_Signed} (hn : l.length ≤ 100000) : ∀ (m j k : Nat) {K : Bool → Prop}, j + m = l.length → m + 5 ≤ k → K true → C_r19_Same_4 k l l (j : Int) K := by
  intro m
  induction m with
  | zero =>
    intro j k K hj hk h
    obtain ⟨k, rfl⟩ : ∃ m, k = m + 1 := ⟨k - 1, by omega⟩
    rw [C_r19_Same_4]
    exact cond_dec (fun h1 => by omega) (fun h1 => h)
  | succ m ih =>
    intro j k K hj hk h
    obtain ⟨k, rfl⟩ : ∃ m, k = m + 1 := ⟨k - 1, by omega⟩
    rw [C_r19_Same_4]
    rw [step64 j (by omega)]
    refine cond_dec (fun h1 => ⟨by omega, by omega, ?_⟩) (fun h1 => by omega)
    simp only [decide_true, Bool.and_self, Bool.not_true, cond_false, Hold_eq]
    exact ih (j + 1) k (by omega) (by omega) h
theorem r19_Same_s (k : Nat) {l : List S_api_Signed} {K : Bool → Prop} (hn : l.length ≤ 100000) (hk : l.length + 10 ≤ k) (h : K true) : F_r19_Same k l l K := by
  obtain ⟨k, rfl⟩ : ∃ m, k = m + 1 := ⟨k - 1, by omega⟩
  rw [F_r19_Same]
  simp only [Hold_eq]
  exact cond_ndec (fun g => absurd trivial g) (fun _ => same_loop hn l.length 0 k (by omega) (by omega) h)
theorem lists_s (k : Nat) {K : Bool → Prop} (hk : 1000 ≤ k) (h : K true) : F_l19_lists k K := by
  obtain ⟨k, rfl⟩ : ∃ m, k = m + 1 := ⟨k - 1, by omega⟩
  rw [F_l19_lists]
  simp only [Hold_eq]
  refine Newest_s k (by decide) (by omega) (cond_b (fun _ => ?_) (fun g => ?_))
  · refine Newest_s k (by decide) (by omega) (cond_b (fun _ => ?_) (fun g => ?_))
    · refine Agree_s k (by decide) (by decide) (by simp; omega) (cond_b (fun _ => ?_) (fun g => ?_))
      · refine Agree_s k (by decide) (by decide) (by simp; omega) ?_
        exact h
      · exact absurd g (by decide +kernel)
    · exact absurd g (by decide +kernel)
  · exact absurd g (by decide +kernel)
theorem l19_Lists (key : ByteArray) (e : Int) (us : List S_api_User) (hs : List S_api_Head) (ss : List S_api_Session) (l m : List S_api_Signed) (hh : ∀ h ∈ hs, HeadOk h) :
    ∃ k, F_l19_SignerLists k key e us hs ss l m (fun b => b = true) := by
  suffices h : ∀ k, 1000000 ≤ k → F_l19_SignerLists k key e us hs ss l m (fun b => b = true) from ⟨1000000, h _ (Nat.le_refl _)⟩
  intro k hk
  obtain ⟨k, rfl⟩ : ∃ m, k = m + 1 := ⟨k - 1, by omega⟩
  rw [F_l19_SignerLists]
  simp only [Hold_eq]
  refine large_s k (by omega) fun b hb => ?_
  cases b with
  | true => trivial
  | false =>
    obtain ⟨sm, hl, hm⟩ := hb rfl
    have s2 := sm.h
    have s3 := sm.s
    have hv : ∀ x ∈ us, x.f1.length ≤ 100000 := fun x hx => Nat.le_trans (sm.v x hx) (by omega)
    rw [cond_false]
    have rest : ∀ (x : List S_api_Signed) (c : Int), x.length ≤ 100000 → F_l19_lists k (fun r13 => cond r13 (F_signer_Newest k l (fun r14 r15 r16 r17 => F_r19_Newest k l (fun r18 r19 r20 r21 => cond (((decide (r14 = r18)) && ((decide (r15 = r19)) && ((decide (r16 = r20)) && true))) && ((decide (r17 = r21)) && true)) (F_signer_Agree k l m (fun r22 => F_r19_Agree k l m (fun r23 => cond (r22 == r23) (cond (decide (c = c)) (F_r19_Same k x x (fun r24 => r24 = true)) (false = true)) (false = true)))) (false = true)))) (false = true)) := by
      intro x c hx
      refine lists_s k (by omega) ?_
      rw [cond_true]
      refine Newest_s k (by omega) (by omega) (r19_Newest_s k (by omega) (by omega) ?_)
      simp only [decide_true, Bool.and_self, cond_true]
      refine Agree_s k (by omega) (by omega) (by omega) (r19_Agree_s k hl hm (by omega) ?_)
      rw [beq_self_eq_true, cond_true]
      exact r19_Same_s k hx (by omega) rfl
    refine Heads_s k hv hh s2 (by omega) (by omega) ?_
    cases hd : dirB e us hs ss
    · rw [cond_false]
      refine r19_Heads_s k hv hh s2 (by omega) (by omega) ?_
      rw [hd]
      exact rest _ _ (by simp)
    · cases hkb : keyB key
      · rw [cond_true, cond_false]
        refine r19_Heads_s k hv hh s2 (by omega) (by omega) ?_
        rw [hd, hkb]
        exact rest _ _ (by simp)
      · rw [cond_true, cond_true]
        refine r19_Heads_s k hv hh s2 (by omega) (by omega) ?_
        rw [hd, hkb]
        exact rest _ _ (by rw [List.length_map]; omega)
theorem wf_dig {m : Nat} {d : List Int} (h : wf PE (m + 2) (.arr 5 32 d)) : Dig d := ⟨h.1, fun x hx => h.2 x hx⟩
theorem wf_head {m : Nat} {x : S_api_Head} (h : wf PE (m + 4) (PE.enc 36 x)) : HeadOk x := by
  have h : ∀ a ∈ [A.int (U := PU) .i64 x.f0, .arr 5 32 x.f1, .arr 5 32 x.f2], wf PE (m + 3) a := h
  exact ⟨wf_dig (m := m + 1) (h _ (by simp)), wf_dig (m := m + 1) (h _ (by simp))⟩
theorem wf_heads {m : Nat} {x : S_api_Directory} (h : wf PE (m + 6) (PE.enc 26 x)) : ∀ y ∈ x.f2, HeadOk y := by
  have h : ∀ a ∈ [A.int (U := PU) .i64 x.f0, .ro false 54 x.f1, .ro false 36 x.f2, .ro false 65 x.f3], wf PE (m + 5) a := h
  have h0 : wf PE (m + 5) (.ro false 36 x.f2) := h _ (by simp)
  exact fun y hy => wf_head (m := m) (h0.2 y hy)
theorem law_SignerLists (x0 : ByteArray) (x1 : S_api_Directory) (x2 x3 : List S_api_Signed) (hw : ∀ m, ∀ a ∈ [PE.enc 9 x0, PE.enc 26 x1, PE.enc 27 x2, PE.enc 27 x3], wf PE m a) :
    ∃ k, F_l19_SignerLists k x0 x1.f0 x1.f1 x1.f2 x1.f3 x2 x3 (fun b => b = true) :=
  l19_Lists _ _ _ _ _ _ _ (wf_heads (m := 0) (hw 6 (PE.enc 26 x1) (by simp)))
end Go.V
