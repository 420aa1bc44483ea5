/- the law DirectoryChecks, plainly -/
import Derived.Test.YtmlbaehjlbpbcaaDoorVF10D
set_option linter.unusedVariables false
set_option linter.unusedSimpArgs false
set_option maxRecDepth 4000
namespace Go.V
section
variable {e : Int} {us : List S_api_User} {hs : List S_api_Head} {ss : List S_api_Session}
structure Small (us : List S_api_User) (hs : List S_api_Head) (ss : List S_api_Session) : Prop where
  u : us.length ≤ 5000
  h : hs.length ≤ 5000
  s : ss.length ≤ 5000
  v : ∀ x ∈ us, x.f1.length ≤ 5000
theorem big_loop (hu : us.length ≤ 5000) : ∀ (m j n k : Nat) {K : Bool → Prop}, j + m = us.length → m + 5 ≤ k → n ≤ 10001 → (∀ i (hi : i < us.length), i < j → min us[i].f1.length 5001 ≤ n) →
    (∀ b, (b = false → ∀ x ∈ us, x.f1.length ≤ 5000) → K b) → C_r08_BigDirectory_5 k (n : Int) (j : Int) e us hs ss K := by
  intro m
  induction m with
  | zero =>
    intro j n k K hj hk hn hi h
    obtain ⟨k, rfl⟩ : ∃ m, k = m + 1 := ⟨k - 1, by omega⟩
    rw [C_r08_BigDirectory_5]
    refine cond_dec (fun h1 => by omega) (fun h1 => h _ fun hb x hx => ?_)
    obtain ⟨i, hil, rfl⟩ := List.getElem_of_mem hx
    have := hi i hil (by omega)
    have := of_decide_eq_false hb
    omega
  | succ m ih =>
    intro j n k K hj hk hn hi h
    obtain ⟨k, rfl⟩ : ∃ m, k = m + 1 := ⟨k - 1, by omega⟩
    rw [C_r08_BigDirectory_5]
    simp only [Hold_eq]
    have hj1 : j < us.length := by omega
    rw [Int.toNat_natCast, getD_at hj1, step64 j (by omega)]
    refine cond_dec (fun h1 => cond_dec (fun h2 => ⟨by omega, ?_⟩) (fun h2 => h _ fun hb => ?_)) (fun h1 => by omega)
    · have em : minI ((us[j].f1.length : Nat) : Int) 5001 = ((min us[j].f1.length 5001 : Nat) : Int) := by
        unfold minI
        by_cases g : (5001 : Int) < (us[j].f1.length : Int)
        · rw [decide_eq_true g, cond_true]; omega
        · rw [decide_eq_false g, cond_false]; omega
      have ew : IntKind.i64.wrap ((n : Int) + ((min us[j].f1.length 5001 : Nat) : Int)) = ((n + min us[j].f1.length 5001 : Nat) : Int) := by rw [wrap64 (by omega)]; rfl
      rw [em, ew]
      refine ih (j + 1) _ k (by omega) (by omega) (by omega) (fun i hil hij => ?_) h
      by_cases g : i < j
      · have := hi i hil g; omega
      · have : i = j := by omega
        subst this
        omega
    · exact absurd (of_decide_eq_false hb) (by omega)
theorem large_s (k : Nat) {a b c : Int} {u key : ByteArray} {ep : Int} {root : List Int} {K : Bool → Prop} (hk : 5100 ≤ k) (h : ∀ b, (b = false → Small us hs ss) → K b) : F_l10_large k e us hs ss a b c u key ep root K := by
  obtain ⟨k, rfl⟩ : ∃ m, k = m + 2 := ⟨k - 2, by omega⟩
  rw [F_l10_large]
  simp only [Hold_eq]
  rw [F_r08_BigDirectory]
  simp only [Hold_eq]
  have tr : cond true (K true) (cond (decide ((65536 : Int) < ((ByteArray.size u : Nat) : Int))) (K true) (K (decide ((65536 : Int) < ((ByteArray.size key : Nat) : Int))))) := h true fun e => by cases e
  refine cond_dec (fun h1 => tr) (fun h1 => cond_dec (fun h2 => tr) (fun h2 => cond_dec (fun h3 => tr) (fun h3 => ?_)))
  refine big_loop (by omega) us.length 0 0 k (by omega) (by omega) (by omega) (fun i hi hij => by omega) fun b hb => ?_
  cases b with
  | true => exact tr
  | false =>
    have sm : Small us hs ss := ⟨by omega, by omega, by omega, hb rfl⟩
    exact cond_dec (fun _ => h _ fun _ => sm) (fun _ => h _ fun _ => sm)
theorem own_loop (sm : Small us hs ss) {z1 : Int} {z2 : List S_api_User} {z3 : List S_api_Head} {z4 : List S_api_Session} : ∀ (m j k : Nat) {K : Int → List S_api_User → List S_api_Head → List S_api_Session → Prop}, j + m = us.length → m + 5 ≤ k → K e us hs ss →
    C_r08_OwnDirectory_3 k (j : Int) e us hs ss z1 e z2 z3 z4 (us.take j) [] [] K := by
  have su := sm.u
  have sh := sm.h
  have s3 := sm.s
  intro m
  induction m with
  | zero =>
    intro j k K hj hk h
    obtain ⟨k, rfl⟩ : ∃ m, k = m + 1 := ⟨k - 1, by omega⟩
    rw [C_r08_OwnDirectory_3]
    refine cond_dec (fun h1 => by omega) (fun h1 => ⟨by unfold room; simp only [List.length_nil]; omega, by unfold room; simp only [List.length_nil]; omega, ?_⟩)
    rw [List.take_of_length_le (by omega)]
    exact h
  | succ m ih =>
    intro j k K hj hk h
    obtain ⟨k, rfl⟩ : ∃ m, k = m + 1 := ⟨k - 1, by omega⟩
    rw [C_r08_OwnDirectory_3]
    simp only [Hold_eq]
    have hj1 : j < us.length := by omega
    have hv := sm.v _ (List.getElem_mem hj1)
    rw [Int.toNat_natCast, getD_at hj1, step64 j (by omega)]
    refine cond_dec (fun h1 => ⟨by omega, by unfold room; omega, by omega, by unfold room; simp only [List.length_take, List.length_cons, List.length_nil]; omega, ?_⟩) (fun h1 => by omega)
    have : us.take j ++ [S_api_User.mk us[j].f0 us[j].f1] = us.take (j + 1) := by rw [List.take_succ_eq_append_getElem hj1]
    rw [this]
    exact ih (j + 1) k (by omega) (by omega) h
theorem own_s (sm : Small us hs ss) (k : Nat) {K : Int → List S_api_User → List S_api_Head → List S_api_Session → Prop} (hk : 5100 ≤ k) (h : K e us hs ss) : F_r08_OwnDirectory k e us hs ss K := by
  obtain ⟨k, rfl⟩ : ∃ m, k = m + 1 := ⟨k - 1, by omega⟩
  have su := sm.u
  rw [F_r08_OwnDirectory]
  simp only [Hold_eq]
  exact own_loop sm us.length 0 k (by omega) (by omega) h
theorem sv_loop {l : List S_api_Version} (hn : l.length ≤ 100000) : ∀ (m j k : Nat) {K : Bool → Prop}, j + m = l.length → m + 5 ≤ k → K true → C_r08_SameVersions_4 k l l (j : Int) K := by
  intro m
  induction m with
  | zero =>
    intro j k K hj hk h
    obtain ⟨k, rfl⟩ : ∃ m, k = m + 1 := ⟨k - 1, by omega⟩
    rw [C_r08_SameVersions_4]
    exact cond_dec (fun h1 => by omega) (fun h1 => h)
  | succ m ih =>
    intro j k K hj hk h
    obtain ⟨k, rfl⟩ : ∃ m, k = m + 1 := ⟨k - 1, by omega⟩
    rw [C_r08_SameVersions_4]
    rw [step64 j (by omega)]
    refine cond_dec (fun h1 => ⟨by omega, by omega, ?_⟩) (fun h1 => by omega)
    simp only [seq, decide_true, Bool.and_self, Bool.not_true, cond_false, Hold_eq]
    exact ih (j + 1) k (by omega) (by omega) h
theorem SameVersions_s (k : Nat) {l : List S_api_Version} {K : Bool → Prop} (hn : l.length ≤ 100000) (hk : l.length + 10 ≤ k) (h : K true) : F_r08_SameVersions k l l K := by
  obtain ⟨k, rfl⟩ : ∃ m, k = m + 1 := ⟨k - 1, by omega⟩
  rw [F_r08_SameVersions]
  simp only [Hold_eq]
  exact cond_ndec (fun g => absurd trivial g) (fun _ => sv_loop hn l.length 0 k (by omega) (by omega) h)
theorem same14 (sm : Small us hs ss) {x y : Int} : ∀ (m j k : Nat) {K : Bool → Prop}, j + m = ss.length → m + 5 ≤ k → K true → C_r08_SameDirectory_14 k (j : Int) x us hs ss y us hs ss K := by
  have s3 := sm.s
  intro m
  induction m with
  | zero =>
    intro j k K hj hk h
    obtain ⟨k, rfl⟩ : ∃ m, k = m + 1 := ⟨k - 1, by omega⟩
    rw [C_r08_SameDirectory_14]
    exact cond_dec (fun h1 => by omega) (fun h1 => h)
  | succ m ih =>
    intro j k K hj hk h
    obtain ⟨k, rfl⟩ : ∃ m, k = m + 1 := ⟨k - 1, by omega⟩
    rw [C_r08_SameDirectory_14]
    rw [step64 j (by omega)]
    refine cond_dec (fun h1 => ⟨by omega, by omega, ?_⟩) (fun h1 => by omega)
    simp only [seq, decide_true, Bool.and_self, Bool.not_true, cond_false, Hold_eq]
    exact ih (j + 1) k (by omega) (by omega) h
theorem same9 (sm : Small us hs ss) {x y : Int} : ∀ (m j k : Nat) {K : Bool → Prop}, j + m = hs.length → m + 5100 ≤ k → K true → C_r08_SameDirectory_9 k (j : Int) x us hs ss y us hs ss K := by
  have s3 := sm.s
  have s2 := sm.h
  intro m
  induction m with
  | zero =>
    intro j k K hj hk h
    obtain ⟨k, rfl⟩ : ∃ m, k = m + 1 := ⟨k - 1, by omega⟩
    rw [C_r08_SameDirectory_9]
    simp only [Hold_eq]
    exact cond_dec (fun h1 => by omega) (fun h1 => same14 sm ss.length 0 k (by omega) (by omega) h)
  | succ m ih =>
    intro j k K hj hk h
    obtain ⟨k, rfl⟩ : ∃ m, k = m + 1 := ⟨k - 1, by omega⟩
    rw [C_r08_SameDirectory_9]
    rw [step64 j (by omega)]
    refine cond_dec (fun h1 => ⟨by omega, by omega, ?_⟩) (fun h1 => by omega)
    simp only [seq, decide_true, Bool.and_self, Bool.not_true, cond_false, Hold_eq]
    exact ih (j + 1) k (by omega) (by omega) h
theorem same4 (sm : Small us hs ss) {x y : Int} : ∀ (m j k : Nat) {K : Bool → Prop}, j + m = us.length → m + 10300 ≤ k → K true → C_r08_SameDirectory_4 k (j : Int) x us hs ss y us hs ss K := by
  have s1 := sm.u
  have s2 := sm.h
  intro m
  induction m with
  | zero =>
    intro j k K hj hk h
    obtain ⟨k, rfl⟩ : ∃ m, k = m + 1 := ⟨k - 1, by omega⟩
    rw [C_r08_SameDirectory_4]
    simp only [Hold_eq]
    exact cond_dec (fun h1 => by omega) (fun h1 => same9 sm hs.length 0 k (by omega) (by omega) h)
  | succ m ih =>
    intro j k K hj hk h
    obtain ⟨k, rfl⟩ : ∃ m, k = m + 1 := ⟨k - 1, by omega⟩
    have hj1 : j < us.length := by omega
    have hv := sm.v _ (List.getElem_mem hj1)
    rw [C_r08_SameDirectory_4]
    rw [step64 j (by omega), Int.toNat_natCast, getD_at hj1]
    refine cond_dec (fun h1 => ⟨by omega, by omega, ?_⟩) (fun h1 => by omega)
    simp only [seq, decide_true, Bool.not_true, cond_false, Hold_eq]
    exact ⟨by omega, by omega, SameVersions_s k (by omega) (by omega) (ih (j + 1) k (by omega) (by omega) h)⟩
theorem same_s (sm : Small us hs ss) (k : Nat) {K : Bool → Prop} (hk : 16000 ≤ k) (h : K true) : F_r08_SameDirectory k e us hs ss e us hs ss K := by
  obtain ⟨k, rfl⟩ : ∃ m, k = m + 1 := ⟨k - 1, by omega⟩
  have s1 := sm.u
  rw [F_r08_SameDirectory]
  simp only [Hold_eq]
  exact cond_ndec (fun g => absurd trivial g) (fun _ => cond_ndec (fun g => absurd trivial g) (fun _ => cond_ndec (fun g => absurd trivial g) (fun _ => cond_ndec (fun g => absurd trivial g) (fun _ => same4 sm us.length 0 k (by omega) (by omega) h))))
end
theorem fresh_s (k : Nat) {K : Bool → Prop} (hk : 900010 ≤ k) (h : K true) : F_l10_fresh k K := by
  obtain ⟨k, rfl⟩ : ∃ m, k = m + 1 := ⟨k - 1, by omega⟩
  rw [F_l10_fresh]
  simp only [Hold_eq]
  have d0 : dirB 0 [] [] [] = true := rfl
  have d1 : dirB (-1) [] [] [] = false := rfl
  refine Check_s k (by simp) (by simp) (by simp) (by simp) (by omega) ?_
  rw [d0, cond_true]
  refine cond_dec (fun _ => ?_) (fun g => absurd rfl g)
  refine Check_s k (by simp) (by simp) (by simp) (by simp) (by omega) ?_
  rw [d1, cond_false]
  refine cond_dec (fun _ => ?_) (fun g => absurd rfl g)
  obtain ⟨k, rfl⟩ : ∃ m, k = m + 1 := ⟨k - 1, by omega⟩
  rw [F_l10_put]
  have m1 : mayC 1 1 1 str1 str2 0 z32 = true := by decide +kernel
  have m0 : mayC 0 0 0 ByteArray.empty ByteArray.empty 0 z32 = false := by decide +kernel
  refine directory_May_s (k + 1) (by omega) ?_
  rw [m1, cond_true]
  refine directory_May_s (k + 1) (by omega) ?_
  rw [m0]
  exact h
theorem l10_Checks (e : Int) (us : List S_api_User) (hs : List S_api_Head) (ss : List S_api_Session) (kd c s : Int) (u key : ByteArray) (ep : Int) (root : List Int) (hh : ∀ h ∈ hs, HeadOk h) :
    ∃ k, F_l10_DirectoryChecks k e us hs ss kd c s u key ep root (fun b => b = true) := by
  suffices h : ∀ k, 1000000 ≤ k → F_l10_DirectoryChecks k e us hs ss kd c s u key ep root (fun b => b = true) from ⟨1000000, h _ (Nat.le_refl _)⟩
  intro k hk
  obtain ⟨k, rfl⟩ : ∃ m, k = m + 1 := ⟨k - 1, by omega⟩
  rw [F_l10_DirectoryChecks]
  simp only [Hold_eq]
  refine large_s k (by omega) fun b hb => ?_
  cases b with
  | true => trivial
  | false =>
    have sm := hb rfl
    have s1 := sm.u
    have s2 := sm.h
    have s3 := sm.s
    have hv : ∀ x ∈ us, x.f1.length ≤ 100000 := fun x hx => Nat.le_trans (sm.v x hx) (by omega)
    rw [cond_false]
    refine own_s sm k (by omega) (Check_s k hv hh (by omega) (by omega) (by omega) (fresh_s k (by omega) ?_))
    rw [cond_true]
    refine Right_s k hv hh (by omega) (by omega) (by omega) ?_
    have last : F_directory_May k kd c s u key ep root (fun r20 => F_r10_May k kd c s u key ep root (fun r21 => cond (r20 == r21) (F_r08_SameDirectory k e us hs ss e us hs ss (fun r22 => r22 = true)) (false = true))) := by
      refine directory_May_s k (by omega) (r10_May_s k (by omega) ?_)
      rw [beq_self_eq_true, cond_true]
      exact same_s sm k (by omega) rfl
    cases hd : dirB e us hs ss
    · exact last
    · exact last
theorem wf_dig {m : Nat} {d : List Int} (h : wf PE (m + 2) (.arr 5 32 d)) : Dig d := ⟨h.1, fun x hx => h.2 x hx⟩
theorem wf_head {m : Nat} {x : S_api_Head} (h : wf PE (m + 4) (PE.enc 50 x)) : HeadOk x := by
  have h : ∀ a ∈ [A.int (U := PU) .i64 x.f0, .arr 5 32 x.f1, .arr 5 32 x.f2], wf PE (m + 3) a := h
  exact ⟨wf_dig (m := m + 1) (h _ (by simp)), wf_dig (m := m + 1) (h _ (by simp))⟩
theorem wf_heads {m : Nat} {x : S_api_Directory} (h : wf PE (m + 6) (PE.enc 26 x)) : ∀ y ∈ x.f2, HeadOk y := by
  have h : ∀ a ∈ [A.int (U := PU) .i64 x.f0, .ro false 42 x.f1, .ro false 50 x.f2, .ro false 53 x.f3], wf PE (m + 5) a := h
  have h0 : wf PE (m + 5) (.ro false 50 x.f2) := h _ (by simp)
  exact fun y hy => wf_head (m := m) (h0.2 y hy)
theorem law_DirectoryChecks (x0 : S_api_Directory) (x1 : S_api_Command) (hw : ∀ m, ∀ a ∈ [PE.enc 26 x0, PE.enc 31 x1], wf PE m a) :
    ∃ k, F_l10_DirectoryChecks k x0.f0 x0.f1 x0.f2 x0.f3 x1.f0 x1.f1 x1.f2 x1.f3 x1.f4 x1.f5 x1.f6 (fun b => b = true) :=
  l10_Checks _ _ _ _ _ _ _ _ _ _ _ (wf_heads (m := 0) (hw 6 _ (List.mem_cons_self ..)))
end Go.V
