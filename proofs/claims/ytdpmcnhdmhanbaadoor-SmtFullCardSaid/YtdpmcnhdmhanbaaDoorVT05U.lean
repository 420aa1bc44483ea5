/- a full tree -/
import Derived.Test.YtdpmcnhdmhanbaaDoorVT05Q
set_option linter.unusedVariables false
set_option linter.unusedSimpArgs false
set_option maxRecDepth 8000
namespace Go.V
theorem Width_s (k : Nat) {w : Int} {K : Bool → Prop} (hk : 1 ≤ k) (h : K (decide (0 ≤ w ∧ w ≤ 32))) : F_r05_Width k w K := by
  obtain ⟨k, rfl⟩ : ∃ m, k = m + 1 := ⟨k - 1, by omega⟩
  rw [F_r05_Width]
  refine cond_dec (fun h1 => ?_) (fun h1 => ?_)
  · simpa [h1] using h
  · simpa [h1] using h
abbrev d3 (a b c : Int) : List Int := [a, b, c, (0 : Int), (0 : Int), (0 : Int), (0 : Int), (0 : Int), (0 : Int), (0 : Int), (0 : Int), (0 : Int), (0 : Int), (0 : Int), (0 : Int), (0 : Int), (0 : Int), (0 : Int), (0 : Int), (0 : Int), (0 : Int), (0 : Int), (0 : Int), (0 : Int), (0 : Int), (0 : Int), (0 : Int), (0 : Int), (0 : Int), (0 : Int), (0 : Int), (0 : Int)]
def lfN (i : Nat) : S_api_Leaf := ⟨d3 ((i / 16 : Nat) : Int) ((16 * (i % 16) : Nat) : Int) 1, d3 (IntKind.u8.wrap (i : Int)) 2 0⟩
def fullL (n : Nat) : List S_api_Leaf := (List.range n).map lfN
theorem d3_dig {a b c : Int} (ha : 0 ≤ a ∧ a ≤ 255) (hb : 0 ≤ b ∧ b ≤ 255) (hc : 0 ≤ c ∧ c ≤ 255) : Dig (d3 a b c) :=
  ⟨rfl, B8.cons ha (B8.cons hb (B8.cons hc fun x hx => by
    have : x = 0 := List.eq_of_mem_replicate (n := 29) hx
    omega))⟩
theorem full_dig : LDig (fullL 4096) := by
  intro x hx
  obtain ⟨i, hi, rfl⟩ := List.mem_map.1 hx
  have := List.mem_range.1 hi
  exact ⟨d3_dig (by omega) (by omega) (by omega), d3_dig (wrap8_B _) (by omega) (by omega)⟩
theorem full_len (n : Nat) : (fullL n).length = n := by unfold fullL; rw [List.length_map, List.length_range]
theorem full_dst : Dst (fullL 4096) := by
  unfold Dst fullL
  rw [List.pairwise_map]
  refine List.Pairwise.imp ?_ List.nodup_range
  intro i j hij e
  have e : d3 ((i / 16 : Nat) : Int) ((16 * (i % 16) : Nat) : Int) 1 = d3 ((j / 16 : Nat) : Int) ((16 * (j % 16) : Nat) : Int) 1 := e
  injection e with e1 e2
  injection e2 with e2 _
  omega
theorem full_loop {N : Nat} (hN : N ≤ 4096) {K : List S_api_Leaf → Prop} (h : K (fullL N)) : ∀ (m j k : Nat), j + m = N → m + 1 ≤ k → C_l05_full_3 k (N : Int) (j : Int) (fullL j) K := by
  intro m
  induction m with
  | zero =>
    intro j k hj hk
    obtain ⟨k, rfl⟩ : ∃ m, k = m + 1 := ⟨k - 1, by omega⟩
    rw [C_l05_full_3]
    simp only [Hold_eq]
    refine cond_dec (fun e => by omega) (fun e => ?_)
    obtain rfl : j = N := by omega
    exact h
  | succ m ih =>
    intro j k hj hk
    obtain ⟨k, rfl⟩ : ∃ m, k = m + 1 := ⟨k - 1, by omega⟩
    rw [C_l05_full_3]
    simp only [Hold_eq]
    refine cond_dec (fun e => ?_) (fun e => by omega)
    rw [show Int.tdiv (j : Int) 16 = ((j / 16 : Nat) : Int) from rfl, show Int.tmod (j : Int) 16 = ((j % 16 : Nat) : Int) from rfl, wrap64 (n := ((j / 16 : Nat) : Int)) (by omega), wrap8 (n := ((j / 16 : Nat) : Int)) (by omega),
      show (16 : Int) * ((j % 16 : Nat) : Int) = ((16 * (j % 16) : Nat) : Int) by omega, wrap64 (n := ((16 * (j % 16) : Nat) : Int)) (by omega), wrap8 (n := ((16 * (j % 16) : Nat) : Int)) (by omega), step64 j (by omega)]
    refine ⟨by decide, by decide, by unfold room; rw [full_len]; simp; omega, ?_⟩
    have := ih (j + 1) k (by omega) (by omega)
    rw [show fullL (j + 1) = fullL j ++ [lfN j] by unfold fullL; rw [List.range_succ, List.map_append]; rfl] at this
    exact this
theorem full_s (k : Nat) {K : List S_api_Leaf → Prop} (hk : 4100 ≤ k) (h : K (fullL 4096)) : F_l05_full k 4096 K := by
  obtain ⟨k, rfl⟩ : ∃ m, k = m + 1 := ⟨k - 1, by omega⟩
  rw [F_l05_full]
  simp only [Hold_eq]
  exact full_loop (N := 4096) (by omega) h 4096 0 k (by omega) (by omega)
theorem get_ins (l : List S_api_Leaf) (x : S_api_Leaf) : getL (insL l x) x.f0 = some x.f1 := by
  unfold getL insL
  rw [List.find?_append, List.find?_eq_none.2]
  · simp
  · intro y hy
    have := (List.mem_filter.1 hy).2
    simpa using this
theorem l05_Full (k : Nat) {w : Int} {p v : List Int} {K : Bool → Prop} (hp : Dig p) (hv : Dig v) (hk : 20000 ≤ k) (h : K true) : F_l05_SmtFull k w p v K := by
  obtain ⟨k, rfl⟩ : ∃ m, k = m + 2 := ⟨k - 2, by omega⟩
  rw [F_l05_SmtFull]
  simp only [Hold_eq]
  refine New_s (k + 1) (by omega) (fun hw => ?_) (fun hw => ?_)
  · rw [C_l05_SmtFull_2]
    simp only [Hold_eq]
    refine roots_s k (by omega) ?_
    simp only [cond_true, decide_true]
    refine Width_s k (by omega) ?_
    rw [decide_eq_false hw]
    exact h
  rw [C_l05_SmtFull_2_1]
  simp only [Hold_eq, decide_true, Bool.not_true, cond_false]
  refine full_s k (by omega) ?_
  have hL := full_dig
  have dL := full_dst
  have nL := full_len 4096
  generalize fullL 4096 = L at hL dL nL
  have n1 : (cut L (Int.toNat 0) (Int.toNat (3000 - 0))).length = 3000 := by
    show (cut L 0 3000).length = 3000
    unfold cut; rw [List.length_take, List.length_drop]; omega
  have n2 : (cut L (Int.toNat 3000) (Int.toNat ((L.length : Int) - 3000))).length = 1096 := by
    rw [nL]
    show (cut L 3000 1096).length = 1096
    unfold cut; rw [List.length_take, List.length_drop]; omega
  have eL : cut L (Int.toNat 0) (Int.toNat (3000 - 0)) ++ cut L (Int.toNat 3000) (Int.toNat ((L.length : Int) - 3000)) = L := by
    rw [nL]
    show cut L 0 3000 ++ cut L 3000 1096 = L
    unfold cut
    rw [List.drop_zero, List.take_of_length_le (l := L.drop 3000) (by rw [List.length_drop]; omega), List.take_append_drop]
  refine ⟨⟨by omega, by omega, by omega⟩, ?_⟩
  have hc : Int.toNat (3000 - 0) = 3000 := rfl
  have hc2 : Int.toNat ((L.length : Int) - 3000) = 1096 := by rw [nL]; rfl
  generalize e1 : cut L (Int.toNat 0) (Int.toNat (3000 - 0)) = L1 at n1 eL
  generalize e2 : cut L (Int.toNat 3000) (Int.toNat ((L.length : Int) - 3000)) = L2 at n2 eL
  have hL1 : LDig L1 := fun y hy => hL y (by rw [← eL]; simp [hy])
  have hL2 : LDig L2 := fun y hy => hL y (by rw [← eL]; simp [hy])
  have dL' : Dst (L1 ++ L2) := by rw [eL]; exact dL
  have dL1 : Dst L1 := by unfold Dst at dL'; rw [List.pairwise_append] at dL'; exact dL'.1
  have z1 : setE [] L1 = 0 := by rw [setE_nil, if_neg (by omega), if_neg (not_not_intro dL1)]
  have z2 : setE L1 L2 = 0 := setE_new dL' (by rw [eL]; omega)
  have m2 : setN L1 L2 = L := by unfold setN; rw [if_pos z2, setL_new _ _ dL', eL]
  refine Set_sC k (b := []) e1 (by rw [n1, hc]) LDig.nil Dst.nil hL1 (by decide) (by omega) ?_
  rw [z1, setN_nil z1]
  refine ⟨⟨by omega, by omega, by omega⟩, ?_⟩
  refine Set_sC k e2 (by rw [n2, hc2]) hL1 dL1 hL2 (by omega) (by omega) ?_
  rw [z2, m2]
  refine Root_s k hL (by omega) ?_
  have er : rootE w L = 0 := by unfold rootE; rw [if_neg (not_not_intro hw), if_neg (by omega), if_neg (not_not_intro dL)]
  have rr : rootR w L = rootL w L := by unfold rootR; rw [if_pos er]
  rw [er, rr]
  refine cond_ndec (fun e => absurd rfl e) (fun _ => cond_ndec (fun e => absurd rfl e) (fun _ => cond_ndec (fun e => absurd rfl e) (fun _ => ?_)))
  refine Root1_s k hw hL (by omega) (cond_ndec (fun e => absurd rfl e) (fun _ => ?_))
  refine Len_s k (by omega) (cond_ndec (fun e => absurd (by omega) e) (fun _ => ?_))
  refine Get_s k hL dL hp (by omega) ?_
  have hx : LDig [⟨p, v⟩] := LDig.cons ⟨hp, hv⟩ LDig.nil
  refine Set_sB k rfl hL dL hx (by omega) (by omega) ?_
  have il := ins_len dL ⟨p, v⟩
  have s1 : setL L [⟨p, v⟩] = insL L ⟨p, v⟩ := rfl
  refine cond_nb (fun g => ?_) (fun g => ?_)
  · have il : (insL L ⟨p, v⟩).length = 4097 := by rw [il, show (getL L (S_api_Leaf.mk p v).f0).isSome = false from g, nL]; rfl
    have e2 : setE L [⟨p, v⟩] = 2 := by
      rw [setE_end (List.pairwise_singleton _ _) (by simp), s1, il]; rfl
    have n2 : setN L [⟨p, v⟩] = L := by unfold setN; rw [e2]; rfl
    rw [e2, n2]
    refine cond_dec (fun _ => ?_) (fun e => absurd rfl e)
    refine Root1_s k hw hL (by omega) (cond_dec (fun _ => ?_) (fun e => absurd rfl e))
    refine Len_s k (by omega) (cond_dec (fun _ => ?_) (fun e => absurd (by omega) e))
    exact both_s k (by omega) h
  · have il : (insL L ⟨p, v⟩).length = 4096 := by rw [il, show (getL L (S_api_Leaf.mk p v).f0).isSome = true from g, nL]; rfl
    have e2 : setE L [⟨p, v⟩] = 0 := by
      rw [setE_end (List.pairwise_singleton _ _) (by simp), s1, il]; rfl
    have n2 : setN L [⟨p, v⟩] = insL L ⟨p, v⟩ := by unfold setN; rw [e2]; rfl
    rw [e2, n2]
    have hi := hL.ins (x := ⟨p, v⟩) ⟨hp, hv⟩
    refine Get_s k hi (dL.ins _) hp (by omega) ?_
    rw [show getL (insL L ⟨p, v⟩) p = some v from get_ins L ⟨p, v⟩]
    refine cond_dec (fun _ => ?_) (fun e => absurd rfl e)
    rw [Option.isSome_some, cond_true]
    refine cond_dec (fun _ => ?_) (fun e => absurd rfl e)
    refine Len_s k (by omega) (cond_dec (fun _ => ?_) (fun e => absurd (by omega) e))
    exact both_s k (by omega) h
end Go.V
