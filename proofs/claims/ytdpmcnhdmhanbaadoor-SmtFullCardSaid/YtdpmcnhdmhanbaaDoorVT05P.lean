/- the chapter's example; the laws without the document's answer -/
import Derived.Test.YtdpmcnhdmhanbaaDoorVT05N
set_option linter.unusedVariables false
set_option linter.unusedSimpArgs false
set_option maxRecDepth 8000
namespace Go.V
theorem dig_ok {d : List Int} (h : (decide (d.length = 32) && d.all fun x => decide (0 ≤ x) && decide (x ≤ 255)) = true) : Dig d := by
  rw [Bool.and_eq_true, List.all_eq_true] at h
  refine ⟨of_decide_eq_true h.1, fun x hx => ?_⟩
  have := h.2 x hx
  rw [Bool.and_eq_true] at this
  exact ⟨of_decide_eq_true this.1, of_decide_eq_true this.2⟩
/-- the sum, for the kernel -/
def shaC (m : List Int) : List Int := digL (match (m ++ tailOf m.length) with
  | l => if l.length = 64 then comp begin8 l else if l.length = 128 then comp (comp begin8 (l.take 64)) (l.drop 64) else [])
theorem shaC1 {m : List Int} (h : (m ++ tailOf m.length).length = 64) : shaL m = shaC m := by
  unfold shaL shaC
  simp only [h, if_true]
  rw [absorb_one h]
theorem shaC2 {m : List Int} (h : (m ++ tailOf m.length).length = 128) : shaL m = shaC m := by
  unfold shaL shaC
  have h0 : ¬ (128 = 64) := by decide
  simp only [h, h0, if_true, if_false]
  rw [absorb_long (by omega), absorb_one (by rw [List.length_drop, h])]
abbrev v5 : List Int := [(5 : Int), (0 : Int), (0 : Int), (0 : Int), (0 : Int), (0 : Int), (0 : Int), (0 : Int), (0 : Int), (0 : Int), (0 : Int), (0 : Int), (0 : Int), (0 : Int), (0 : Int), (0 : Int), (0 : Int), (0 : Int), (0 : Int), (0 : Int), (0 : Int), (0 : Int), (0 : Int), (0 : Int), (0 : Int), (0 : Int), (0 : Int), (0 : Int), (0 : Int), (0 : Int), (0 : Int), (0 : Int)]
abbrev p128 : List Int := [(128 : Int), (0 : Int), (0 : Int), (0 : Int), (0 : Int), (0 : Int), (0 : Int), (0 : Int), (0 : Int), (0 : Int), (0 : Int), (0 : Int), (0 : Int), (0 : Int), (0 : Int), (0 : Int), (0 : Int), (0 : Int), (0 : Int), (0 : Int), (0 : Int), (0 : Int), (0 : Int), (0 : Int), (0 : Int), (0 : Int), (0 : Int), (0 : Int), (0 : Int), (0 : Int), (0 : Int), (0 : Int)]
abbrev v6 : List Int := [(6 : Int), (0 : Int), (0 : Int), (0 : Int), (0 : Int), (0 : Int), (0 : Int), (0 : Int), (0 : Int), (0 : Int), (0 : Int), (0 : Int), (0 : Int), (0 : Int), (0 : Int), (0 : Int), (0 : Int), (0 : Int), (0 : Int), (0 : Int), (0 : Int), (0 : Int), (0 : Int), (0 : Int), (0 : Int), (0 : Int), (0 : Int), (0 : Int), (0 : Int), (0 : Int), (0 : Int), (0 : Int)]
abbrev lfA : S_api_Leaf := ⟨List.replicate 32 0, v5⟩
abbrev lfB : S_api_Leaf := ⟨p128, v6⟩
theorem v5_dig : Dig v5 := dig_ok (by decide +kernel)
theorem v6_dig : Dig v6 := dig_ok (by decide +kernel)
theorem p128_dig : Dig p128 := dig_ok (by decide +kernel)
theorem lA_dig : Dig lfA.f0 ∧ Dig lfA.f1 := ⟨Dig.zero, v5_dig⟩
theorem lB_dig : Dig lfB.f0 ∧ Dig lfB.f1 := ⟨p128_dig, v6_dig⟩
theorem LDig.cons {x : S_api_Leaf} {l : List S_api_Leaf} (hx : Dig x.f0 ∧ Dig x.f1) (h : LDig l) : LDig (x :: l) := List.forall_mem_cons.2 ⟨hx, h⟩
theorem a_s (k : Nat) {K : List Int → List Int → Prop} (hk : 1 ≤ k) (h : K (List.replicate 32 0) v5) : F_l05_a k K := by
  obtain ⟨k, rfl⟩ : ∃ m, k = m + 1 := ⟨k - 1, by omega⟩
  rw [F_l05_a]; exact h
theorem b_s (k : Nat) {K : List Int → List Int → Prop} (hk : 1 ≤ k) (h : K p128 v6) : F_l05_b k K := by
  obtain ⟨k, rfl⟩ : ∃ m, k = m + 1 := ⟨k - 1, by omega⟩
  rw [F_l05_b]; exact h
theorem eA : rootE 32 [lfA] = 0 := by decide +kernel
theorem eBA : rootE 32 [lfB, lfA] = 0 := by decide +kernel
theorem eAA : rootE 32 [lfA, lfA] = 30 := by decide +kernel
theorem eN : rootE 32 [] = 0 := by decide +kernel
theorem rA : rootR 32 [lfA] = rootL 32 [lfA] := by unfold rootR; rw [if_pos eA]
theorem rN : rootR 32 [] = digT 32 .nil := by unfold rootR; rw [if_pos eN]; rfl
theorem rBA : rootR 32 [lfB, lfA] = shortL 32 (1 :: (rootL 32 [lfA] ++ rootL 32 [lfB])) := by
  unfold rootR
  rw [if_pos eBA]
  unfold rootL
  rw [dig_two (m := 255) (n := 0) (q := []) rfl (.of (LDig.cons lB_dig (LDig.cons lA_dig LDig.nil)) (by decide +kernel) []) (by decide)]
  have h0 : halfL [lfB, lfA] 0 0 = [lfA] := by unfold halfL; rw [List.filter_cons, if_neg (by decide +kernel), List.filter_cons, if_pos (by decide +kernel)]; rfl
  have h1 : halfL [lfB, lfA] 0 1 = [lfB] := by unfold halfL; rw [List.filter_cons, if_pos (by decide +kernel), List.filter_cons, if_neg (by decide +kernel)]; rfl
  rw [h0, h1, bld_one, bld_one, bld_one, bld_one]
  rfl
theorem ne1 : ¬ digT 32 .nil = rootL 32 [lfA] := by
  unfold rootL
  rw [bld_one]
  show ¬ shortL 32 [2] = shortL 32 (0 :: (lfA.f0 ++ lfA.f1))
  unfold shortL
  rw [shaC1 (by decide +kernel), shaC2 (by decide +kernel)]
  decide +kernel
theorem roots_s (k : Nat) {K : Bool → Prop} (hk : 10020 ≤ k) (h : K true) : F_l05_roots k K := by
  obtain ⟨k, rfl⟩ : ∃ m, k = m + 1 := ⟨k - 1, by omega⟩
  have w32 : (0 : Int) ≤ 32 ∧ (32 : Int) ≤ 32 := by decide
  rw [F_l05_roots]
  simp only [Hold_eq]
  refine a_s k (by omega) (Root_s k (LDig.cons lA_dig LDig.nil) (by omega) (b_s k (by omega) (a_s k (by omega) (Root_s k (LDig.cons lB_dig (LDig.cons lA_dig LDig.nil)) (by omega)
    (a_s k (by omega) (a_s k (by omega) (Root_s k (LDig.cons lA_dig (LDig.cons lA_dig LDig.nil)) (by omega) (Root_s k LDig.nil (by omega) ?_))))))))
  rw [eA, eBA, eAA, eN, rA, rN, rBA]
  refine cond_dec (fun _ => ?_) (fun e => absurd rfl e)
  refine a_s k (by omega) (Leaf_i k w32 Dig.zero v5_dig (by omega) ?_)
  refine cond_dec (fun _ => cond_dec (fun _ => ?_) (fun e => absurd rfl e)) (fun e => absurd rfl e)
  refine a_s k (by omega) (Leaf_i k w32 Dig.zero v5_dig (by omega) (b_s k (by omega) (Leaf_i k w32 p128_dig v6_dig (by omega) ?_)))
  refine Node_i k w32 (rootL_dig w32 [lfA]) (rootL_dig w32 [lfB]) (by omega) ?_
  refine cond_dec (fun _ => cond_dec (fun _ => cond_dec (fun _ => ?_) (fun e => absurd rfl e)) (fun e => absurd rfl e)) (fun e => absurd rfl e)
  refine Empty_i k w32 (by omega) (cond_dec (fun _ => ?_) (fun e => absurd rfl e))
  rw [decide_eq_false ne1]
  exact h
theorem gAB : setE [] [lfA, lfB] = 0 := by rw [setE_nil]; decide +kernel
theorem grows_s (k : Nat) {K : Bool → Prop} (hk : 10020 ≤ k) (h : K true) : F_l05_grows k K := by
  obtain ⟨k, rfl⟩ : ∃ m, k = m + 2 := ⟨k - 2, by omega⟩
  have w32 : (0 : Int) ≤ 32 ∧ (32 : Int) ≤ 32 := by decide
  have hAB : LDig [lfA, lfB] := LDig.cons lA_dig (LDig.cons lB_dig LDig.nil)
  have hA : LDig [lfA] := LDig.cons lA_dig LDig.nil
  rw [F_l05_grows]
  simp only [Hold_eq]
  refine New_s (k + 1) (by omega) (fun e => absurd w32 e) (fun _ => ?_)
  rw [C_l05_grows_2_1]
  simp only [Hold_eq, decide_true, Bool.not_true, cond_false]
  refine a_s k (by omega) (b_s k (by omega) (Set_sB k (b := []) rfl LDig.nil Dst.nil hAB (by decide) (by omega) ?_))
  rw [setN_nil gAB, gAB]
  refine b_s k (by omega) (Drop_s k hAB (by decide +kernel) p128_dig (by decide) (by omega) ?_)
  have r1 : remL [lfA, lfB] p128 = [lfA] := by
    unfold remL
    rw [List.filter_cons, if_pos (by decide +kernel), List.filter_cons, if_neg (by decide +kernel)]; rfl
  have g1 : (getL [lfA, lfB] p128).isSome = true := by decide +kernel
  have g2 : (getL [lfA] p128).isSome = false := by decide +kernel
  rw [r1, g1]
  refine b_s k (by omega) (Get_s k hA (by decide +kernel) p128_dig (by omega) ?_)
  rw [g2]
  simp only [decide_true, cond_true, Bool.not_false]
  refine Len_s k (by omega) ?_
  refine cond_dec (fun _ => ?_) (fun e => absurd rfl e)
  refine Root1_s k w32 hA (by omega) (a_s k (by omega) (Leaf_i k w32 Dig.zero v5_dig (by omega) ?_))
  rw [decide_eq_true rfl]
  exact h
theorem both_s (k : Nat) {K : Bool → Prop} (hk : 10020 ≤ k) (h : K true) : F_l05_grows k (fun b => cond b (F_l05_roots k fun c => K c) (K false)) := grows_s k hk (roots_s k hk h)
-- no tree
theorem l05_Nil (k : Nat) {l : List S_api_Leaf} {p : List Int} {K : Bool → Prop} (hk : 10100 ≤ k) (h : K true) : F_l05_SmtNil k l p K := by
  obtain ⟨k, rfl⟩ : ∃ m, k = m + 2 := ⟨k - 2, by omega⟩
  rw [F_l05_SmtNil]
  simp only [Hold_eq]
  rw [F_smt_Tree_Get_s1]
  refine grows_s (k + 1) (by omega) ?_
  simp only [cond_true]
  rw [F_smt_Tree_Set]
  simp only [decide_true, cond_true]
  rw [F_smt_Tree_Drop_s1]
  simp only [Hold_eq]
  cases k with
  | zero => omega
  | succ k =>
  rw [F_smt_Tree_Get_s1]
  simp only [decide_true, cond_true, cond_false, Bool.not_false]
  rw [F_smt_Tree_Len_s1]
  simp only [decide_true, cond_true, cond_false, Bool.not_false]
  rw [F_smt_Tree_Leaves]
  simp only [List.length_nil, decide_true, cond_true, cond_false, Bool.not_false]
  rw [show decide (((0 : Nat) : Int) = 0) = true by decide, cond_true, F_smt_Tree_Root]
  exact h
-- a leaf that comes and goes
theorem l05_Back (k : Nat) {w : Int} {l : List S_api_Leaf} {p v : List Int} {K : Bool → Prop} (hl : LDig l) (hp : Dig p) (hv : Dig v) (hk : 10100 ≤ k) (h : K true) : F_l05_SmtBack k w l p v K := by
  obtain ⟨k, rfl⟩ : ∃ m, k = m + 2 := ⟨k - 2, by omega⟩
  rw [F_l05_SmtBack]
  simp only [Hold_eq]
  refine cond_dec (fun _ => h) (fun hn => ?_)
  refine New_s (k + 1) (by omega) (fun e => ?_) (fun hw => ?_)
  · rw [C_l05_SmtBack_4]
    simp only [Hold_eq]
    exact both_s k (by omega) h
  rw [C_l05_SmtBack_4_1]
  simp only [Hold_eq, decide_true, Bool.not_true, cond_false]
  refine Set_sA k (b := []) LDig.nil Dst.nil hl (by decide) (by omega) ?_
  refine cond_ndec (fun e => both_s k (by omega) h) (fun e => ?_)
  have hd : Dst l := by
    rw [setE_nil, if_neg (by omega)] at e
    exact Decidable.not_not.1 fun g => by rw [if_pos g] at e; cases e
  rw [setN_nil e]
  refine Root1_s k hw hl (by omega) (Get_s k hl hd hp (by omega) ?_)
  refine cond_b (fun g => both_s k (by omega) h) (fun g => ?_)
  have hx : LDig [⟨p, v⟩] := LDig.cons ⟨hp, hv⟩ LDig.nil
  have g' := getL_none.1 g
  have hd' : Dst (l ++ [⟨p, v⟩]) := by
    unfold Dst
    rw [List.pairwise_append]
    exact ⟨hd, List.pairwise_singleton _ _, fun a ha b hb => by obtain rfl := List.mem_singleton.1 hb; exact g' a ha⟩
  have hl' : LDig (l ++ [⟨p, v⟩]) := fun y hy => (List.mem_append.1 hy).elim (hl y) (hx y)
  have e' : setE l [⟨p, v⟩] = 0 := setE_new hd' (by simp; omega)
  have n' : setN l [⟨p, v⟩] = l ++ [⟨p, v⟩] := by unfold setN; rw [if_pos e', setL_new _ _ hd']
  refine Set_sB k rfl hl hd hx (by omega) (by omega) ?_
  rw [e', n']
  refine cond_ndec (fun e => absurd rfl e) (fun _ => ?_)
  refine Get_s k hl' hd' hp (by omega) ?_
  have gg : getL (l ++ [⟨p, v⟩]) p = some v := by
    unfold getL
    rw [List.find?_append, List.find?_eq_none.2 (by simpa using g')]
    simp
  rw [gg]
  show cond (!true) _ _
  rw [Bool.not_true, cond_false]
  refine cond_ndec (fun e => absurd rfl e) (fun _ => ?_)
  refine Len_s k (by omega) ?_
  refine cond_ndec (fun e => absurd ?_ e) (fun _ => ?_)
  · rw [wrap64 (by omega)]; simp
  refine grows_s k (by omega) ?_
  rw [cond_true]
  refine roots_s k (by omega) ?_
  rw [cond_true]
  have rr : remL (l ++ [⟨p, v⟩]) p = l := by
    unfold remL
    rw [List.filter_append, List.filter_eq_self.2 (by simpa using g')]
    simp
  refine Drop_s k hl' hd' hp (by simp; omega) (by omega) ?_
  rw [gg, rr]
  show cond true _ _
  rw [cond_true]
  refine Root1_s k hw hl (by omega) (cond_dec (fun _ => ?_) (fun e => absurd rfl e))
  refine Len_s k (by omega) ?_
  rw [decide_eq_true rfl]
  exact h
end Go.V
