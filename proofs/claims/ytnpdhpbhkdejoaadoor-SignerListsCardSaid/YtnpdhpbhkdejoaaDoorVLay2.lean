/- V: a state is laid out anew, on the way through a body. -/
import Derived.Test.YtnpdhpbhkdejoaaDoorVDraw3
set_option linter.unusedVariables false
set_option linter.unusedSimpArgs false
namespace Go.V
variable {U : Nat → Type}
section
variable {E : Env U} {w : World} {St : Bool → Nat → Prop} {N : Nat} {tm : Array Value} {w0 : World} {St0 : Bool → Nat → Prop} {O0 : Nat → Prop} {ι0 : Ini}

theorem addN_prefix (l : List Nat) (n : Nat) : l <+: addN l n := by
  unfold addN
  cases memN n l
  · exact List.prefix_append _ _
  · exact List.prefix_rfl
theorem addNs_prefix : ∀ (r l : List Nat), l <+: addNs l r
  | [], l => List.prefix_rfl
  | n :: r, l => (addN_prefix l n).trans (addNs_prefix r _)
theorem reach_prefix {nm : A U → List Nat} {h : Nat → AObj U} : ∀ (n j : Nat) (l : List Nat), l <+: reach nm h n j l
  | 0, j, l => List.prefix_rfl
  | n + 1, j, l => by
    simp only [reach]
    split
    · exact List.prefix_rfl
    · exact (addNs_prefix _ l).trans (reach_prefix n (j + 1) _)
theorem layG_prefix {h : Nat → AObj U} {n0 : Nat} {first : List Nat} {vs : List (A U)} {x : Laid U} (hx : layG h n0 first vs = some x) : first <+: x.L := by
  unfold layG at hx
  simp only [] at hx
  revert hx
  simp only [Bool.cond_eq_ite]
  split
  · intro hx; cases hx; exact (addNs_prefix _ _).trans (reach_prefix _ _ _)
  · intro hx; cases hx
theorem upto_length : ∀ n, (upto n).length = n
  | 0 => rfl
  | n + 1 => by simp [upto, upto_length n]
theorem upto_get : ∀ (n k : Nat), k < n → (upto n)[k]? = some k
  | 0, k, h => by omega
  | n + 1, k, h => by
    simp only [upto]
    by_cases hk : k < n
    · rw [List.getElem?_append_left (by rw [upto_length]; exact hk)]; exact upto_get n k hk
    · obtain rfl : k = n := by omega
      rw [List.getElem?_append_right (by rw [upto_length]; exact Nat.le_refl _), upto_length]; simp
theorem layG_at {h : Nat → AObj U} {n0 nb : Nat} {vs : List (A U)} {x : Laid U} (hx : layG h n0 (upto nb) vs = some x) : nb ≤ x.L.length ∧ ∀ k, k < nb → x.L[k]? = some k := by
  obtain ⟨r, e⟩ := layG_prefix hx
  rw [← e]
  refine ⟨by rw [List.length_append, upto_length]; omega, fun k hk => ?_⟩
  rw [List.getElem?_append_left (by rw [upto_length]; exact hk)]
  exact upto_get nb k hk

theorem holds_live {ι : Nat → Option Value} {s : S U} (R : Rel E s N tm w ι St) : ∀ live : List Nat, Holds E w St ι (live.map fun d => untup (s.t d)) (live.map fun d => tm.getD d undef)
  | [] => trivial
  | d :: live => by
    refine ⟨?_, holds_live R live⟩
    have := R.tmp d
    show RT E w St ι (untup (s.t d)) (tm.getD d undef)
    revert this
    cases s.t d <;> first | exact id | exact fun _ => trivial


/-- the names that came first stand for what they stood for -/
theorem LaidOk.old {s : S U} {ι ι2 : Nat → Option Value} {us : List Value} {x : Laid U} {vs : List (A U)} (I : Inv E N w0 St0 O0 ι0 s tm w ι St) (L : LaidOk E s N tm w ι St s.nx us x ι2) (hx : layG s.h s.nx (upto s.nb) vs = some x) : ∀ n, n < s.nb → reι x.L ι2 n = ι0.2.1 n := by
  intro n hn
  unfold reι
  rw [(layG_at hx).2 n hn, ← I.old n hn]
  simp only []
  cases hι : ι n with
  | some u => exact L.nm n u hι
  | none =>
    cases hι2 : ι2 n with
    | none => rfl
    | some u =>
      rcases L.new n (by rw [hι2]; simp) with h | h
      · exact absurd hι h
      · have := I.nbx; omega

theorem lay_sound (ok : EnvOk2 E) {s : S U} {ι : Nat → Option Value} (I : Inv E N w0 St0 O0 ι0 s tm w ι St) (hf : ∀ m, s.nx ≤ m → ι m = none) {live : List Nat} {x : List (A U) × List (AObj U)} (hl : lay s live = some x) :
    ∃ ι', Inv E N w0 St0 O0 ι0 (S.ofLay live s.nb x.1 x.2) tm w ι' St ∧ ∀ m, x.2.length ≤ m → ι' m = none := by
  unfold lay at hl
  cases hx : layG s.h s.nx (upto s.nb) (live.map fun d => untup (s.t d)) with
  | none => rw [hx] at hl; cases hl
  | some y =>
    rw [hx] at hl
    simp only [Option.some.injEq] at hl
    subst hl
    have ht : ∀ a ∈ (live.map fun d => untup (s.t d)), noTup a = true := fun a ha => by
      obtain ⟨d, -, rfl⟩ := List.mem_map.1 ha
      exact noTup_untup _
    obtain ⟨ι2, L⟩ := layG_ok ok I.rel hx (holds_live I.rel live) ht (fun m h _ => hf m h)
    have ho := L.old I hx
    refine ⟨reι y.L ι2, ⟨⟨I.rel.tsz, fun d => L.vals.pairUp d, L.heap.obj, L.heap.dis, L.heap.stb, L.heap.apt, L.heap.sup⟩, I.fr, fun B hB => I.own B (L.own B (L.sub B hB)), I.gr, ho, ?_, I.nbe, fun x hx => (fun h => ⟨h.1, fun ho => h.2.1 (L.own _ (L.sub _ ho)), h.2.2⟩) (I.hid x hx), I.hnd⟩, fun m hm => L.out m (by rw [← L.len]; exact hm)⟩
    show s.nb ≤ y.objs.length
    rw [L.len]
    exact (layG_at hx).1
end
end Go.V
