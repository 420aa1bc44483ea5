/- V: a state is laid out anew. -/
import Derived.Test.YtnpdhpbhkdejoaaDoorVCall2
set_option linter.unusedVariables false
set_option linter.unusedSimpArgs false
namespace Go.V
variable {U : Nat → Type}
theorem memN_iff {n : Nat} : ∀ {l : List Nat}, memN n l = true ↔ n ∈ l
  | [] => by simp [memN]
  | m :: l => by
    simp only [memN, Bool.or_eq_true, List.mem_cons, memN_iff (l := l)]
    constructor
    · rintro (h | h)
      · exact .inl (Nat.eq_of_beq_eq_true h).symm
      · exact .inr h
    · rintro (h | h)
      · exact .inl (by rw [h]; exact Nat.beq_refl m)
      · exact .inr h
theorem memN_false {n : Nat} {l : List Nat} : memN n l = false ↔ n ∉ l := by
  rw [← memN_iff]; simp
theorem upds_notin {α : Type} {f : Nat → α} {n : Nat} : ∀ {l : List (Nat × α)}, n ∉ l.map (·.1) → upds f l n = f n := by
  intro l
  induction l generalizing f with
  | nil => intro _; rfl
  | cons x l ih =>
    intro h
    simp only [List.map_cons, List.mem_cons, not_or] at h
    simp only [upds]
    rw [ih h.2, upd_ne _ _ h.1]
section
variable {E : Env U} {w : World} {St : Bool → Nat → Prop} {N : Nat} {tm : Array Value}

theorem Rel.dead {s : S U} {ι : Nat → Option Value} {tm : Array Value} (R : Rel E s N tm w ι St) {n : Nat} (h : ι n = none) : isLive (s.h n) = false := by
  have h0 := R.obj n
  rw [h] at h0
  cases hn : s.h n with
  | dead => rfl
  | lp lf lid live vals j => rw [hn] at h0; obtain ⟨r, L, e, -⟩ := h0; simp at e
  | fz c l => rfl
  | box q => rw [hn] at h0; obtain ⟨B, cs, e, -⟩ := h0; simp at e
  | lst c l => rw [hn] at h0; rcases h0 with ⟨e, -⟩ | ⟨B, off, cap, ds, e, -⟩ <;> simp at e

mutual
theorem denil_le : ∀ (q : A U) (n : Nat), n ≤ (denil q n).2.2
  | .nils c, n => by simp [denil]
  | .agg l, n => by simpa [denil] using denils_le l n
  | .usl c xs, n => Nat.le_refl _
  | .tup l, n => Nat.le_refl _
  | .clo f l, n => Nat.le_refl _
  | .none, n => Nat.le_refl _
  | .own m, n => Nat.le_refl _
  | .sub m c i len, n => Nat.le_refl _
  | .bsl m p c M i len, n => Nat.le_refl _
  | .ptr m p, n => Nat.le_refl _
  | .yld m, n => Nat.le_refl _
  | .int k m, n => Nat.le_refl _
  | .bool k, n => Nat.le_refl _
  | .str k, n => Nat.le_refl _
  | .nilp, n => Nat.le_refl _
  | .nilf, n => Nat.le_refl _
  | .arr c k xs, n => Nat.le_refl _
  | .ro g c xs, n => Nat.le_refl _
  | .clip g c xs, n => Nat.le_refl _
  | .rp g c xs i p, n => Nat.le_refl _
theorem denils_le : ∀ (q : List (A U)) (n : Nat), n ≤ (denils q n).2.2
  | [], n => Nat.le_refl _
  | q :: l, n => by simpa [denils] using Nat.le_trans (denil_le q n) (denils_le l _)
end

theorem Named.trans {s : S U} {ι ι1 ι2 : Nat → Option Value} {wr1 wr2 : List (Nat × AObj U)} {M n1 n2 n3 : Nat} (h1 : Named E s N tm w ι St wr1 M n1 n2 [] ι1) (h2 : Named E { s with h := upds s.h wr1 } N tm w ι1 St wr2 M n2 n3 [] ι2) :
    Named E s N tm w ι St (wr1 ++ wr2) M n1 n3 [] ι2 := by
  refine ⟨?_, fun m v h => h2.nm m v (h1.nm m v h), fun m h => ?_, Nat.le_trans h1.le h2.le, fun m h hm => ?_, fun B h => ?_⟩
  · rw [upds_append]; exact h2.rel
  · rcases h2.new m h with h | h
    · exact (h1.new m h).imp id fun h => ⟨h.1, Nat.lt_of_lt_of_le h.2 h2.le⟩
    · exact .inr ⟨Nat.le_trans h1.le h.1, h.2⟩
  · rw [upds_append]; exact h2.free m h hm
  · rw [upds_append] at h
    rcases h2.own B h with h | h
    · exact h1.own B h
    · cases h

theorem nils_named {s : S U} {ι : Nat → Option Value} {M n : Nat} (c : Nat) (R : Rel E s N tm w ι St) (hf : ∀ m, n ≤ m → m < M → ι m = none ∧ isLive (s.h m) = false) (hM : n + 1 ≤ M) :
    Named E s N tm w ι St [(n, .lst c [])] M n (n + 1) [] (upd ι n (some (.slice .none 0 0))) := by
  obtain ⟨f1, f2⟩ := hf n (Nat.le_refl _) (by omega)
  have R1 := R.adopt n (.lst c []) (.slice .none 0 0) f2 (.inl f1) (.inl ⟨⟨_, rfl⟩, rfl⟩) (fun B _ h => by simp [blk, base] at h)
  have hnm : ∀ m v, ι m = some v → upd ι n (some (.slice .none 0 0)) m = some v := fun m v h => by
    by_cases e : m = n
    · subst e; rw [f1] at h; simp at h
    · rw [upd_ne _ _ e]; exact h
  refine ⟨R1, hnm, fun m h => ?_, by omega, fun m h hm => ?_, fun B hB2 => ?_⟩
  · by_cases e : m = n
    · exact .inr (by omega)
    · rw [upd_ne _ _ e] at h; exact .inl h
  · have e : m ≠ n := by omega
    simp only [upds, upd_ne _ _ e]
    exact hf m (by omega) hm
  · obtain ⟨m, h1, h2⟩ := hB2
    by_cases e : m = n
    · subst e; rw [upd_same] at h2; simp [blkO, blk, base] at h2
    · rw [upd_ne _ _ e] at h2
      simp only [upds, upd_ne _ _ e] at h1
      exact .inl ⟨m, h1, h2⟩

mutual
theorem denil_ok : ∀ (q : A U) {s : S U} {ι : Nat → Option Value} {cs : List Value} {M n : Nat}, Rel E s N tm w ι St → RC E w St ι [q] cs [] → (∀ m, n ≤ m → m < M → ι m = none ∧ isLive (s.h m) = false) → (denil q n).2.2 ≤ M →
    ∃ ι', Named E s N tm w ι St (denil q n).2.1 M n (denil q n).2.2 [] ι' ∧ RC E w St ι' [(denil q n).1] cs [] ∧ isAgg (denil q n).1 = isAgg q ∧ size E.sz (denil q n).1 = size E.sz q
  | .nils c, s, ι, cs, M, n, R, hc, hf, hM => by
    simp only [denil] at hM ⊢
    refine ⟨_, nils_named c R hf hM, ?_, rfl, rfl⟩
    cases hc; rename_i hn; cases hn
    exact .own (upd_same _ _ _) .nil
  | .agg l, s, ι, cs, M, n, R, hc, hf, hM => by
    simp only [denil] at hM ⊢
    obtain ⟨ι', h1, h2, h3⟩ := denils_ok l R hc.agg_inv hf hM
    exact ⟨ι', h1, by simpa using RC.agg h2 .nil, rfl, by simp only [size]; exact sizes_of h3⟩
  | .usl c xs, s, ι, cs, M, n, R, hc, hf, hM => ⟨ι, Named.refl R hf, hc, rfl, rfl⟩
  | .tup l, s, ι, cs, M, n, R, hc, hf, hM => ⟨ι, Named.refl R hf, hc, rfl, rfl⟩
  | .clo f l, s, ι, cs, M, n, R, hc, hf, hM => ⟨ι, Named.refl R hf, hc, rfl, rfl⟩
  | .none, s, ι, cs, M, n, R, hc, hf, hM => ⟨ι, Named.refl R hf, hc, rfl, rfl⟩
  | .own m, s, ι, cs, M, n, R, hc, hf, hM => ⟨ι, Named.refl R hf, hc, rfl, rfl⟩
  | .sub m c i len, s, ι, cs, M, n, R, hc, hf, hM => ⟨ι, Named.refl R hf, hc, rfl, rfl⟩
  | .bsl m p c M' i len, s, ι, cs, M, n, R, hc, hf, hM => ⟨ι, Named.refl R hf, hc, rfl, rfl⟩
  | .ptr m p, s, ι, cs, M, n, R, hc, hf, hM => ⟨ι, Named.refl R hf, hc, rfl, rfl⟩
  | .yld m, s, ι, cs, M, n, R, hc, hf, hM => ⟨ι, Named.refl R hf, hc, rfl, rfl⟩
  | .int k m, s, ι, cs, M, n, R, hc, hf, hM => ⟨ι, Named.refl R hf, hc, rfl, rfl⟩
  | .bool k, s, ι, cs, M, n, R, hc, hf, hM => ⟨ι, Named.refl R hf, hc, rfl, rfl⟩
  | .str k, s, ι, cs, M, n, R, hc, hf, hM => ⟨ι, Named.refl R hf, hc, rfl, rfl⟩
  | .nilp, s, ι, cs, M, n, R, hc, hf, hM => ⟨ι, Named.refl R hf, hc, rfl, rfl⟩
  | .nilf, s, ι, cs, M, n, R, hc, hf, hM => ⟨ι, Named.refl R hf, hc, rfl, rfl⟩
  | .arr c k xs, s, ι, cs, M, n, R, hc, hf, hM => ⟨ι, Named.refl R hf, hc, rfl, rfl⟩
  | .ro g c xs, s, ι, cs, M, n, R, hc, hf, hM => ⟨ι, Named.refl R hf, hc, rfl, rfl⟩
  | .clip g c xs, s, ι, cs, M, n, R, hc, hf, hM => ⟨ι, Named.refl R hf, hc, rfl, rfl⟩
  | .rp g c xs i p, s, ι, cs, M, n, R, hc, hf, hM => ⟨ι, Named.refl R hf, hc, rfl, rfl⟩
theorem denils_ok : ∀ (q : List (A U)) {s : S U} {ι : Nat → Option Value} {cs : List Value} {M n : Nat}, Rel E s N tm w ι St → RC E w St ι q cs [] → (∀ m, n ≤ m → m < M → ι m = none ∧ isLive (s.h m) = false) → (denils q n).2.2 ≤ M →
    ∃ ι', Named E s N tm w ι St (denils q n).2.1 M n (denils q n).2.2 [] ι' ∧ RC E w St ι' (denils q n).1 cs [] ∧ (denils q n).1.map (fun a => (size E.sz a, isAgg a)) = q.map (fun a => (size E.sz a, isAgg a))
  | [], s, ι, cs, M, n, R, hc, hf, hM => by cases hc; exact ⟨ι, Named.refl R hf, .nil, rfl⟩
  | q :: l, s, ι, cs, M, n, R, hc, hf, hM => by
    obtain ⟨c1, c2, b1, b2, rfl, hb, h1, h2⟩ := RC.cons_inv hc
    obtain ⟨rfl, rfl⟩ := nil_or hb
    simp only [denils] at hM ⊢
    obtain ⟨ι1, n1, r1, a1, z1⟩ := denil_ok q R h1 hf (Nat.le_trans (denils_le l _) hM)
    obtain ⟨ι2, n2, r2, m2⟩ := denils_ok l n1.rel (h2.ext (ext_names n1.nm)) n1.free hM
    exact ⟨ι2, n1.trans n2, by simpa using RC.cons (r1.ext (ext_names n2.nm)) r2, by simp only [List.map_cons, a1, z1, m2]⟩
end

/-- the same for temporaries -/
def Holds (E : Env U) (w : World) (St : Bool → Nat → Prop) (ι : Nat → Option Value) : List (A U) → List Value → Prop
  | [], [] => True
  | a :: l, v :: vs => RT E w St ι a v ∧ Holds E w St ι l vs
  | _, _ => False
theorem Holds.ext {w' : World} {St' : Bool → Nat → Prop} {ι ι' : Nat → Option Value} (x : Ext w St ι w' St' ι') : ∀ {l : List (A U)} {vs : List Value}, Holds E w St ι l vs → Holds E w' St' ι' l vs
  | [], [], _ => trivial
  | _ :: _, _ :: _, h => ⟨h.1.ext x, Holds.ext x h.2⟩

def noTup : A U → Bool
  | .tup _ => false
  | _ => true
theorem RT.rc {ι : Nat → Option Value} {a : A U} {v : Value} (h : RT E w St ι a v) (hn : a ≠ .none) (ht : noTup a = true) : RC E w St ι [a] v.cells.toList [] ∧ isAggV v = isAgg a := by
  cases a <;> first | exact absurd rfl hn | exact h | (simp [noTup] at ht; done)
theorem RT.of_rc {ι : Nat → Option Value} {a : A U} {v : Value} (h : RC E w St ι [a] v.cells.toList [] ∧ isAggV v = isAgg a) : RT E w St ι a v := RT.of_rv h

theorem denilsT_ok : ∀ (q : List (A U)) {s : S U} {ι : Nat → Option Value} {vs : List Value} {M n : Nat}, Rel E s N tm w ι St → Holds E w St ι q vs → (∀ a ∈ q, noTup a = true) → (∀ m, n ≤ m → m < M → ι m = none ∧ isLive (s.h m) = false) → (denils q n).2.2 ≤ M →
    ∃ ι', Named E s N tm w ι St (denils q n).2.1 M n (denils q n).2.2 [] ι' ∧ Holds E w St ι' (denils q n).1 vs
  | [], s, ι, vs, M, n, R, hc, ht, hf, hM => by cases vs with | nil => exact ⟨ι, Named.refl R hf, trivial⟩ | cons _ _ => exact hc.elim
  | q :: l, s, ι, vs, M, n, R, hc, ht, hf, hM => by
    cases vs with
    | nil => exact hc.elim
    | cons v vs =>
      simp only [denils] at hM ⊢
      have one : ∃ ι1, Named E s N tm w ι St (denil q n).2.1 M n (denil q n).2.2 [] ι1 ∧ RT E w St ι1 (denil q n).1 v := by
        by_cases hq : q = .none
        · subst hq; exact ⟨ι, Named.refl R hf, trivial⟩
        · obtain ⟨h1, h2⟩ := RT.rc hc.1 hq (ht q (by simp))
          obtain ⟨ι1, n1, r1, a1, z1⟩ := denil_ok q R h1 hf (Nat.le_trans (denils_le l _) hM)
          exact ⟨ι1, n1, RT.of_rc ⟨r1, h2.trans a1.symm⟩⟩
      obtain ⟨ι1, n1, r1⟩ := one
      obtain ⟨ι2, n2, r2⟩ := denilsT_ok l n1.rel (hc.2.ext (ext_names n1.nm)) (fun a ha => ht a (by simp [ha])) n1.free hM
      exact ⟨ι2, n1.trans n2, r1.ext (ext_names n2.nm), r2⟩

theorem denilB_le (h : Nat → AObj U) : ∀ (L : List Nat) (n : Nat), n ≤ (denilB h L n).2
  | [], n => Nat.le_refl _
  | m :: l, n => by
    simp only [denilB]
    cases hm : h m with
    | box q => simp only []; exact Nat.le_trans (denil_le q n) (denilB_le h l _)
    | _ => exact denilB_le h l n

mutual
theorem denil_names : ∀ (q : A U) (n : Nat), ∀ x ∈ (denil q n).2.1, n ≤ x.1 ∧ x.1 < (denil q n).2.2
  | .nils c, n, x, hx => by simp only [denil, List.mem_cons, List.not_mem_nil, or_false] at hx ⊢; subst hx; simp
  | .agg l, n, x, hx => by simp only [denil] at hx ⊢; exact denils_names l n x hx
  | .usl c xs, n, x, hx => by simp [denil] at hx
  | .tup l, n, x, hx => by simp [denil] at hx
  | .clo f l, n, x, hx => by simp [denil] at hx
  | .none, n, x, hx => by simp [denil] at hx
  | .own m, n, x, hx => by simp [denil] at hx
  | .sub m c i len, n, x, hx => by simp [denil] at hx
  | .bsl m p c M i len, n, x, hx => by simp [denil] at hx
  | .ptr m p, n, x, hx => by simp [denil] at hx
  | .yld m, n, x, hx => by simp [denil] at hx
  | .int k m, n, x, hx => by simp [denil] at hx
  | .bool k, n, x, hx => by simp [denil] at hx
  | .str k, n, x, hx => by simp [denil] at hx
  | .nilp, n, x, hx => by simp [denil] at hx
  | .nilf, n, x, hx => by simp [denil] at hx
  | .arr c k xs, n, x, hx => by simp [denil] at hx
  | .ro g c xs, n, x, hx => by simp [denil] at hx
  | .clip g c xs, n, x, hx => by simp [denil] at hx
  | .rp g c xs i p, n, x, hx => by simp [denil] at hx
theorem denils_names : ∀ (q : List (A U)) (n : Nat), ∀ x ∈ (denils q n).2.1, n ≤ x.1 ∧ x.1 < (denils q n).2.2
  | [], n, x, hx => by simp [denils] at hx
  | q :: l, n, x, hx => by
    simp only [denils, List.mem_append] at hx ⊢
    rcases hx with hx | hx
    · have h1 := denil_names q n x hx
      have h2 := denils_le l (denil q n).2.2
      exact ⟨h1.1, Nat.lt_of_lt_of_le h1.2 h2⟩
    · have h1 := denils_names l _ x hx
      have h2 := denil_le q n
      exact ⟨Nat.le_trans h2 h1.1, h1.2⟩
end

theorem denilB_ok {h : Nat → AObj U} : ∀ (L : List Nat) {s : S U} {ι : Nat → Option Value} {M n : Nat}, L.Nodup → Rel E s N tm w ι St → (∀ m ∈ L, ∀ q, h m = .box q → s.h m = .box q) →
    (∀ m, n ≤ m → m < M → ι m = none ∧ isLive (s.h m) = false) → (denilB h L n).2 ≤ M →
    ∃ ι', Rel E { s with h := upds s.h (denilB h L n).1 } N tm w ι' St ∧ (∀ m v, ι m = some v → ι' m = some v) ∧ (∀ B, Own { s with h := upds s.h (denilB h L n).1 } ι' B → Own s ι B) ∧ (∀ m, ι' m ≠ none → ι m ≠ none ∨ (n ≤ m ∧ m < (denilB h L n).2))
  | [], s, ι, M, n, hn, R, hb, hf, hM => ⟨ι, R, fun _ _ h => h, fun _ h => h, fun _ h => .inl h⟩
  | m :: l, s, ι, M, n, hn, R, hb, hf, hM => by
    simp only [denilB] at hM ⊢
    obtain ⟨hml, hnl⟩ := List.nodup_cons.1 hn
    cases hm : h m with
    | box q =>
      rw [hm] at hM
      simp only [] at hM ⊢
      have hsm := hb m (by simp) q hm
      have h0 := R.obj m
      rw [hsm] at h0
      obtain ⟨B, cs, e1, e2, e3, e4, e5⟩ := h0
      obtain ⟨ι1, n1, r1, a1, z1⟩ := denil_ok q R e2 hf (Nat.le_trans (denilB_le h l _) hM)
      have em : ι1 m = some (.pointer (some ⟨B, 0, .none⟩)) := n1.nm m _ e1
      have known : ∀ k, ι k ≠ none → k ∉ (denil q n).2.1.map (·.1) := fun k hk hmem => by
        obtain ⟨x, hx, rfl⟩ := List.mem_map.1 hmem
        have := denil_names q n x hx
        exact hk (hf x.1 this.1 (Nat.lt_of_lt_of_le this.2 (Nat.le_trans (denilB_le h l _) hM))).1
      have hs1 : upds s.h (denil q n).2.1 m = .box q := by rw [upds_notin (known m (by rw [e1]; simp))]; exact hsm
      have live1 : isLive (upds s.h (denil q n).2.1 m) = true := by rw [hs1]; rfl
      have R2 := (n1.rel.kill m).adopt m (.box (denil q n).1) _ (by show isLive (upd _ m .dead m) = false; rw [upd_same]; rfl) (.inr em)
        (by
          have e : upd ι1 m (some (.pointer (some ⟨B, 0, .none⟩))) = ι1 := by rw [← em]; exact upd_self _ _
          rw [e]
          exact ⟨B, cs, rfl, r1, e3, e4, e5⟩)
        (fun B' _ hB' => by
          simp only [blk, base, Option.map_some, Option.some.injEq] at hB'
          subst hB'
          have hbm : blkO (ι1 m) = some B := by rw [em]; rfl
          refine ⟨n1.rel.apt m B live1 hbm, fun k hk hk2 => ?_⟩
          by_cases e : k = m
          · subst e
            change isLive (upd _ k .dead k) = true at hk
            rw [upd_same] at hk; simp [isLive] at hk
          · change isLive (upd _ m .dead k) = true at hk
            rw [upd_ne _ _ e] at hk
            exact e (n1.rel.dis k m B hk live1 hk2 hbm))
      have e2' : upd ι1 m (some (.pointer (some ⟨B, 0, .none⟩))) = ι1 := by rw [← em]; exact upd_self _ _
      rw [e2'] at R2
      have R3 : Rel E { s with h := upd (upds s.h (denil q n).2.1) m (.box (denil q n).1) } N tm w ι1 St := by
        have := R2
        simp only [upd_upd] at this
        exact this
      obtain ⟨ι2, R4, nm2, ow2, nw2⟩ := denilB_ok l (s := { s with h := upd (upds s.h (denil q n).2.1) m (.box (denil q n).1) }) (h := h) hnl R3 (fun k hk q' hq' => by
          have hk0 := hb k (by simp [hk]) q' hq'
          have hkm : k ≠ m := fun e => hml (e ▸ hk)
          show upd _ m _ k = _
          rw [upd_ne _ _ hkm, upds_notin (known k fun hn => by have := R.dead hn; rw [hk0] at this; simp [isLive] at this)]
          exact hk0)
        (fun k h1 h2 => by
          obtain ⟨f1, f2⟩ := n1.free k h1 h2
          exact ⟨f1, R3.dead f1⟩) hM
      refine ⟨ι2, ?_, fun k v h => nm2 k v (n1.nm k v h), fun B' h => ?_, fun k hk => ?_⟩
      rotate_left 2
      · rcases nw2 k hk with h | h
        · rcases n1.new k h with h | h
          · exact .inl h
          · exact .inr ⟨h.1, Nat.lt_of_lt_of_le h.2 (denilB_le _ l _)⟩
        · exact .inr ⟨Nat.le_trans n1.le h.1, h.2⟩
      · rw [upds_append]; exact R4
      · rw [upds_append] at h
        obtain ⟨k, h1, h2⟩ := ow2 B' h
        have : Own { s with h := upds s.h (denil q n).2.1 } ι1 B' := by
          refine ⟨k, ?_, h2⟩
          by_cases e : k = m
          · rw [e]; exact live1
          · change isLive (upd _ m _ k) = true at h1
            rw [upd_ne _ _ e] at h1
            exact h1
        rcases n1.own B' this with h | h
        · exact h
        · cases h
    | dead => rw [hm] at hM; exact denilB_ok l hnl R (fun k hk => hb k (by simp [hk])) hf hM
    | lp lf lid live vals j => rw [hm] at hM; exact denilB_ok l hnl R (fun k hk => hb k (by simp [hk])) hf hM
    | lst c x => rw [hm] at hM; exact denilB_ok l hnl R (fun k hk => hb k (by simp [hk])) hf hM
    | fz c x => rw [hm] at hM; exact denilB_ok l hnl R (fun k hk => hb k (by simp [hk])) hf hM

-- new numbers for names
theorem idxN_lt {n : Nat} : ∀ {L : List Nat}, n ∈ L → L[idxN n L]? = some n
  | [], h => by cases h
  | m :: l, h => by
    simp only [idxN]
    cases hb : Nat.beq m n with
    | true => simp only [cond_true, List.getElem?_cons_zero]; rw [Nat.eq_of_beq_eq_true hb]
    | false =>
      simp only [cond_false, List.getElem?_cons_succ]
      rcases List.mem_cons.1 h with rfl | h
      · rw [Nat.beq_refl] at hb; simp at hb
      · exact idxN_lt h

def reι (L : List Nat) (ι : Nat → Option Value) (k : Nat) : Option Value := match L[k]? with | some n => ι n | .none => .none
theorem reι_idx {L : List Nat} {ι : Nat → Option Value} {n : Nat} (h : n ∈ L) : reι L ι (idxN n L) = ι n := by unfold reι; rw [idxN_lt h]

theorem renAs_map (L : List Nat) (l : List (A U)) : renAs L l = l.map (renA L) := by
  induction l with
  | nil => rfl
  | cons a l ih => simp [renAs, ih]
mutual
theorem ren_size (L : List Nat) : ∀ q : A U, size E.sz (renA L q) = size E.sz q ∧ isAgg (renA L q) = isAgg q
  | .agg l => ⟨by simp only [renA, size]; exact rens_size L l, rfl⟩
  | .tup l => ⟨rfl, rfl⟩
  | .clo f l => ⟨rfl, rfl⟩
  | .usl c xs => ⟨rfl, rfl⟩
  | .none => ⟨rfl, rfl⟩
  | .own m => ⟨rfl, rfl⟩
  | .sub m c i len => ⟨rfl, rfl⟩
  | .bsl m p c M i len => ⟨rfl, rfl⟩
  | .ptr m p => ⟨rfl, rfl⟩
  | .yld m => ⟨rfl, rfl⟩
  | .int k m => ⟨rfl, rfl⟩
  | .bool k => ⟨rfl, rfl⟩
  | .str k => ⟨rfl, rfl⟩
  | .nilp => ⟨rfl, rfl⟩
  | .nilf => ⟨rfl, rfl⟩
  | .nils c => ⟨rfl, rfl⟩
  | .arr c k xs => ⟨rfl, rfl⟩
  | .ro g c xs => ⟨rfl, rfl⟩
  | .clip g c xs => ⟨rfl, rfl⟩
  | .rp g c xs i p => ⟨rfl, rfl⟩
theorem rens_size (L : List Nat) : ∀ q : List (A U), sizes E.sz (renAs L q) = sizes E.sz q
  | [] => rfl
  | q :: l => by simp only [renAs, sizes, (ren_size L q).1, rens_size L l]
end

theorem RC.ren (ok : EnvOk E) {ι : Nat → Option Value} (L : List Nat) {l : List (A U)} {cs : List Value} {bs : List Nat} (h : RC E w St ι l cs bs) : (∀ n ∈ namess l, n ∈ L) → RC E w St (reι L ι) (renAs L l) cs bs := by
  induction h with
  | nil => intro _; exact .nil
  | int _ ih => intro hn; exact .int (ih (by simpa [namess, names] using hn))
  | bool _ ih => intro hn; exact .bool (ih (by simpa [namess, names] using hn))
  | str _ ih => intro hn; exact .str (ih (by simpa [namess, names] using hn))
  | nilp _ ih => intro hn; exact .nilp (ih (by simpa [namess, names] using hn))
  | nilf _ ih => intro hn; exact .nilf (ih (by simpa [namess, names] using hn))
  | nils _ ih => intro hn; exact .nils (ih (by simpa [namess, names] using hn))
  | agg _ _ ih1 ih2 => intro hn; simp only [namess, names, List.mem_append] at hn; exact .agg (ih1 fun n h => hn n (.inl h)) (ih2 fun n h => hn n (.inr h))
  | arr h0 h1 _ _ ih2 => intro hn; exact .arr h0 (h1.encs ok fun _ h => h) (ih2 (by simpa [namess, names] using hn))
  | roE _ ih => intro hn; exact .roE (ih (by simpa [namess, names] using hn))
  | ro h1 h2 h3 h4 _ _ ih => intro hn; exact .ro (h1.encs ok fun _ h => h) h2 h3 h4 (ih (by simpa [namess, names] using hn))
  | clipE _ ih => intro hn; exact .clipE (ih (by simpa [namess, names] using hn))
  | clip h1 h2 h3 _ _ ih => intro hn; exact .clip (h1.encs ok fun _ h => h) h2 h3 (ih (by simpa [namess, names] using hn))
  | uslE _ ih => intro hn; exact .uslE (ih (by simpa [namess, names] using hn))
  | usl h1 h2 h3 h4 h5 _ _ ih => intro hn; exact .usl (h1.encs ok fun _ h => h) h2 h3 h4 h5 (ih (by simpa [namess, names] using hn))
  | own h1 _ ih =>
    intro hn
    simp only [namess, names, List.cons_append, List.nil_append, List.mem_cons, forall_eq_or_imp] at hn
    exact .own (by rw [reι_idx hn.1]; exact h1) (ih hn.2)
  | sub h1 h2 h3 h4 h5 _ ih =>
    intro hn
    simp only [namess, names, List.cons_append, List.nil_append, List.mem_cons, forall_eq_or_imp] at hn
    exact .sub (by rw [reι_idx hn.1]; exact h1) h2 h3 h4 h5 (ih hn.2)
  | bsl h1 h2 h3 h4 h5 h6 _ ih =>
    intro hn
    simp only [namess, names, List.cons_append, List.nil_append, List.mem_cons, forall_eq_or_imp] at hn
    exact .bsl (by rw [reι_idx hn.1]; exact h1) h2 h3 h4 h5 h6 (ih hn.2)
  | ptr h1 h2 h3 _ ih =>
    intro hn
    simp only [namess, names, List.cons_append, List.nil_append, List.mem_cons, forall_eq_or_imp] at hn
    exact .ptr (by rw [reι_idx hn.1]; exact h1) h2 h3 (ih hn.2)
  | yld h1 _ ih =>
    intro hn
    simp only [namess, names, List.cons_append, List.nil_append, List.mem_cons, forall_eq_or_imp] at hn
    exact .yld (by rw [reι_idx hn.1]; exact h1) (ih hn.2)
  | rp h1 h2 h3 h4 h5 _ _ ih => intro hn; exact .rp (h1.encs ok fun _ h => h) h2 h3 h4 h5 (ih (by simpa [namess, names] using hn))
  | clo h1 h2 _ ih1 ih2 =>
    intro hn
    simp only [namess, names, List.mem_append] at hn
    refine .clo (ih1 fun n h => hn n (.inl h)) (h2.trans ?_) (ih2 fun n h => hn n (.inr h))
    rw [renAs_map, List.map_map]
    exact List.map_congr_left fun a _ => by simp only [Function.comp, (ren_size (E := E) L a).1, (ren_size (E := E) L a).2]

theorem renAs_one (L : List Nat) (a : A U) : renAs L [a] = [renA L a] := rfl
theorem Holds.ren (ok : EnvOk E) {ι : Nat → Option Value} (L : List Nat) : ∀ {l : List (A U)} {vs : List Value}, Holds E w St ι l vs → (∀ a ∈ l, noTup a = true) → (∀ n ∈ namess l, n ∈ L) → Holds E w St (reι L ι) (renAs L l) vs
  | [], [], _, _, _ => trivial
  | [], _ :: _, h, _, _ => h.elim
  | _ :: _, [], h, _, _ => h.elim
  | a :: l, v :: vs, h, ht, hn => by
    simp only [namess, List.mem_append] at hn
    refine ⟨?_, Holds.ren ok L h.2 (fun x hx => ht x (by simp [hx])) (fun n hn' => hn n (.inr hn'))⟩
    by_cases hq : a = .none
    · subst hq; exact trivial
    · obtain ⟨h1, h2⟩ := RT.rc h.1 hq (ht a (by simp))
      have := h1.ren ok L (by simpa [namess] using fun n hn' => hn n (.inl hn'))
      rw [renAs_one] at this
      exact RT.of_rc ⟨this, h2.trans (ren_size (E := E) L a).2.symm⟩

theorem Holds.pairUp {ι : Nat → Option Value} : ∀ {live : List Nat} {vals : List (A U)}, Holds E w St ι vals (live.map fun d => tm.getD d undef) → ∀ d, RT E w St ι (pairUp live vals d) (tm.getD d undef)
  | [], [], _, d => trivial
  | [], _ :: _, h, d => h.elim
  | _ :: _, [], h, d => h.elim
  | e :: live, v :: vals, h, d => by
    simp only [V.pairUp]
    cases hb : Nat.beq d e with
    | true => rw [Nat.eq_of_beq_eq_true hb]; exact h.1
    | false => exact Holds.pairUp h.2 d

theorem noTup_untup (a : A U) : noTup (untup a) = true := by cases a <;> rfl
theorem denil_noTup (a : A U) (n : Nat) (h : noTup a = true) : noTup (denil a n).1 = true := by
  cases a <;> first | rfl | simp [noTup] at h
theorem denils_noTup : ∀ (l : List (A U)) (n : Nat), (∀ a ∈ l, noTup a = true) → ∀ a ∈ (denils l n).1, noTup a = true
  | [], n, h, a, ha => by simp [denils] at ha
  | q :: l, n, h, a, ha => by
    simp only [denils, List.mem_cons] at ha
    rcases ha with rfl | ha
    · exact denil_noTup q n (h q (by simp))
    · exact denils_noTup l _ (fun x hx => h x (by simp [hx])) a ha

theorem distinctN_iff : ∀ {l : List Nat}, distinctN l = true ↔ l.Nodup
  | [] => by simp [distinctN]
  | n :: l => by simp only [distinctN, Bool.and_eq_true, Bool.not_eq_true', memN_false, distinctN_iff (l := l), List.nodup_cons]
theorem inN_iff {L : List Nat} : ∀ {l : List Nat}, inN L l = true ↔ ∀ n ∈ l, n ∈ L
  | [] => by simp [inN]
  | n :: l => by simp only [inN, Bool.and_eq_true, memN_iff, inN_iff (l := l), List.mem_cons, forall_eq_or_imp]
theorem closedN_iff {h : Nat → AObj U} {L : List Nat} : ∀ {l : List Nat}, closedN h L l = true ↔ ∀ n ∈ l, ∀ m ∈ names (objA (h n)), m ∈ L
  | [] => by simp [closedN]
  | n :: l => by simp only [closedN, Bool.and_eq_true, inN_iff, closedN_iff (l := l), List.mem_cons, forall_eq_or_imp]

theorem nthO_map {f : Nat → AObj U} : ∀ (L : List Nat) (k : Nat), nthO (L.map f) k = match L[k]? with | some n => f n | .none => .dead
  | [], k => by simp [nthO]
  | m :: l, 0 => by simp [nthO]
  | m :: l, k + 1 => by simp only [List.map_cons, nthO, nthO_map l k, List.getElem?_cons_succ]

theorem RVs.holds' {ι : Nat → Option Value} : ∀ {l : List (A U)} {vs : List Value}, RVs E w St ι l vs → Holds E w St ι l vs
  | [], [], _ => trivial
  | [], _ :: _, h => h.elim
  | _ :: _, [], h => h.elim
  | a :: l, v :: vs, h => ⟨h.1.elim (fun e => by rw [e]; exact trivial) RT.of_rv, RVs.holds' h.2⟩
theorem RVs.noTup {ι : Nat → Option Value} : ∀ {l : List (A U)} {vs : List Value}, RVs E w St ι l vs → ∀ a ∈ l, noTup a = true
  | [], _, _, a, ha => by cases ha
  | _ :: _, [], h, a, ha => h.elim
  | q :: l, v :: vs, h, a, ha => by
    rcases List.mem_cons.1 ha with rfl | ha
    · rcases h.1 with rfl | h
      · rfl
      · cases a <;> first | rfl | exact absurd h.1 (by intro h; cases h)
    · exact RVs.noTup h.2 a ha
theorem Holds.rvs' {ι : Nat → Option Value} : ∀ {l : List (A U)} {vs : List Value}, Holds E w St ι l vs → (∀ a ∈ l, V.noTup a = true) → RVs E w St ι l vs
  | [], [], _, _ => trivial
  | [], _ :: _, h, _ => h.elim
  | _ :: _, [], h, _ => h.elim
  | a :: l, v :: vs, h, hk => by
    refine ⟨?_, Holds.rvs' h.2 fun x hx => hk x (by simp [hx])⟩
    have ht := hk a (by simp)
    cases a with
    | none => exact .inl rfl
    | tup l => simp [V.noTup] at ht
    | _ => exact .inr h.1
theorem RVs.ren (ok : EnvOk E) {ι : Nat → Option Value} (L : List Nat) {l : List (A U)} {vs : List Value} (h : RVs E w St ι l vs) (hn : ∀ n ∈ namess l, n ∈ L) : RVs E w St (reι L ι) (renAs L l) vs := by
  refine (h.holds'.ren ok L h.noTup hn).rvs' fun a ha => ?_
  rw [renAs_map] at ha
  obtain ⟨b, hb, rfl⟩ := List.mem_map.1 ha
  have := h.noTup b hb
  cases b <;> first | rfl | (simp [V.noTup] at this; done)

theorem RO.ren (ok : EnvOk E) {ι : Nat → Option Value} (L : List Nat) {o : AObj U} {x : Option Value} (h : RO E w St ι o x) (hn : ∀ m ∈ names (objA o), m ∈ L) : RO E w St (reι L ι) (renO L o) x := by
  cases o with
  | dead => exact trivial
  | lp lf lid live vals j =>
    obtain ⟨r, L', h1, h2, h3, h4, h5⟩ := h
    exact ⟨r, L', h1, h2, h3, h4.ren ok L (by simpa [names, objA] using hn), h5⟩
  | box a =>
    obtain ⟨B, cs, e1, e2, e3, e4, e5⟩ := h
    have := e2.ren ok L (by simpa [namess, objA] using hn)
    exact ⟨B, cs, e1, this, e3, e4, e5⟩
  | lst c xs =>
    rcases h with h | ⟨B, off, cap, ds, h1, h2, h3⟩
    · exact .inl h
    · exact .inr ⟨B, off, cap, ds, h1, h2.encs ok fun _ h => h, h3⟩
  | fz c xs =>
    obtain ⟨v, h1, h2⟩ := h
    exact ⟨v, h1, h2.ren ok L (by simp [namess, names])⟩

theorem live_ren (L : List Nat) (o : AObj U) : isLive (renO L o) = isLive o := by cases o <;> rfl

theorem nodup_inj {α : Type} : ∀ {l : List α} {i j : Nat} {x : α}, l.Nodup → l[i]? = some x → l[j]? = some x → i = j
  | [], i, j, x, _, h, _ => by simp at h
  | y :: l, 0, 0, x, _, _, _ => rfl
  | y :: l, 0, j + 1, x, hn, h1, h2 => by
    simp only [List.getElem?_cons_zero, Option.some.injEq, List.getElem?_cons_succ] at h1 h2
    subst h1
    exact absurd (List.mem_of_getElem? h2) (List.nodup_cons.1 hn).1
  | y :: l, i + 1, 0, x, hn, h1, h2 => by
    simp only [List.getElem?_cons_zero, Option.some.injEq, List.getElem?_cons_succ] at h1 h2
    subst h2
    exact absurd (List.mem_of_getElem? h1) (List.nodup_cons.1 hn).1
  | y :: l, i + 1, j + 1, x, hn, h1, h2 => by
    simp only [List.getElem?_cons_succ] at h1 h2
    rw [nodup_inj (List.nodup_cons.1 hn).2 h1 h2]

/-- names and what they stand for, without temporaries -/
structure HeapR (E : Env U) (h : Nat → AObj U) (w : World) (ι : Nat → Option Value) (St : Bool → Nat → Prop) : Prop where
  obj : ∀ n, RO E w St ι (h n) (ι n)
  dis : ∀ n m B, isLive (h n) = true → isLive (h m) = true → blkO (ι n) = some B → blkO (ι m) = some B → n = m
  stb : ∀ B, An St B → B < w.heap.size
  apt : ∀ n B, isLive (h n) = true → blkO (ι n) = some B → ¬ An St B
  sup : Sup E w St
def OwnH (h : Nat → AObj U) (ι : Nat → Option Value) (B : Nat) : Prop := ∃ n, isLive (h n) = true ∧ blkO (ι n) = some B

/-- what is known of values that were laid out -/
structure LaidOk (E : Env U) (s : S U) (N : Nat) (tm : Array Value) (w : World) (ι : Nat → Option Value) (St : Bool → Nat → Prop) (n0 : Nat) (us : List Value) (x : Laid U) (ι2 : Nat → Option Value) : Prop where
  rel : Rel E { s with h := upds s.h x.wr } N tm w ι2 St
  nm : ∀ m v, ι m = some v → ι2 m = some v
  new : ∀ m, ι2 m ≠ none → ι m ≠ none ∨ (n0 ≤ m ∧ m < x.n)
  own : ∀ B, Own { s with h := upds s.h x.wr } ι2 B → Own s ι B
  vals : Holds E w St (reι x.L ι2) x.vals us
  heap : HeapR E (nthO x.objs) w (reι x.L ι2) St
  out : ∀ k, x.L.length ≤ k → reι x.L ι2 k = none
  len : x.objs.length = x.L.length
  nod : x.L.Nodup
  le : n0 ≤ x.n
  at_ : ∀ k n, x.L[k]? = some n → nthO x.objs k = renO x.L (upds s.h x.wr n)
  sub : ∀ B, OwnH (nthO x.objs) (reι x.L ι2) B → Own { s with h := upds s.h x.wr } ι2 B

theorem layG_le {h : Nat → AObj U} {n0 : Nat} {first : List Nat} {vs : List (A U)} {x : Laid U} (hx : layG h n0 first vs = some x) : n0 ≤ x.n := by
  unfold layG at hx
  simp only [] at hx
  revert hx
  simp only [Bool.cond_eq_ite]
  split
  · intro hx; cases hx; exact Nat.le_trans (denils_le _ _) (denilB_le _ _ _)
  · intro hx; cases hx

theorem layG_ok (ok : EnvOk2 E) {s : S U} {ι : Nat → Option Value} (R : Rel E s N tm w ι St) {n0 : Nat} {first : List Nat} {vs : List (A U)} {x : Laid U} (hl : layG s.h n0 first vs = some x) {us : List Value} (hH : Holds E w St ι vs us)
    (ht : ∀ a ∈ vs, noTup a = true) (hf : ∀ m, n0 ≤ m → m < x.n → ι m = none) : ∃ ι2, LaidOk E s N tm w ι St n0 us x ι2 := by
  have hle := layG_le hl
  unfold layG at hl
  simp only [] at hl
  generalize hr : denils vs n0 = r at hl
  generalize hL1 : reach names (upds s.h r.2.1) 60 0 (addNs first (namess r.1)) = L1 at hl
  generalize hq : denilB (upds s.h r.2.1) L1 r.2.2 = q at hl
  generalize hL : reach names (upds (upds s.h r.2.1) q.1) 60 0 (addNs first (namess r.1)) = L at hl
  cases hb : (distinctN L1 && (distinctN L && (inN L (namess r.1) && closedN (upds (upds s.h r.2.1) q.1) L L))) with
  | false => rw [hb] at hl; simp at hl
  | true =>
    rw [hb] at hl
    simp only [cond_true, Option.some.injEq] at hl
    subst hl
    simp only [Bool.and_eq_true, distinctN_iff, inN_iff, closedN_iff] at hb
    obtain ⟨d1, d2, d3, d4⟩ := hb
    simp only [] at hf hle
    have free : ∀ m, n0 ≤ m → m < q.2 → ι m = none ∧ isLive (s.h m) = false := fun m h h2 => ⟨hf m h h2, R.dead (hf m h h2)⟩
    have hqle : r.2.2 ≤ q.2 := by rw [← hq]; exact denilB_le _ _ _
    obtain ⟨ι1, n1, h1⟩ := denilsT_ok vs (M := q.2) R hH ht free (by rw [hr]; exact hqle)
    rw [hr] at n1 h1
    obtain ⟨ι2, R2, nm2, ow2, nw2⟩ := denilB_ok (h := upds s.h r.2.1) L1 (s := { s with h := upds s.h r.2.1 }) (M := q.2) d1 n1.rel (fun m _ q' h => h) n1.free (by rw [hq]; exact Nat.le_refl _)
    rw [hq] at R2 ow2 nw2
    have h2 := (h1.ext (ext_names nm2)).ren ok.toEnvOk L (by rw [← hr]; exact denils_noTup _ _ ht) d3
    have e2 : upds s.h (r.2.1 ++ q.1) = upds (upds s.h r.2.1) q.1 := upds_append _ _ _
    have sub : ∀ B, OwnH (nthO (L.map fun n => renO L (upds (upds s.h r.2.1) q.1 n))) (reι L ι2) B → Own { s with h := upds s.h (r.2.1 ++ q.1) } ι2 B := by
      rintro B ⟨k, l1, b1⟩
      rw [nthO_map] at l1
      unfold reι at b1
      cases hk : L[k]? with
      | none => rw [hk] at l1; simp [isLive] at l1
      | some n =>
        rw [hk] at l1 b1
        simp only [live_ren] at l1
        exact ⟨n, by rw [e2]; exact l1, b1⟩
    refine ⟨ι2, by rw [e2]; exact R2, fun m v h => nm2 m v (n1.nm m v h), fun m h => ?_, fun B hB => ?_, h2, ⟨fun k => ?_, fun k1 k2 B l1 l2 b1 b2 => ?_, R2.stb, fun k B l1 b1 => ?_, R2.sup⟩, fun k hk => ?_, by simp, d2, hle, fun k n hk => ?_, sub⟩
    · rcases nw2 m h with h | h
      · rcases n1.new m h with h | h
        · exact .inl h
        · exact .inr ⟨h.1, Nat.lt_of_lt_of_le h.2 hqle⟩
      · exact .inr ⟨Nat.le_trans n1.le h.1, h.2⟩
    · rw [e2] at hB
      rcases n1.own B (ow2 B hB) with h | h
      · exact h
      · cases h
    · show RO E w St _ (nthO (L.map _) k) _
      rw [nthO_map]
      unfold reι
      cases hk : L[k]? with
      | none => exact trivial
      | some n => exact (R2.obj n).ren ok.toEnvOk L (d4 n (List.mem_of_getElem? hk))
    · rw [nthO_map] at l1 l2
      unfold reι at b1 b2
      cases hk1 : L[k1]? with
      | none => rw [hk1] at l1; simp [isLive] at l1
      | some n1' =>
        cases hk2 : L[k2]? with
        | none => rw [hk2] at l2; simp [isLive] at l2
        | some n2' =>
          rw [hk1] at l1 b1
          rw [hk2] at l2 b2
          simp only [live_ren] at l1 l2
          have e := R2.dis n1' n2' B l1 l2 b1 b2
          subst e
          exact nodup_inj d2 hk1 hk2
    · rw [nthO_map] at l1
      unfold reι at b1
      cases hk : L[k]? with
      | none => rw [hk] at l1; simp [isLive] at l1
      | some n => rw [hk] at l1 b1; simp only [live_ren] at l1; exact R2.apt n B l1 b1
    · unfold reι
      rw [List.getElem?_eq_none (by simpa using hk)]
    · simp only [nthO_map, hk, e2]

theorem denilB_names {h : Nat → AObj U} : ∀ (L : List Nat) (n : Nat), ∀ x ∈ (denilB h L n).1, x.1 ∈ L ∨ (n ≤ x.1 ∧ x.1 < (denilB h L n).2)
  | [], n, x, hx => by simp [denilB] at hx
  | m :: l, n, x, hx => by
    simp only [denilB] at hx ⊢
    cases hm : h m with
    | box q =>
      rw [hm] at hx
      simp only [List.mem_append, List.mem_cons] at hx ⊢
      rcases hx with hx | hx | hx
      · have := denil_names q n x hx
        exact .inr ⟨this.1, Nat.lt_of_lt_of_le this.2 (denilB_le h l _)⟩
      · subst hx; exact .inl (.inl rfl)
      · rcases denilB_names l _ x hx with h | h
        · exact .inl (.inr h)
        · exact .inr ⟨Nat.le_trans (denil_le q n) h.1, h.2⟩
    | dead => rw [hm] at hx; rcases denilB_names l n x hx with h | h; exact .inl (by simp [h]); exact .inr h
    | lp lf lid live vals j => rw [hm] at hx; rcases denilB_names l n x hx with h | h; exact .inl (by simp [h]); exact .inr h
    | lst c y => rw [hm] at hx; rcases denilB_names l n x hx with h | h; exact .inl (by simp [h]); exact .inr h
    | fz c y => rw [hm] at hx; rcases denilB_names l n x hx with h | h; exact .inl (by simp [h]); exact .inr h

/-- what is named anew lies among what is reached -/
theorem layG_names {h : Nat → AObj U} {n0 : Nat} {first : List Nat} {vs : List (A U)} {x : Laid U} (hx : layG h n0 first vs = some x) : ∀ y ∈ x.wr, y.1 ∈ x.L1 ∨ (n0 ≤ y.1 ∧ y.1 < x.n) := by
  unfold layG at hx
  simp only [] at hx
  revert hx
  simp only [Bool.cond_eq_ite]
  split
  · intro hx
    cases hx
    intro y hy
    simp only [List.mem_append] at hy
    rcases hy with hy | hy
    · have := denils_names vs n0 y hy
      exact .inr ⟨this.1, Nat.lt_of_lt_of_le this.2 (denilB_le _ _ _)⟩
    · rcases denilB_names _ _ y hy with h | h
      · exact .inl h
      · exact .inr ⟨Nat.le_trans (denils_le _ _) h.1, h.2⟩
  · intro hx; cases hx

theorem renA_noTup (L : List Nat) (q : A U) (h : noTup q = true) : noTup (renA L q) = true := by cases q <;> first | rfl | (simp [noTup] at h; done)
theorem layG_noTup {h : Nat → AObj U} {n0 : Nat} {first : List Nat} {vs : List (A U)} {x : Laid U} (hx : layG h n0 first vs = some x) (ht : ∀ a ∈ vs, noTup a = true) : ∀ a ∈ x.vals, noTup a = true := by
  unfold layG at hx
  simp only [] at hx
  revert hx
  simp only [Bool.cond_eq_ite]
  split
  · intro hx
    cases hx
    intro a ha
    simp only [renAs_map, List.mem_map] at ha
    obtain ⟨q, hq, rfl⟩ := ha
    exact renA_noTup _ _ (denils_noTup vs n0 ht q hq)
  · intro hx; cases hx
-- two heaps that agree on what is looked at
theorem addN_mem {l : List Nat} {n m : Nat} (h : m ∈ l) : m ∈ addN l n := by
  unfold addN
  cases memN n l <;> simp [h]
theorem addNs_mem {m : Nat} : ∀ (r : List Nat) {l : List Nat}, m ∈ l → m ∈ addNs l r
  | [], l, h => h
  | n :: r, l, h => addNs_mem r (addN_mem h)
theorem reach_mem {nm : A U → List Nat} {h : Nat → AObj U} {m : Nat} : ∀ (n j : Nat) {l : List Nat}, m ∈ l → m ∈ reach nm h n j l
  | 0, j, l, hm => hm
  | n + 1, j, l, hm => by
    simp only [reach]
    split
    · exact hm
    · exact reach_mem n (j + 1) (addNs_mem _ hm)
theorem reach_congr {nm : A U → List Nat} {h h' : Nat → AObj U} : ∀ (n j : Nat) (l : List Nat), (∀ m ∈ reach nm h n j l, h' m = h m) → reach nm h' n j l = reach nm h n j l
  | 0, j, l, hm => rfl
  | n + 1, j, l, hm => by
    simp only [reach] at hm ⊢
    split
    · rfl
    · rename_i m r hd
      rw [hd] at hm
      simp only [] at hm
      have hml : m ∈ l := List.mem_of_mem_drop (by rw [hd]; simp)
      have e : h' m = h m := hm m (reach_mem _ _ (addNs_mem _ hml))
      rw [e]
      exact reach_congr n (j + 1) _ hm
theorem denilB_congr {h h' : Nat → AObj U} : ∀ (L : List Nat) (n : Nat), (∀ m ∈ L, h' m = h m) → denilB h' L n = denilB h L n
  | [], n, _ => rfl
  | m :: l, n, e => by
    have ih := fun n => denilB_congr l n fun k hk => e k (by simp [hk])
    simp only [denilB, e m (by simp), ih]
theorem upds_congr {α : Type} {m : Nat} : ∀ (l : List (Nat × α)) {f g : Nat → α}, f m = g m → upds f l m = upds g l m
  | [], f, g, h => h
  | (n, x) :: l, f, g, h => by
    simp only [upds]
    refine upds_congr l ?_
    simp only [upd_eq]
    split
    · rfl
    · exact h
theorem layG_congr {h h' : Nat → AObj U} {n0 : Nat} {first : List Nat} {vs : List (A U)} {x : Laid U} (hx : layG h n0 first vs = some x) (e : ∀ m ∈ x.L1 ++ x.L, h' m = h m) : layG h' n0 first vs = some x := by
  unfold layG at hx ⊢
  simp only [] at hx ⊢
  generalize hr : denils vs n0 = r at hx ⊢
  cases hb : (distinctN (reach names (upds h r.2.1) 60 0 (addNs first (namess r.1))) && (distinctN (reach names (upds (upds h r.2.1) (denilB (upds h r.2.1) (reach names (upds h r.2.1) 60 0 (addNs first (namess r.1))) r.2.2).1) 60 0 (addNs first (namess r.1))) &&
      (inN (reach names (upds (upds h r.2.1) (denilB (upds h r.2.1) (reach names (upds h r.2.1) 60 0 (addNs first (namess r.1))) r.2.2).1) 60 0 (addNs first (namess r.1))) (namess r.1) &&
      closedN (upds (upds h r.2.1) (denilB (upds h r.2.1) (reach names (upds h r.2.1) 60 0 (addNs first (namess r.1))) r.2.2).1) (reach names (upds (upds h r.2.1) (denilB (upds h r.2.1) (reach names (upds h r.2.1) 60 0 (addNs first (namess r.1))) r.2.2).1) 60 0 (addNs first (namess r.1)))
        (reach names (upds (upds h r.2.1) (denilB (upds h r.2.1) (reach names (upds h r.2.1) 60 0 (addNs first (namess r.1))) r.2.2).1) 60 0 (addNs first (namess r.1)))))) with
  | false => rw [hb] at hx; simp at hx
  | true =>
    have hx0 := hx
    rw [hb] at hx
    simp only [cond_true, Option.some.injEq] at hx
    subst hx
    simp only [List.mem_append] at e
    have a1 : ∀ m ∈ reach names (upds h r.2.1) 60 0 (addNs first (namess r.1)), upds h' r.2.1 m = upds h r.2.1 m := fun m hm => upds_congr _ (e m (.inl hm))
    have b1 := reach_congr 60 0 _ a1
    have c1 := denilB_congr _ r.2.2 a1
    rw [b1, c1]
    have a2 : ∀ m ∈ reach names (upds (upds h r.2.1) (denilB (upds h r.2.1) (reach names (upds h r.2.1) 60 0 (addNs first (namess r.1))) r.2.2).1) 60 0 (addNs first (namess r.1)),
        upds (upds h' r.2.1) (denilB (upds h r.2.1) (reach names (upds h r.2.1) 60 0 (addNs first (namess r.1))) r.2.2).1 m = upds (upds h r.2.1) (denilB (upds h r.2.1) (reach names (upds h r.2.1) 60 0 (addNs first (namess r.1))) r.2.2).1 m :=
      fun m hm => upds_congr _ (upds_congr _ (e m (.inr hm)))
    have b2 := reach_congr 60 0 _ a2
    rw [b2]
    have c2 : ∀ (l L : List Nat), (∀ m ∈ l, m ∈ reach names (upds (upds h r.2.1) (denilB (upds h r.2.1) (reach names (upds h r.2.1) 60 0 (addNs first (namess r.1))) r.2.2).1) 60 0 (addNs first (namess r.1))) →
        closedN (upds (upds h' r.2.1) (denilB (upds h r.2.1) (reach names (upds h r.2.1) 60 0 (addNs first (namess r.1))) r.2.2).1) L l = closedN (upds (upds h r.2.1) (denilB (upds h r.2.1) (reach names (upds h r.2.1) 60 0 (addNs first (namess r.1))) r.2.2).1) L l := by
      intro l L
      induction l with
      | nil => intro _; rfl
      | cons m l ih => intro hm; simp only [closedN]; rw [a2 m (hm m (by simp)), ih fun k hk => hm k (by simp [hk])]
    rw [c2 _ _ fun m hm => hm, hb]
    simp only [cond_true, Option.some.injEq, Laid.mk.injEq, true_and, and_true]
    exact List.map_congr_left fun m hm => by rw [a2 m hm]
end
end Go.V
