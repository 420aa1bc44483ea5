/- V: what a call gives gets names. -/
import Derived.Test.YtnpdhpbhkdejoaaDoorVCall
set_option linter.unusedVariables false
set_option linter.unusedSimpArgs false
namespace Go.V
variable {U : Nat → Type}
section
variable {E : Env U} {w : World} {St : Bool → Nat → Prop} {N : Nat} {tm : Array Value}

structure Named (E : Env U) (s : S U) (N : Nat) (tm : Array Value) (w : World) (ι : Nat → Option Value) (St : Bool → Nat → Prop) (wr : List (Nat × AObj U)) (M n n' : Nat) (bs : List Nat) (ι' : Nat → Option Value) : Prop where
  rel : Rel E { s with h := upds s.h wr } N tm w ι' St
  nm : ∀ m v, ι m = some v → ι' m = some v
  new : ∀ m, ι' m ≠ none → ι m ≠ none ∨ (n ≤ m ∧ m < n')
  le : n ≤ n'
  free : ∀ m, n' ≤ m → m < M → ι' m = none ∧ isLive (upds s.h wr m) = false
  own : ∀ B, Own { s with h := upds s.h wr } ι' B → Own s ι B ∨ B ∈ bs

theorem Named.refl {s : S U} {ι : Nat → Option Value} {M n : Nat} {bs : List Nat} (R : Rel E s N tm w ι St) (hf : ∀ m, n ≤ m → m < M → ι m = none ∧ isLive (s.h m) = false) : Named E s N tm w ι St [] M n n bs ι :=
  ⟨R, fun _ _ h => h, fun _ h => .inl h, Nat.le_refl _, hf, fun _ h => .inl h⟩

theorem ext_names {ι ι' : Nat → Option Value} (h : ∀ m v, ι m = some v → ι' m = some v) : Ext w St ι w St ι' := ⟨fun _ _ h => h, h, fun _ _ => rfl, Nat.le_refl _⟩

theorem usl_inv {c : Nat} {xs : List (U c)} {cs : List Value} {bs : List Nat} {ι : Nat → Option Value} (h : RC E w St ι [.usl c xs] cs bs) :
    (xs = [] ∧ (∃ a, cs = [.slice a 0 0]) ∧ bs = []) ∨ ∃ B off cap ds, cs = [.slice (some ⟨B, off, .none⟩) xs.length cap] ∧ bs = [B] ∧ RC E w St ι (xs.map (E.enc c)) ds [] ∧ w.rangeAt B off ds ∧ w.there B off (cap * E.sz c) ∧ xs.length ≤ cap ∧ B < w.heap.size := by
  cases h with
  | uslE h => cases h; exact .inl ⟨rfl, ⟨_, rfl⟩, rfl⟩
  | usl h1 h2 h3 h4 h5 h6 => cases h6; exact .inr ⟨_, _, _, _, rfl, rfl, h1, h2, h3, h4, h5⟩

mutual
theorem nameA_le (b : Nat) : ∀ (q : A U) (n : Nat), n ≤ (nameA [] b q n).2.2
  | .usl c xs, n => by simp [nameA]
  | .agg l, n => by simpa [nameA] using nameAs_le b l n
  | .tup l, n => by simpa [nameA] using nameAs_le b l n
  | .clo f l, n => by simpa [nameA] using nameAs_le b l n
  | .none, n => Nat.le_refl _
  | .own m, n => Nat.le_refl _
  | .sub m c i len, n => Nat.le_refl _
  | .bsl m p c M i len, n => Nat.le_refl _
  | .ptr m p, n => Nat.le_refl _
  | .yld m, n => Nat.le_refl _
  | .int k m, n => Nat.le_refl _
  | .bool k, n => Nat.le_refl _
  | .str k, n => Nat.le_refl _
  | .nilp, n => Nat.le_refl _
  | .nilf, n => Nat.le_refl _
  | .nils c, n => Nat.le_refl _
  | .arr c k xs, n => Nat.le_refl _
  | .ro g c xs, n => Nat.le_refl _
  | .clip g c xs, n => Nat.le_refl _
  | .rp g c xs i p, n => Nat.le_refl _
theorem nameAs_le (b : Nat) : ∀ (q : List (A U)) (n : Nat), n ≤ (nameAs [] b q n).2.2
  | [], n => Nat.le_refl _
  | q :: l, n => by simpa [nameAs] using Nat.le_trans (nameA_le b q n) (nameAs_le b l _)
end

mutual
theorem nameA_ok (ok : EnvOk2 E) (b : Nat) : ∀ (q : A U) {s : S U} {ι : Nat → Option Value} {cs : List Value} {bs : List Nat} {M n : Nat}, Rel E s N tm w ι St → RC E w St noNm [q] cs bs → ptrs q = [] →
    (∀ m, n ≤ m → m < M → ι m = none ∧ isLive (s.h m) = false) → (nameA [] b q n).2.2 ≤ M → bs.Nodup → (∀ B ∈ bs, ¬ An St B ∧ ¬ Own s ι B) →
    ∃ ι', Named E s N tm w ι St (nameA [] b q n).2.1 M n (nameA [] b q n).2.2 bs ι' ∧ RC E w St ι' [(nameA [] b q n).1] cs [] ∧ isAgg (nameA [] b q n).1 = isAgg q ∧ size E.sz (nameA [] b q n).1 = size E.sz q
  | .usl c xs, s, ι, cs, bs, M, n, R, hc, hp, hf, hM, hd, hb => by
    simp only [nameA]
    obtain ⟨f1, f2⟩ := hf n (Nat.le_refl _) (by simp only [nameA] at hM; omega)
    have fin : ∀ v, RO E w St (upd ι n (some v)) (.lst c xs) (some v) → (∀ B, blk v = some B → B ∈ bs) → cs = [v] → (∃ a L C, v = .slice a L C) →
        ∃ ι', Named E s N tm w ι St [(n, .lst c xs)] M n (n + 1) bs ι' ∧ RC E w St ι' [(.own n : A U)] cs [] ∧ isAgg (.own n : A U) = isAgg (.usl c xs : A U) ∧ size E.sz (.own n : A U) = size E.sz (.usl c xs : A U) := by
      rintro v ho hB rfl ⟨a, L, C, rfl⟩
      have R1 := R.adopt n (.lst c xs) (.slice a L C) f2 (.inl f1) ho (fun B _ h => ⟨(hb B (hB B h)).1, fun m h1 h2 => (hb B (hB B h)).2 ⟨m, h1, h2⟩⟩)
      have hnm : ∀ m v, ι m = some v → upd ι n (some (.slice a L C)) m = some v := fun m v h => by
        by_cases e : m = n
        · subst e; rw [f1] at h; simp at h
        · rw [upd_ne _ _ e]; exact h
      refine ⟨_, ⟨R1, hnm, fun m h => ?_, by omega, fun m h hm => ?_, fun B hB2 => ?_⟩, .own (upd_same _ _ _) .nil, rfl, rfl⟩
      · by_cases e : m = n
        · exact .inr (by omega)
        · rw [upd_ne _ _ e] at h; exact .inl h
      · have e : m ≠ n := by omega
        simp only [upds, upd_ne _ _ e]
        exact hf m (by omega) hm
      · obtain ⟨m, h1, h2⟩ := hB2
        by_cases e : m = n
        · subst e; rw [upd_same] at h2; exact .inr (hB B h2)
        · rw [upd_ne _ _ e] at h2
          simp only [upds, upd_ne _ _ e] at h1
          exact .inl ⟨m, h1, h2⟩
    rcases usl_inv hc with ⟨rfl, ⟨a0, h2⟩, -⟩ | ⟨B, off, cap, ds, h1, h2, h3, h4, h5, h6, h7⟩
    · exact fin _ (.inl ⟨⟨_, rfl⟩, rfl⟩) (fun B h => by unfold blk at h; rw [base_zero] at h; cases h) h2 ⟨_, _, _, rfl⟩
    · refine fin _ ?_ (fun B' h => ?_) h1 ⟨_, _, _, rfl⟩
      · rcases Nat.eq_zero_or_pos cap with h0 | h0
        · subst h0
          have hx : xs = [] := List.eq_nil_of_length_eq_zero (by omega)
          subst hx
          exact .inl ⟨⟨_, rfl⟩, rfl⟩
        · exact RO.lst_of h0 rfl (h3.encs ok.toEnvOk (fun _ h => h)) h4 h5 h6 h7
      · rw [(blk_inv h).1, h2]; simp
  | .agg l, s, ι, cs, bs, M, n, R, hc, hp, hf, hM, hd, hb => by
    simp only [nameA]
    obtain ⟨ι', h1, h2, h3⟩ := nameAs_ok ok b l R hc.agg_inv (by simpa [ptrs] using hp) hf (by simpa [nameA] using hM) hd hb
    exact ⟨ι', h1, by simpa using RC.agg h2 .nil, rfl, by simp only [size]; exact sizes_of h3⟩
  | .clo f l, s, ι, cs, bs, M, n, R, hc, hp, hf, hM, hd, hb => by
    simp only [nameA]
    have hc' : bs = [] ∧ ∃ vs : Array Value, cs = [.func (.func f) #[] vs] ∧ RC E w St noNm l ((vs.toList.map (·.cells.toList)).flatten) [] ∧ vs.toList.map (fun v => (v.cells.size, isAggV v)) = l.map (fun a => (size E.sz a, isAgg a)) := by
      cases hc with
      | clo h1 h2 h3 => cases h3; exact ⟨rfl, _, rfl, h1, h2⟩
    obtain ⟨rfl, vs, rfl, h4, h5⟩ := hc'
    obtain ⟨ι', h1, h2, h3⟩ := nameAs_ok ok b l R h4 (by simpa [ptrs] using hp) hf (by simpa [nameA] using hM) hd hb
    exact ⟨ι', h1, .clo h2 (h5.trans h3.symm) .nil, rfl, rfl⟩
  | .none, s, ι, cs, bs, M, n, R, hc, hp, hf, hM, hd, hb => by cases hc
  | .tup l, s, ι, cs, bs, M, n, R, hc, hp, hf, hM, hd, hb => by cases hc
  | .own m, s, ι, cs, bs, M, n, R, hc, hp, hf, hM, hd, hb => by cases hc with | own h _ => simp [noNm] at h
  | .sub m c i len, s, ι, cs, bs, M, n, R, hc, hp, hf, hM, hd, hb => by cases hc with | sub h _ _ _ _ _ => simp [noNm] at h
  | .bsl m p c M' i len, s, ι, cs, bs, M, n, R, hc, hp, hf, hM, hd, hb => by cases hc with | bsl h _ _ _ _ _ _ => simp [noNm] at h
  | .ptr m p, s, ι, cs, bs, M, n, R, hc, hp, hf, hM, hd, hb => by simp [ptrs] at hp
  | .yld m, s, ι, cs, bs, M, n, R, hc, hp, hf, hM, hd, hb => by simp [ptrs] at hp
  | .int k m, s, ι, cs, bs, M, n, R, hc, hp, hf, hM, hd, hb => ⟨ι, Named.refl R hf, by simp only [nameA]; cases hc; rename_i hn; cases hn; exact .int .nil, rfl, rfl⟩
  | .bool k, s, ι, cs, bs, M, n, R, hc, hp, hf, hM, hd, hb => ⟨ι, Named.refl R hf, by simp only [nameA]; cases hc; rename_i hn; cases hn; exact .bool .nil, rfl, rfl⟩
  | .str k, s, ι, cs, bs, M, n, R, hc, hp, hf, hM, hd, hb => ⟨ι, Named.refl R hf, by simp only [nameA]; cases hc; rename_i hn; cases hn; exact .str .nil, rfl, rfl⟩
  | .nilp, s, ι, cs, bs, M, n, R, hc, hp, hf, hM, hd, hb => ⟨ι, Named.refl R hf, by simp only [nameA]; cases hc; rename_i hn; cases hn; exact .nilp .nil, rfl, rfl⟩
  | .nilf, s, ι, cs, bs, M, n, R, hc, hp, hf, hM, hd, hb => ⟨ι, Named.refl R hf, by simp only [nameA]; cases hc; rename_i hn; cases hn; exact .nilf .nil, rfl, rfl⟩
  | .nils c, s, ι, cs, bs, M, n, R, hc, hp, hf, hM, hd, hb => ⟨ι, Named.refl R hf, by simp only [nameA]; cases hc; rename_i hn; cases hn; exact .nils .nil, rfl, rfl⟩
  | .arr c k xs, s, ι, cs, bs, M, n, R, hc, hp, hf, hM, hd, hb => by
    obtain ⟨h1, h2, rfl⟩ := hc.arr_inv
    exact ⟨ι, Named.refl R hf, by simpa [nameA] using RC.arr h1 (h2.encs ok.toEnvOk (fun _ h => h)) .nil, rfl, rfl⟩
  | .ro g c xs, s, ι, cs, bs, M, n, R, hc, hp, hf, hM, hd, hb => by
    refine ⟨ι, Named.refl R hf, ?_, rfl, rfl⟩
    simp only [nameA]
    cases hc with
    | roE hn => cases hn; exact .roE .nil
    | ro h1 h2 h3 h4 hn => cases hn; exact .ro (h1.encs ok.toEnvOk (fun _ h => h)) h2 h3 h4 .nil
  | .clip g c xs, s, ι, cs, bs, M, n, R, hc, hp, hf, hM, hd, hb => by
    refine ⟨ι, Named.refl R hf, ?_, rfl, rfl⟩
    simp only [nameA]
    cases hc with
    | clipE hn => cases hn; exact .clipE .nil
    | clip h1 h2 h3 hn => cases hn; exact .clip (h1.encs ok.toEnvOk (fun _ h => h)) h2 h3 .nil
  | .rp g c xs i p, s, ι, cs, bs, M, n, R, hc, hp, hf, hM, hd, hb => by
    refine ⟨ι, Named.refl R hf, ?_, rfl, rfl⟩
    simp only [nameA]
    cases hc with
    | rp h1 h2 h3 h4 h5 hn => cases hn; exact .rp (h1.encs ok.toEnvOk (fun _ h => h)) h2 h3 h4 h5 .nil
theorem nameAs_ok (ok : EnvOk2 E) (b : Nat) : ∀ (q : List (A U)) {s : S U} {ι : Nat → Option Value} {cs : List Value} {bs : List Nat} {M n : Nat}, Rel E s N tm w ι St → RC E w St noNm q cs bs → ptrss q = [] →
    (∀ m, n ≤ m → m < M → ι m = none ∧ isLive (s.h m) = false) → (nameAs [] b q n).2.2 ≤ M → bs.Nodup → (∀ B ∈ bs, ¬ An St B ∧ ¬ Own s ι B) →
    ∃ ι', Named E s N tm w ι St (nameAs [] b q n).2.1 M n (nameAs [] b q n).2.2 bs ι' ∧ RC E w St ι' (nameAs [] b q n).1 cs [] ∧ (nameAs [] b q n).1.map (fun a => (size E.sz a, isAgg a)) = q.map (fun a => (size E.sz a, isAgg a))
  | [], s, ι, cs, bs, M, n, R, hc, hp, hf, hM, hd, hb => by cases hc; exact ⟨ι, Named.refl R hf, .nil, rfl⟩
  | q :: l, s, ι, cs, bs, M, n, R, hc, hp, hf, hM, hd, hb => by
    obtain ⟨c1, c2, b1, b2, rfl, rfl, h1, h2⟩ := RC.cons_inv hc
    obtain ⟨p1, p2⟩ := app_nil (by simpa [ptrss] using hp : ptrs q ++ ptrss l = [])
    obtain ⟨d1, d2, d3⟩ := List.nodup_append.1 hd
    obtain ⟨ι1, n1, r1, a1, z1⟩ := nameA_ok ok b q R h1 p1 hf (Nat.le_trans (nameAs_le b l _) (by simpa [nameAs] using hM)) d1 (fun B hB => hb B (List.mem_append_left _ hB))
    obtain ⟨ι2, n2, r2, m2⟩ := nameAs_ok ok b l n1.rel h2 p2 n1.free (by simpa [nameAs] using hM) d2 (fun B hB => ⟨(hb B (List.mem_append_right _ hB)).1, fun ho => by
      rcases n1.own B ho with h | h
      · exact (hb B (List.mem_append_right _ hB)).2 h
      · exact d3 B h B hB rfl⟩)
    refine ⟨ι2, ⟨?_, fun m v h => n2.nm m v (n1.nm m v h), fun m h => ?_, Nat.le_trans n1.le n2.le, fun m h hm => ?_, fun B h => ?_⟩, ?_, ?_⟩
    · simp only [nameAs, upds_append]; exact n2.rel
    · simp only [nameAs]
      rcases n2.new m h with h | h
      · rcases n1.new m h with h | h
        · exact .inl h
        · exact .inr ⟨h.1, Nat.lt_of_lt_of_le h.2 n2.le⟩
      · exact .inr ⟨Nat.le_trans n1.le h.1, h.2⟩
    · simp only [nameAs, upds_append] at h ⊢; exact n2.free m h hm
    · simp only [nameAs, upds_append] at h
      rcases n2.own B h with h | h
      · rcases n1.own B h with h | h
        · exact .inl h
        · exact .inr (List.mem_append_left _ h)
      · exact .inr (List.mem_append_right _ h)
    · simp only [nameAs]
      simpa using RC.cons (r1.ext (ext_names n2.nm)) r2
    · simp only [nameAs, List.map_cons, a1, z1, m2]
end

/-- lists that are lent for good -/
theorem fzOf_ok (ok : EnvOk2 E) : ∀ (l : List Nat) {s : S U} {h' : Nat → AObj U} {ι : Nat → Option Value} {St : Bool → Nat → Prop}, Frz s.h h' → Rel E { s with h := h' } N tm w ι St →
    (∀ n c x, s.h n = .lst c x → h' n = .fz c x → ∀ B, blkO (ι n) = some B → ∀ g, St g B) →
    ∃ St', Ext w St ι w St' ι ∧ (∀ g B, St' g B → St g B ∨ Own s ι B) ∧ Rel E { s with h := upds h' (fzOf s.h l) } N tm w ι St' ∧ Frz s.h (upds h' (fzOf s.h l)) ∧
      (∀ m ∈ l, isLst (s.h m) = true → ∀ B, blkO (ι m) = some B → ∀ g, St' g B)
  | [], s, h', ι, St, f, R, hs => ⟨St, Ext.refl, fun _ _ h => .inl h, R, f, by simp⟩
  | m :: l, s, h', ι, St, f, R, hs => by
    cases hm : s.h m with
    | lst c x =>
      have e : fzOf s.h (m :: l) = (m, .fz c x) :: fzOf s.h l := by simp [fzOf, hm]
      rw [e]
      simp only [upds]
      rcases f m with h1 | ⟨c', l', h1, h2⟩
      · obtain ⟨St1, x1, g1, R1, q, q2⟩ := R.freeze (m := m) (c := c) (l := x) (by show h' m = _; rw [h1, hm])
        have f1 : Frz s.h (upd h' m (.fz c x)) := fun n => by
          by_cases e : n = m
          · subst e; exact .inr ⟨c, x, hm, upd_same _ _ _⟩
          · rw [upd_ne _ _ e]; exact f n
        obtain ⟨St2, x2, g2, R2, f2, p2⟩ := fzOf_ok ok l (s := s) f1 R1 (fun n c' x' h1 h2 B hB g => by
          by_cases e : n = m
          · subst e; exact q2 B hB g
          · rw [upd_ne _ _ e] at h2; exact x1.st _ _ (hs n c' x' h1 h2 B hB g))
        refine ⟨St2, x1.trans x2, fun g B h => (g2 g B h).elim (fun h => (g1 g B h).imp id fun ⟨n, h1, h2⟩ => ⟨n, f.live h1, h2⟩) .inr, R2, f2, fun k hk hl B hB g => ?_⟩
        rcases List.mem_cons.1 hk with rfl | hk
        · exact x2.st _ _ (q2 B hB g)
        · exact p2 k hk hl B hB g
      · rw [hm] at h1
        obtain ⟨rfl, h1⟩ := AObj.lst.inj h1
        obtain rfl := eq_of_heq h1
        have e : upd h' m (.fz c x) = h' := by rw [← h2, upd_self]
        rw [e]
        obtain ⟨St2, x2, g2, R2, f2, p2⟩ := fzOf_ok ok l (s := s) f R hs
        refine ⟨St2, x2, g2, R2, f2, fun k hk hl B hB g => ?_⟩
        rcases List.mem_cons.1 hk with rfl | hk
        · exact x2.st _ _ (hs k c x hm h2 B hB g)
        · exact p2 k hk hl B hB g
    | dead =>
      have e : fzOf s.h (m :: l) = fzOf s.h l := by simp [fzOf, hm]
      rw [e]
      obtain ⟨St2, x2, g2, R2, f2, p2⟩ := fzOf_ok ok l (s := s) f R hs
      exact ⟨St2, x2, g2, R2, f2, fun k hk hl => by rcases List.mem_cons.1 hk with rfl | hk; (rw [hm] at hl; simp [isLst] at hl); exact p2 k hk hl⟩
    | lp lf lid live vals j =>
      have e : fzOf s.h (m :: l) = fzOf s.h l := by simp [fzOf, hm]
      rw [e]
      obtain ⟨St2, x2, g2, R2, f2, p2⟩ := fzOf_ok ok l (s := s) f R hs
      exact ⟨St2, x2, g2, R2, f2, fun k hk hl => by rcases List.mem_cons.1 hk with rfl | hk; (rw [hm] at hl; simp [isLst] at hl); exact p2 k hk hl⟩
    | box q =>
      have e : fzOf s.h (m :: l) = fzOf s.h l := by simp [fzOf, hm]
      rw [e]
      obtain ⟨St2, x2, g2, R2, f2, p2⟩ := fzOf_ok ok l (s := s) f R hs
      exact ⟨St2, x2, g2, R2, f2, fun k hk hl => by rcases List.mem_cons.1 hk with rfl | hk; (rw [hm] at hl; simp [isLst] at hl); exact p2 k hk hl⟩
    | fz c x =>
      have e : fzOf s.h (m :: l) = fzOf s.h l := by simp [fzOf, hm]
      rw [e]
      obtain ⟨St2, x2, g2, R2, f2, p2⟩ := fzOf_ok ok l (s := s) f R hs
      exact ⟨St2, x2, g2, R2, f2, fun k hk hl => by rcases List.mem_cons.1 hk with rfl | hk; (rw [hm] at hl; simp [isLst] at hl); exact p2 k hk hl⟩
end
end Go.V
