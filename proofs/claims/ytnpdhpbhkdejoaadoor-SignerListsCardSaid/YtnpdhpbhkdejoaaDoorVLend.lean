/- V: values that are lent for good. -/
import Derived.Test.YtnpdhpbhkdejoaaDoorVProc
set_option linter.unusedVariables false
set_option linter.unusedSimpArgs false
namespace Go.V
variable {U : Nat → Type}
section
variable {E : Env U} {w : World} {St : Bool → Nat → Prop} {ι : Nat → Option Value} {s : S U} {N : Nat}

mutual
theorem frz_congr {h h' : Nat → AObj U} : ∀ (q : A U), (∀ m ∈ names q, h' m = h m) → frz h' q = frz h q ∧ frzN h' q = frzN h q
  | .agg l, e => by
    obtain ⟨h1, h2⟩ := frzs_congr l (by simpa [names] using e)
    simp only [frz, frzN, h1, h2]
    exact ⟨trivial, trivial⟩
  | .own m, e => by
    have := e m (by simp [names])
    simp only [frz, frzN, this]
    exact ⟨trivial, trivial⟩
  | .clip false c l, e => ⟨rfl, rfl⟩
  | .clip true c l, e => ⟨rfl, rfl⟩
  | .none, e => ⟨rfl, rfl⟩
  | .int .., e => ⟨rfl, rfl⟩
  | .bool .., e => ⟨rfl, rfl⟩
  | .str .., e => ⟨rfl, rfl⟩
  | .nilp, e => ⟨rfl, rfl⟩
  | .nilf, e => ⟨rfl, rfl⟩
  | .nils .., e => ⟨rfl, rfl⟩
  | .arr .., e => ⟨rfl, rfl⟩
  | .ro .., e => ⟨rfl, rfl⟩
  | .usl .., e => ⟨rfl, rfl⟩
  | .sub .., e => ⟨rfl, rfl⟩
  | .bsl .., e => ⟨rfl, rfl⟩
  | .ptr .., e => ⟨rfl, rfl⟩
  | .yld .., e => ⟨rfl, rfl⟩
  | .rp .., e => ⟨rfl, rfl⟩
  | .clo .., e => ⟨rfl, rfl⟩
  | .tup .., e => ⟨rfl, rfl⟩
theorem frzs_congr {h h' : Nat → AObj U} : ∀ (q : List (A U)), (∀ m ∈ namess q, h' m = h m) → frzs h' q = frzs h q ∧ frzNs h' q = frzNs h q
  | [], e => ⟨rfl, rfl⟩
  | q :: l, e => by
    obtain ⟨h1, h2⟩ := frz_congr q fun m hm => e m (by simp [namess, hm])
    obtain ⟨h3, h4⟩ := frzs_congr l fun m hm => e m (by simp [namess, hm])
    simp only [frzs, frzNs, h1, h2, h3, h4]
    exact ⟨trivial, trivial⟩
end
theorem lend1_congr {h h' : Nat → AObj U} (q : A U) (e : ∀ m ∈ names q, h' m = h m) : lend1 E h' q = lend1 E h q := by
  cases q with
  | bsl m p c n i len =>
    have := e m (by simp [names])
    simp only [lend1, content, this]
  | _ => simp only [lend1, (frz_congr _ e).1, (frz_congr _ e).2]
theorem updsC {α : Type} {m : Nat} : ∀ (l : List (Nat × α)) (f g : Nat → α), f m = g m → upds f l m = upds g l m
  | [], f, g, h => h
  | (k, x) :: l, f, g, h => by
    simp only [upds]
    refine updsC l _ _ ?_
    by_cases e : m = k
    · subst e; rw [upd_same, upd_same]
    · rw [upd_ne _ _ e, upd_ne _ _ e, h]
theorem lendAll_congr : ∀ (q : List (A U)) (h h' : Nat → AObj U), (∀ m ∈ namess q, h' m = h m) → lendAll E h' q = lendAll E h q
  | [], h, h', e => rfl
  | q :: l, h, h', e => by
    have h1 : lend1 E h' q = lend1 E h q := lend1_congr q fun m hm => e m (by simp [namess, hm])
    simp only [lendAll, h1]
    rw [lendAll_congr l (upds h (lend1 E h q).2) (upds h' (lend1 E h q).2) fun m hm => updsC _ _ _ (e m (by simp [namess, hm]))]
mutual
theorem frzN_names {h : Nat → AObj U} : ∀ (q : A U), ∀ x ∈ frzN h q, x.1 ∈ names q
  | .agg l, x, hx => by simp only [frzN] at hx; simpa [names] using frzNs_names l x hx
  | .own m, x, hx => by
    simp only [frzN] at hx
    split at hx <;> simp_all [names]
  | .clip .., x, hx => by simp [frzN] at hx
  | .none, x, hx => by simp [frzN] at hx
  | .int .., x, hx => by simp [frzN] at hx
  | .bool .., x, hx => by simp [frzN] at hx
  | .str .., x, hx => by simp [frzN] at hx
  | .nilp, x, hx => by simp [frzN] at hx
  | .nilf, x, hx => by simp [frzN] at hx
  | .nils .., x, hx => by simp [frzN] at hx
  | .arr .., x, hx => by simp [frzN] at hx
  | .ro .., x, hx => by simp [frzN] at hx
  | .usl .., x, hx => by simp [frzN] at hx
  | .sub .., x, hx => by simp [frzN] at hx
  | .bsl .., x, hx => by simp [frzN] at hx
  | .ptr .., x, hx => by simp [frzN] at hx
  | .yld .., x, hx => by simp [frzN] at hx
  | .rp .., x, hx => by simp [frzN] at hx
  | .clo .., x, hx => by simp [frzN] at hx
  | .tup .., x, hx => by simp [frzN] at hx
theorem frzNs_names {h : Nat → AObj U} : ∀ (q : List (A U)), ∀ x ∈ frzNs h q, x.1 ∈ namess q
  | [], x, hx => by simp [frzNs] at hx
  | q :: l, x, hx => by
    simp only [frzNs, List.mem_append] at hx
    simp only [namess, List.mem_append]
    exact hx.imp (frzN_names q x) (frzNs_names l x)
end
theorem lend1_names {h : Nat → AObj U} (q : A U) : ∀ x ∈ (lend1 E h q).2, x.1 ∈ names q := by
  intro x hx
  cases q with
  | bsl m p c n i len =>
    simp only [lend1] at hx
    split at hx <;> simp_all [names]
  | _ => exact frzN_names (h := h) _ x hx
theorem lendAll_names : ∀ (q : List (A U)) (h : Nat → AObj U), ∀ x ∈ (lendAll E h q).2, x.1 ∈ namess q
  | [], h, x, hx => by simp [lendAll] at hx
  | q :: l, h, x, hx => by
    simp only [lendAll, List.mem_append] at hx
    simp only [namess, List.mem_append]
    exact hx.imp (lend1_names q x) (lendAll_names l _ x)

theorem lend1_known {h : Nat → AObj U} (q : A U) (hk : known (lend1 E h q).1 = true) : known q = true := by
  cases q with
  | bsl m p c n i len => rfl
  | _ => exact frz_known h _ hk
theorem lendAll_known : ∀ (q : List (A U)) (h : Nat → AObj U), (lendAll E h q).1.all known = true → q.all known = true
  | [], h, hk => rfl
  | q :: l, h, hk => by
    simp only [lendAll, List.all_cons, Bool.and_eq_true] at hk ⊢
    exact ⟨lend1_known q hk.1, lendAll_known l _ hk.2⟩
/-- one value is lent -/
theorem lend1_ok (ok : EnvOk2 E) {tm : Array Value} (q : A U) {h : Nat → AObj U} (R : Rel E { s with h := h } N tm w ι St) {v : Value} (hv : RV E w St ι q v) (hk : known (lend1 E h q).1 = true) (hh : hole (lend1 E h q).1 = false) :
    ∃ St', Ext w St ι w St' ι ∧ (∀ g B, St' g B → St g B ∨ OwnH h ι B) ∧ Rel E { s with h := upds h (lend1 E h q).2 } N tm w ι St' ∧ (∀ n, isLive (upds h (lend1 E h q).2 n) = true → isLive (h n) = true) ∧ RV E w St' ι (lend1 E h q).1 v := by
  have gen : lend1 E h q = (frz h q, frzN h q) → ∃ St', Ext w St ι w St' ι ∧ (∀ g B, St' g B → St g B ∨ OwnH h ι B) ∧ Rel E { s with h := upds h (lend1 E h q).2 } N tm w ι St' ∧ (∀ n, isLive (upds h (lend1 E h q).2 n) = true → isLive (h n) = true) ∧ RV E w St' ι (lend1 E h q).1 v := by
    intro e
    rw [e] at hk hh ⊢
    obtain ⟨St', x, g, R', f, c⟩ := frz_ok (s := { s with h := h }) ok q (Frz.refl h) R hv.1 hh
    refine ⟨St', x, g, R', fun n hn => f.live hn, c, ?_⟩
    rw [hv.2]
    revert hk
    cases q with
    | own m => simp only [frz]; split <;> simp [isAgg, known]
    | clip b c l => cases b <;> simp [frz, isAgg]
    | _ => simp [frz, isAgg]
  cases q with
  | bsl m p c n i len =>
    obtain ⟨B, a1, cap, r1, r2, r3, r4, r5, r6, r7⟩ := RV.bsl_inv hv
    cases hm : h m with
    | box q0 =>
      cases hg : getP E q0 p with
      | arr c' M' l' =>
        cases hb : (Nat.beq c c' && Nat.beq n M') with
        | false => simp [lend1, content, hm, hg, hb, known] at hk
        | true =>
          simp only [lend1, content, hm, hg, hb, cond_true]
          simp only [Bool.and_eq_true] at hb
          have e1 := Nat.eq_of_beq_eq_true hb.1
          have e2 := Nat.eq_of_beq_eq_true hb.2
          subst e1; subst e2
          have h0 := R.obj m
          simp only [hm] at h0
          obtain ⟨B', cs, h1, h2, h3, h4, h5⟩ := h0
          rw [r1] at h1
          simp only [Option.some.injEq, Value.pointer.injEq, Addr.mk.injEq, and_true] at h1
          subst h1
          obtain ⟨g1, g2⟩ := h2.getP ok.toEnvOk p r6 (by rw [hg]; rfl)
          rw [hg] at g1 g2
          obtain ⟨g3, g4, -⟩ := g1.arr_inv
          have hlen : (cut l' i len).length = len := by simp only [cut, List.length_take, List.length_drop]; omega
          have hl : isLive (h m) = true := by rw [hm]; rfl
          have hB : blkO (ι m) = some B := by rw [r1]; rfl
          have R1 := R.kill m
          have hfree : ∀ k, isLive (upd h m .dead k) = true → blkO (ι k) ≠ some B := by
            intro k hk2 hk3
            by_cases e : k = m
            · subst e; rw [upd_same] at hk2; simp [isLive] at hk2
            · rw [upd_ne _ _ e] at hk2
              exact e (R.dis k m B hk2 hl hk3 hB)
          have R2 := R1.stable B h5 hfree
          have x : Ext w St ι w (fun g b => St g b ∨ b = B) ι := Ext.stable B
          refine ⟨_, x, fun g B' h => h.imp id fun e => ⟨m, hl, by rw [e]; exact hB⟩, R2, fun k hk2 => ?_, ?_⟩
          · by_cases e : k = m
            · subst e; exact hl
            · simp only [upds] at hk2
              rw [upd_ne _ _ e] at hk2; exact hk2
          · refine .mk1 ?_ rfl (by rw [r7]; rfl)
            rw [r7]
            by_cases hz : len = 0
            · have : cut l' i len = [] := List.eq_nil_of_length_eq_zero (by omega)
              rw [this, hz]
              exact .roE .nil
            · have ha := r5.resolve_left (by omega)
              subst ha
              have hr := rangeAt_sub h3 (po p) (size E.sz (.arr c n l' : A U))
              rw [Nat.zero_add] at hr
              obtain ⟨es, p1, p2⟩ := cut_cells ok.toEnvOk g4 hr (by omega : i + len ≤ l'.length)
              have := RC.ro (b := false) (cap := cap) (p1.ext x) p2 (.inr rfl : St false B ∨ B = B) (by omega) (.nil : RC E w (fun g b => St g b ∨ b = B) ι [] [] [])
              rw [hlen] at this
              exact this
      | none => simp [lend1, content, hm, hg, known] at hk
      | int => simp [lend1, content, hm, hg, known] at hk
      | bool => simp [lend1, content, hm, hg, known] at hk
      | str => simp [lend1, content, hm, hg, known] at hk
      | nilp => simp [lend1, content, hm, hg, known] at hk
      | nilf => simp [lend1, content, hm, hg, known] at hk
      | agg => simp [lend1, content, hm, hg, known] at hk
      | nils => simp [lend1, content, hm, hg, known] at hk
      | ro => simp [lend1, content, hm, hg, known] at hk
      | clip => simp [lend1, content, hm, hg, known] at hk
      | usl => simp [lend1, content, hm, hg, known] at hk
      | own => simp [lend1, content, hm, hg, known] at hk
      | sub => simp [lend1, content, hm, hg, known] at hk
      | bsl => simp [lend1, content, hm, hg, known] at hk
      | ptr => simp [lend1, content, hm, hg, known] at hk
      | yld => simp [lend1, content, hm, hg, known] at hk
      | rp => simp [lend1, content, hm, hg, known] at hk
      | clo => simp [lend1, content, hm, hg, known] at hk
      | tup => simp [lend1, content, hm, hg, known] at hk
    | dead => simp [lend1, content, hm, known] at hk
    | lp lf lid live vals j => simp [lend1, content, hm, known] at hk
    | lst => simp [lend1, content, hm, known] at hk
    | fz => simp [lend1, content, hm, known] at hk
  | _ => exact gen rfl

theorem lendAll_ok (ok : EnvOk2 E) {tm : Array Value} : ∀ (l : List (A U)) {h : Nat → AObj U} {St : Bool → Nat → Prop} {vs : List Value}, Rel E { s with h := h } N tm w ι St → RVs E w St ι l vs → (lendAll E h l).1.all known = true → holes (lendAll E h l).1 = false →
    ∃ St', Ext w St ι w St' ι ∧ (∀ g B, St' g B → St g B ∨ OwnH h ι B) ∧ Rel E { s with h := upds h (lendAll E h l).2 } N tm w ι St' ∧ (∀ n, isLive (upds h (lendAll E h l).2 n) = true → isLive (h n) = true) ∧ RVs E w St' ι (lendAll E h l).1 vs
  | [], h, St, vs, R, hv, hk, hh => ⟨St, Ext.refl, fun _ _ h => .inl h, R, fun _ h => h, hv⟩
  | q :: l, h, St, vs, R, hv, hk, hh => by
    cases vs with
    | nil => exact hv.elim
    | cons v vs =>
      simp only [lendAll, List.all_cons, Bool.and_eq_true, holes, Bool.or_eq_false_iff] at hk hh
      have hv1 : RV E w St ι q v := by
        rcases hv.1 with e | h1
        · rw [e] at hk; simp [lend1, frz, known] at hk
        · exact h1
      obtain ⟨St1, x1, g1, R1, f1, d1⟩ := lend1_ok ok q R hv1 hk.1 hh.1
      obtain ⟨St2, x2, g2, R2, f2, d2⟩ := lendAll_ok ok l R1 (hv.2.ext x1) hk.2 hh.2
      refine ⟨St2, x1.trans x2, fun g B h3 => ?_, ?_, ?_, ?_⟩
      · rcases g2 g B h3 with h4 | ⟨n, h4, h5⟩
        · exact g1 g B h4
        · exact .inr ⟨n, f1 n h4, h5⟩
      · simp only [lendAll, upds_append]; exact R2
      · intro n hn
        simp only [lendAll, upds_append] at hn
        exact f1 n (f2 n hn)
      · exact ⟨.inr (d1.ext x2), d2⟩
end
end Go.V
