/- V: what an operation looks at. -/
import Derived.Test.YtnpdhpbhkdejoaaDoorVCall3
set_option linter.unusedVariables false
set_option linter.unusedSimpArgs false
namespace Go.V
variable {U : Nat → Type}
section
variable {E : Env U} {s s' : S U} {b : Nat} {o : Oper} {h h' : Nat → AObj U}

mutual
theorem frz_local : ∀ (q : A U), (∀ n ∈ (frzN h q).map (·.1), h' n = h n) → hole (frz h q) = false → frz h' q = frz h q ∧ frzN h' q = frzN h q
  | .own m, e, hh => by
    cases hm : h m with
    | lst c l =>
      have e1 := e m (by simp [frzN, hm])
      rw [hm] at e1
      exact ⟨by simp only [frz, e1, hm], by simp only [frzN, e1, hm]⟩
    | fz c l =>
      have e1 := e m (by simp [frzN, hm])
      rw [hm] at e1
      exact ⟨by simp only [frz, e1, hm], by simp only [frzN, e1, hm]⟩
    | dead => simp [frz, hm, hole] at hh
    | lp lf lid live vals j => simp [frz, hm, hole] at hh
    | box x => simp [frz, hm, hole] at hh
  | .agg l, e, hh => by
    obtain ⟨h1, h2⟩ := frzs_local l (by simpa [frzN] using e) (by simpa [frz, hole] using hh)
    exact ⟨by simp only [frz, h1], by simp only [frzN, h2]⟩
  | .none, e, hh => ⟨rfl, rfl⟩
  | .tup l, e, hh => ⟨rfl, rfl⟩
  | .clo f l, e, hh => ⟨rfl, rfl⟩
  | .sub m c i len, e, hh => ⟨rfl, rfl⟩
  | .bsl m p c M i len, e, hh => ⟨rfl, rfl⟩
  | .ptr m p, e, hh => ⟨rfl, rfl⟩
  | .yld m, e, hh => ⟨rfl, rfl⟩
  | .int k m, e, hh => ⟨rfl, rfl⟩
  | .bool k, e, hh => ⟨rfl, rfl⟩
  | .str k, e, hh => ⟨rfl, rfl⟩
  | .nilp, e, hh => ⟨rfl, rfl⟩
  | .nilf, e, hh => ⟨rfl, rfl⟩
  | .nils c, e, hh => ⟨rfl, rfl⟩
  | .usl c l, e, hh => ⟨rfl, rfl⟩
  | .arr c k xs, e, hh => ⟨rfl, rfl⟩
  | .ro g c xs, e, hh => ⟨rfl, rfl⟩
  | .clip true c xs, e, hh => ⟨rfl, rfl⟩
  | .clip false c xs, e, hh => ⟨rfl, rfl⟩
  | .rp g c xs i p, e, hh => ⟨rfl, rfl⟩
theorem frzs_local : ∀ (q : List (A U)), (∀ n ∈ (frzNs h q).map (·.1), h' n = h n) → holes (frzs h q) = false → frzs h' q = frzs h q ∧ frzNs h' q = frzNs h q
  | [], e, hh => ⟨rfl, rfl⟩
  | q :: l, e, hh => by
    simp only [frzs, holes, Bool.or_eq_false_iff] at hh
    simp only [frzNs, List.map_append, List.mem_append] at e
    obtain ⟨h1, h2⟩ := frz_local q (fun n hn => e n (.inl hn)) hh.1
    obtain ⟨h3, h4⟩ := frzs_local l (fun n hn => e n (.inr hn)) hh.2
    exact ⟨by simp only [frzs, h1, h3], by simp only [frzNs, h2, h4]⟩
end

theorem content_local {q : Cont U} {y : A U} (hc : content E h y = some q) (e : ∀ n ∈ q.rd, h' n = h n) : content E h' y = some q := by
  cases y with
  | own m =>
    simp only [content] at hc ⊢
    cases hm : h m with
    | lst c l => rw [hm] at hc; simp only [Option.some.injEq] at hc; subst hc; rw [e m (by simp), hm]
    | fz c l => rw [hm] at hc; simp only [Option.some.injEq] at hc; subst hc; rw [e m (by simp), hm]
    | dead => rw [hm] at hc; simp at hc
    | lp lf lid live vals j => rw [hm] at hc; simp at hc
    | box x => rw [hm] at hc; simp at hc
  | sub m c i len =>
    simp only [content] at hc ⊢
    cases hm : h m with
    | lst c' l =>
      rw [hm] at hc; simp only [] at hc
      cases hb : Nat.beq c' c with
      | false => rw [hb] at hc; simp at hc
      | true => rw [hb] at hc; simp only [cond_true, Option.some.injEq] at hc; subst hc; rw [e m (by simp), hm]; simp [hb]
    | fz c' l =>
      rw [hm] at hc; simp only [] at hc
      cases hb : Nat.beq c' c with
      | false => rw [hb] at hc; simp at hc
      | true => rw [hb] at hc; simp only [cond_true, Option.some.injEq] at hc; subst hc; rw [e m (by simp), hm]; simp [hb]
    | dead => rw [hm] at hc; simp at hc
    | lp lf lid live vals j => rw [hm] at hc; simp at hc
    | box x => rw [hm] at hc; simp at hc
  | bsl m p c M i len =>
    simp only [content] at hc ⊢
    cases hm : h m with
    | box x =>
      rw [hm] at hc; simp only [] at hc
      have : m ∈ q.rd := by
        revert hc; simp only [Bool.cond_eq_ite]; intro hc; (repeat' split at hc) <;> cases hc
        simp
      rw [e m this, hm]; exact hc
    | lst c' l => rw [hm] at hc; simp at hc
    | fz c' l => rw [hm] at hc; simp at hc
    | dead => rw [hm] at hc; simp at hc
    | lp lf lid live vals j => rw [hm] at hc; simp at hc
  | _ => exact hc

theorem lenV_local (t : TypeId) (x : A U) (hne : lenV E s t x ≠ .bad) (hH : ∀ n ∈ lookOf (lenV E s t x), s'.h n = s.h n) : lenV E s' t x = lenV E s t x := by
  unfold lenV at *
  cases ht : E.ty t with
  | sl e =>
    rw [ht] at hne hH
    cases x with
    | own m =>
      simp only [] at hne hH ⊢
      cases hm : s.h m with
      | lst c l => rw [hm] at hH; rw [hH m (by simp [lookOf]), hm]
      | fz c l => rw [hm] at hH; rw [hH m (by simp [lookOf]), hm]
      | dead => rw [hm] at hne; exact absurd rfl hne
      | lp lf lid live vals j => rw [hm] at hne; exact absurd rfl hne
      | box q => rw [hm] at hne; exact absurd rfl hne
    | _ => rfl
  | _ => rfl

theorem cond_ne {α : Type} {c : Bool} {p q : α} (h : cond c p q ≠ q) : c = true := by cases c; exact absurd rfl h; rfl

theorem appendV_local (tx ty : TypeId) (x y : A U) (hne : appendV E s b tx ty x y ≠ .bad) (hH : ∀ n ∈ lookOf (appendV E s b tx ty x y), s'.h n = s.h n) : appendV E s' b tx ty x y = appendV E s b tx ty x y := by
  unfold appendV at *
  cases ht : E.ty ty with
  | sl e =>
    rw [ht] at hne hH
    simp only [] at hne hH ⊢
    cases hc : content E s.h y with
    | none => rw [hc] at hne; exact absurd rfl hne
    | some q =>
      rw [hc] at hne hH
      simp only [] at hne hH ⊢
      cases x with
      | nils c =>
        simp only [] at hne hH ⊢
        cases hs : slOf E tx c with
        | false => rw [hs] at hne; exact absurd rfl hne
        | true =>
          rw [hs] at hne hH
          simp only [cond_true] at hne hH ⊢
          by_cases hq : q.c = c
          · rw [dif_pos hq] at hH
            rw [content_local hc (fun n hn => hH n (by simp [lookOf, hn]))]
          · rw [dif_neg hq] at hne; exact absurd rfl hne
      | clip g c lx =>
        simp only [] at hne hH ⊢
        cases hs : slOf E tx c with
        | false => rw [hs] at hne; exact absurd rfl hne
        | true =>
          rw [hs] at hne hH
          simp only [cond_true] at hne hH ⊢
          by_cases hq : q.c = c
          · rw [dif_pos hq] at hH
            rw [content_local hc (fun n hn => hH n (by simp [lookOf, hn]))]
          · rw [dif_neg hq] at hne; exact absurd rfl hne
      | own m =>
        simp only [] at hne hH ⊢
        cases hm : s.h m with
        | lst c lx =>
          rw [hm] at hne hH
          simp only [] at hne hH ⊢
          cases hs : slOf E tx c with
          | false => rw [hs] at hne; exact absurd rfl hne
          | true =>
            rw [hs] at hne hH
            simp only [cond_true] at hne hH ⊢
            by_cases hq : q.c = c
            · rw [dif_pos hq] at hH
              rw [content_local hc (fun n hn => hH n (by simp [lookOf, hn])), hH m (by simp [lookOf]), hm]
              simp only [hs, cond_true]
            · rw [dif_neg hq] at hne; exact absurd rfl hne
        | fz c l => rw [hm] at hne; exact absurd rfl hne
        | dead => rw [hm] at hne; exact absurd rfl hne
        | lp lf lid live vals j => rw [hm] at hne; exact absurd rfl hne
        | box q => rw [hm] at hne; exact absurd rfl hne
      | _ => exact absurd rfl hne
  | _ => rfl

theorem copyV_local (tx ty : TypeId) (x y : A U) (hne : copyV E s tx ty x y ≠ .bad) (hH : ∀ n ∈ lookOf (copyV E s tx ty x y), s'.h n = s.h n) : copyV E s' tx ty x y = copyV E s tx ty x y := by
  unfold copyV at *
  cases ht : E.ty ty with
  | sl e =>
    rw [ht] at hne hH
    cases hc : content E s.h y with
    | none => rw [hc] at hne; exact absurd rfl hne
    | some q =>
      rw [hc] at hne hH
      cases x with
      | bsl m p c n i len =>
        simp only [] at hne hH ⊢
        cases hm : s.h m with
        | box a =>
          rw [hm] at hne hH
          simp only [] at hne hH ⊢
          cases hg : getP E a p with
          | arr c' n' l =>
            rw [hg] at hne hH
            simp only [] at hne hH ⊢
            by_cases hq : q.c = c'
            · rw [dif_pos hq] at hne hH
              cases hb : (slOf E tx c && (Nat.beq c c' && Nat.beq n n')) with
              | false => rw [hb] at hne; exact absurd rfl hne
              | true =>
                rw [hb] at hne hH
                simp only [cond_true] at hne hH
                cases hs : setP E a p (.arr c' n' (splice l i (hq ▸ q.l) (Nat.min q.l.length len))) with
                | none => rw [hs] at hne; exact absurd rfl hne
                | some a' =>
                  rw [hs] at hH
                  simp only [lookOf, List.mem_append, List.mem_cons] at hH
                  rw [content_local hc (fun n hn => hH n (.inl (.inr hn)))]
                  simp only []
                  rw [hH m (.inl (.inl rfl)), hm]
                  simp only [hg, dif_pos hq, hb, cond_true, hs]
            · rw [dif_neg hq] at hne; exact absurd rfl hne
          | _ => rw [hg] at hne; exact absurd rfl hne
        | _ => rw [hm] at hne; exact absurd rfl hne
      | _ => exact absurd rfl hne
  | _ => rfl
theorem convV_local (src dst : TypeId) (x : A U) (hne : convV E s b src dst x ≠ .bad) (hH : ∀ n ∈ lookOf (convV E s b src dst x), s'.h n = s.h n) : convV E s' b src dst x = convV E s b src dst x := by
  unfold convV at *
  cases ht : E.ty dst with
  | str =>
    rw [ht] at hne hH
    cases x with
    | str t => rfl
    | _ =>
      simp only [] at hne hH ⊢
      generalize hc : content E s.h _ = q at hne hH ⊢
      cases q with
      | none => exact absurd rfl hne
      | some q =>
        simp only [] at hne hH ⊢
        cases hs : slOf E src q.c with
        | false => rw [hs] at hne; exact absurd rfl hne
        | true =>
          rw [hs] at hne hH
          simp only [cond_true] at hne hH ⊢
          cases hb : E.toBytes q.c q.l with
          | none => rw [hb] at hne; exact absurd rfl hne
          | some t =>
            rw [hb] at hH
            rw [content_local hc (fun n hn => hH n (by simp [lookOf, hn]))]
            simp only [hs, cond_true, hb]
  | _ => cases x <;> rfl
theorem evArgs_local : ∀ (xs : List Operand) (ts : List TypeId), (∀ x ∈ xs, ∀ t, s'.ev E t x = s.ev E t x) → evArgs E s' xs ts = evArgs E s xs ts
  | [], ts, h => by cases ts <;> rfl
  | x :: xs, [], h => by simp only [evArgs, h x (by simp), evArgs_local xs [] (fun y hy => h y (by simp [hy]))]
  | x :: xs, t :: ts, h => by simp only [evArgs, h x (by simp), evArgs_local xs ts (fun y hy => h y (by simp [hy]))]

theorem callV_local {c : Call} (hT : ∀ x ∈ c.operands, ∀ t, s'.ev E t x = s.ev E t x) (hne : callV E s b c ≠ .bad) (hH : ∀ n ∈ lookOf (callV E s b c), s'.h n = s.h n) : callV E s' b c = callV E s b c := by
  have hA : ∀ x ∈ c.args.toList, ∀ t, s'.ev E t x = s.ev E t x := fun x hx t => hT x (by unfold Call.operands; exact Array.mem_append.2 (.inr (Array.mem_toList_iff.1 hx))) t
  have hE := evArgs_local c.args.toList c.argTypes.toList hA
  unfold callV at *
  simp only [hE] at *
  cases hc : c.callee with
  | value g =>
    rw [hc] at hne hH
    simp only [] at hne hH ⊢
    rw [hT g (by unfold Call.operands; rw [hc]; simp) 0]
    cases hg : s.ev E 0 g with
    | clo g' caps =>
      rw [hg] at hne hH
      simp only [] at hne hH ⊢
      cases hpr : memN g' E.procs with
      | false => rfl
      | true =>
        rw [hpr] at hne hH
        simp only [cond_true] at hne hH ⊢
        cases hle : memN g' E.lends with
        | true =>
          rw [hle] at hne hH
          simp only [cond_true] at hne hH ⊢
          cases hx : layG (upds s.h (lendAll E s.h (evArgs E s c.args.toList c.argTypes.toList ++ caps)).2) b [] (lendAll E s.h (evArgs E s c.args.toList c.argTypes.toList ++ caps)).1 with
          | none => rw [hx] at hne; exact absurd rfl hne
          | some x =>
            rw [hx] at hH
            simp only [lookOf, List.mem_append] at hH
            rw [lendAll_congr (evArgs E s c.args.toList c.argTypes.toList ++ caps) s.h s'.h fun m hm => hH m (.inl hm)]
            rw [layG_congr hx fun m hm => updsC _ _ _ (hH m (.inr (List.mem_append.1 hm)))]
        | false =>
        rw [hle] at hne hH
        simp only [cond_false] at hne hH ⊢
        cases hx : layG s.h b [] (evArgs E s c.args.toList c.argTypes.toList ++ caps) with
        | none => rw [hx] at hne; exact absurd rfl hne
        | some x =>
          rw [hx] at hH
          rw [layG_congr hx fun m hm => hH m (by simpa [lookOf] using hm)]
    | yld n =>
      rw [hg] at hne hH
      simp only [] at hne hH ⊢
      cases hm : s.h n with
      | lp lf lk live vals j =>
        rw [hm] at hne hH
        cases j with
        | succ j => exact absurd rfl hne
        | zero =>
          simp only [] at hne hH ⊢
          cases hx : layG s.h b [] (evArgs E s c.args.toList c.argTypes.toList ++ vals) with
          | none => rw [hx] at hne; exact absurd rfl hne
          | some x =>
            rw [hx] at hH
            rw [hH n (by simp [lookOf]), hm]
            simp only []
            rw [layG_congr hx fun m hm => hH m (by simp only [lookOf]; exact List.mem_cons_of_mem _ hm)]
      | _ => rw [hm] at hne; exact absurd rfl hne
    | _ => rfl
  | invoke r m => rfl
  | builtin q =>
    rw [hc] at hne hH
    cases q with
    | len =>
      simp only [] at hne hH ⊢
      revert hne hH hA
      cases c.args.toList with
      | nil => intro _ _ _; rfl
      | cons x l =>
        cases l with
        | nil =>
          cases c.argTypes.toList with
          | nil => intro _ _ _; rfl
          | cons t ts => intro hA hH hne; simp only [] at hne hH ⊢; rw [hA x (by simp) t]; exact lenV_local t _ hne hH
        | cons y l => intro _ _ _; rfl
    | copy =>
      simp only [] at hne hH ⊢
      revert hne hH hA
      generalize c.args.toList = xs
      generalize c.argTypes.toList = ts
      intro hA hH hne
      split at hne
      · simp only [] at hH ⊢
        rw [hA _ (by simp), hA _ (by simp)]
        exact copyV_local _ _ _ _ hne hH
      · exact absurd rfl hne
    | append =>
      simp only [] at hne hH ⊢
      revert hne hH hA
      generalize c.args.toList = xs
      generalize c.argTypes.toList = ts
      intro hA hH hne
      split at hne
      · simp only [] at hH ⊢
        rw [hA _ (by simp), hA _ (by simp)]
        exact appendV_local _ _ _ _ hne hH
      · exact absurd rfl hne
    | _ => rfl

theorem nilV_local {op : BinOp} {t : TypeId} {u : A U} {c : Nat} {y : Operand} (hne : nilV E s op t u c y ≠ .bad) (hH : ∀ n ∈ lookOf (nilV E s op t u c y), s'.h n = s.h n) : nilV E s' op t u c y = nilV E s op t u c y := by
  unfold nilV at *
  split
  · simp only [] at hne hH
    cases hb : (slOf E t c && !isBsl u) with
    | false => rfl
    | true =>
      rw [hb] at hne hH
      simp only [cond_true] at hne hH ⊢
      cases hc : content E s.h u with
      | none => rw [hc] at hne; exact absurd rfl hne
      | some q =>
        rw [hc] at hne hH
        have hh : ∀ n ∈ q.rd, s'.h n = s.h n := by
          cases op with
          | eql => intro n hn; exact hH n (by simpa [lookOf] using hn)
          | neq => intro n hn; exact hH n (by simpa [lookOf] using hn)
          | _ => exact absurd rfl hne
        rw [content_local hc hh]
  · rfl
theorem sliceV_local {t : TypeId} {x : A U} {lo hi mx : Option (A U)} (hne : sliceV E s t x lo hi mx ≠ .bad) (hH : ∀ n ∈ lookOf (sliceV E s t x lo hi mx), s'.h n = s.h n) : sliceV E s' t x lo hi mx = sliceV E s t x lo hi mx := by
  unfold sliceV at *
  cases x with
  | own m =>
    cases mx with
    | some m' => rfl
    | none =>
      simp only [] at hne hH ⊢
      cases hm : s.h m with
      | lst c l =>
        rw [hm] at hne hH
        simp only [] at hne hH ⊢
        have hc := cond_ne hne
        rw [hc] at hne hH
        simp only [cond_true] at hne hH
        cases hl : optI 0 lo with
        | none => rw [hl] at hne; exact absurd rfl hne
        | some i =>
          rw [hl] at hne hH
          cases hj : optI (l.length : Int) hi with
          | none => rw [hj] at hne; exact absurd rfl hne
          | some j =>
            rw [hj] at hH
            rw [hH m (by simp [lookOf]), hm]
            simp only [hc, cond_true, hj]
      | fz c l =>
        rw [hm] at hne hH
        simp only [] at hne hH ⊢
        have hc := cond_ne hne
        rw [hc] at hne hH
        simp only [cond_true] at hne hH
        cases hl : optI 0 lo with
        | none => rw [hl] at hne; exact absurd rfl hne
        | some i =>
          rw [hl] at hne hH
          cases hj : optI (l.length : Int) hi with
          | none => rw [hj] at hne; exact absurd rfl hne
          | some j =>
            rw [hj] at hH
            rw [hH m (by simp [lookOf]), hm]
            simp only [hc, cond_true, hj]
      | dead => rw [hm] at hne; exact absurd rfl hne
      | lp lf lid live vals j => rw [hm] at hne; exact absurd rfl hne
      | box q => rw [hm] at hne; exact absurd rfl hne
  | sub m c k len =>
    cases mx with
    | some m' => rfl
    | none =>
      simp only [] at hne hH ⊢
      cases hm : s.h m with
      | lst c' l =>
        rw [hm] at hne hH
        simp only [] at hne hH ⊢
        have hc := cond_ne hne
        rw [hc] at hne hH
        simp only [cond_true] at hne hH
        cases hl : optI 0 lo with
        | none => rw [hl] at hne; exact absurd rfl hne
        | some i =>
          rw [hl] at hne hH
          cases hj : optI (len : Int) hi with
          | none => rw [hj] at hne; exact absurd rfl hne
          | some j =>
            rw [hj] at hH
            rw [hH m (by simp [lookOf]), hm]
      | fz c l => rw [hm] at hne; exact absurd rfl hne
      | dead => rw [hm] at hne; exact absurd rfl hne
      | lp lf lid live vals j => rw [hm] at hne; exact absurd rfl hne
      | box q => rw [hm] at hne; exact absurd rfl hne
  | ptr m p =>
    cases mx with
    | some m' => rfl
    | none =>
      simp only [] at hne hH ⊢
      cases ht : E.ty t with
      | arr n e =>
        rw [ht] at hne hH
        cases hm : s.h m with
        | box q =>
          rw [hm] at hne hH
          cases hl : optI 0 lo with
          | none => rw [hl] at hne; exact absurd rfl hne
          | some i =>
            rw [hl] at hne hH
            simp only [] at hne hH ⊢
            cases hj : optI (n : Int) hi with
            | none => rw [hj] at hne; exact absurd rfl hne
            | some j =>
              rw [hj] at hne hH
              simp only [] at hne hH ⊢
              cases hb : isNo (E.ty e) with
              | true => rw [hb] at hne; exact absurd rfl hne
              | false =>
                rw [hb] at hH
                rw [hH m (by simp [lookOf]), hm]
                simp only [hj, hb]
        | _ => rw [hm] at hne; exact absurd rfl hne
      | _ => rfl
  | _ => cases mx with
    | none => rfl
    | some m' => cases m' <;> rfl

set_option maxHeartbeats 2000000 in
theorem plan_local (hT : ∀ x ∈ o.op.operands, ∀ t, s'.ev E t x = s.ev E t x) (hne : plan E b o s ≠ .bad) (hH : ∀ n ∈ lookOf (plan E b o s), s'.h n = s.h n) : plan E b o s' = plan E b o s := by
  cases ho : o.op with
  | call c =>
    simp only [plan, ho] at *
    exact callV_local hT hne hH
  | load t x =>
    have h1 := hT x (by rw [ho]; simp [Op.operands])
    simp only [plan, ho, h1] at *
    cases hx : s.ev E 0 x with
    | ptr n p =>
      rw [hx] at hne hH
      simp only [] at hne hH ⊢
      have hc := cond_ne hne
      rw [hc] at hH
      rw [hH n (by simp [lookOf])]
    | _ => rfl
  | store t x y =>
    have h1 := hT x (by rw [ho]; simp [Op.operands])
    have h2 := hT y (by rw [ho]; simp [Op.operands])
    simp only [plan, ho, h1, h2] at *
    cases hx : s.ev E 0 x with
    | ptr n p =>
      rw [hx] at hne hH
      simp only [] at hne hH ⊢
      cases hn : s.h n with
      | box a =>
        rw [hn] at hne hH
        simp only [] at hne hH ⊢
        have hc := cond_ne hne
        rw [hc] at hne hH
        simp only [cond_true] at hne hH ⊢
        cases hs : setP E a p (s.ev E t y) with
        | none => rw [hs] at hne; exact absurd rfl hne
        | some a' =>
          rw [hs] at hH
          rw [hH n (by simp [lookOf]), hn]
          simp only [hc, cond_true, hs]
      | lst c l =>
        rw [hn] at hne hH
        simp only [] at hne hH ⊢
        have hc := cond_ne hne
        rw [hc] at hne hH
        simp only [cond_true] at hne hH ⊢
        cases hs : setO E (.lst c l) p (frz s.h (s.ev E t y)) with
        | none => rw [hs] at hne; exact absurd rfl hne
        | some a' =>
          rw [hs] at hH
          have hhole : hole (frz s.h (s.ev E t y)) = false := by
            simp only [Bool.and_eq_true, Bool.not_eq_true'] at hc
            exact hc.1.2
          obtain ⟨f1, f2⟩ := frz_local (h := s.h) (h' := s'.h) (s.ev E t y) (fun k hk => hH k (by simp only [lookOf, List.mem_append]; exact .inl (List.mem_cons_of_mem _ hk))) hhole
          rw [hH n (by simp [lookOf]), hn]
          simp only [f1, f2, hc, cond_true, hs]
      | dead => rw [hn] at hne; exact absurd rfl hne
      | lp lf lid live vals j => rw [hn] at hne; exact absurd rfl hne
      | fz c l => rw [hn] at hne; exact absurd rfl hne
    | _ => rfl
  | indexAddr t x i =>
    have h1 := hT x (by rw [ho]; simp [Op.operands])
    have h2 := hT i (by rw [ho]; simp [Op.operands])
    simp only [plan, ho, h1, h2] at *
    cases hi : s.ev E 0 i with
    | int k n =>
      rw [hi] at hne hH
      simp only [] at hne hH ⊢
      cases hx : s.ev E t x with
      | own m =>
        rw [hx] at hne hH
        simp only [] at hne hH ⊢
        cases hm : s.h m with
        | lst c l => rw [hm] at hne hH; simp only [] at hne hH ⊢; have hc := cond_ne hne; rw [hc] at hH; rw [hH m (by simp [lookOf]), hm]
        | fz c l => rw [hm] at hne hH; simp only [] at hne hH ⊢; have hc := cond_ne hne; rw [hc] at hH; rw [hH m (by simp [lookOf]), hm]
        | dead => rw [hm] at hne; exact absurd rfl hne
        | lp lf lid live vals j => rw [hm] at hne; exact absurd rfl hne
        | box q => rw [hm] at hne; exact absurd rfl hne
      | sub m c j len =>
        rw [hx] at hne hH
        simp only [] at hne hH ⊢
        cases hm : s.h m with
        | lst c l => rw [hm] at hne hH; simp only [] at hne hH ⊢; have hc := cond_ne hne; rw [hc] at hH; rw [hH m (by simp [lookOf]), hm]
        | fz c l => rw [hm] at hne hH; simp only [] at hne hH ⊢; have hc := cond_ne hne; rw [hc] at hH; rw [hH m (by simp [lookOf]), hm]
        | dead => rw [hm] at hne; exact absurd rfl hne
        | lp lf lid live vals j => rw [hm] at hne; exact absurd rfl hne
        | box q => rw [hm] at hne; exact absurd rfl hne
      | _ => rfl
    | _ => rfl
  | build t ps =>
    have h1 : ∀ p ∈ ps.toList, ∀ t, s'.ev E t p.2 = s.ev E t p.2 := fun p hp => hT p.2 (by rw [ho]; simp only [Op.operands]; exact List.mem_toArray.2 (List.mem_map_of_mem hp))
    have h2 : ∀ g : Nat → TypeId, (ps.toList.map fun p => (p.1, s'.ev E (g p.1) p.2)) = (ps.toList.map fun p => (p.1, s.ev E (g p.1) p.2)) := fun g => List.map_congr_left fun p hp => by rw [h1 p hp]
    have h3 : ∀ c, (ps.toList.map fun p => s'.ev E c p.2) = (ps.toList.map fun p => s.ev E c p.2) := fun g => List.map_congr_left fun p hp => by rw [h1 p hp]
    simp only [plan, ho, h2, h3] at *
    cases hz : zero E t with
    | arr c n z =>
      rw [hz] at hne hH
      simp only [] at hne hH ⊢
      cases ht : E.ty t with
      | arr n' c' =>
        rw [ht] at hne hH
        simp only [] at hne hH ⊢
        have hc := cond_ne hne
        rw [hc] at hne hH
        simp only [cond_true] at hne hH ⊢
        cases hs : setParts E (z.map (E.enc c)) ((ps.toList.map (·.1)).zip (frzs s.h (ps.toList.map fun p => s.ev E c p.2))) with
        | none => rw [hs] at hne; exact absurd rfl hne
        | some l =>
          rw [hs] at hne hH
          simp only [] at hne hH ⊢
          cases hd : decs E c l with
          | none => rw [hd] at hne; exact absurd rfl hne
          | some l' =>
            rw [hd] at hne hH
            simp only [] at hne hH ⊢
            cases hb : (holes (frzs s.h (ps.toList.map fun p => s.ev E c p.2)) || (isNo (E.ty c) || Nat.beq (E.sz c) 0)) with
            | true => rw [hb] at hne; exact absurd rfl hne
            | false =>
              rw [hb] at hH
              simp only [cond_false] at hH
              have hb1 := hb
              simp only [Bool.or_eq_false_iff] at hb1
              obtain ⟨f1, f2⟩ := frzs_local (h := s.h) (h' := s'.h) (ps.toList.map fun p => s.ev E c p.2) (fun k hk => hH k (by simp only [lookOf, List.mem_append]; exact .inl hk)) hb1.1
              simp only [hc, cond_true, f1, f2, hs, hd, hb, cond_false]
      | _ => rfl
    | _ => rfl
  | buildSlice t n ps =>
    have h1 : ∀ p ∈ ps.toList, ∀ t, s'.ev E t p.2 = s.ev E t p.2 := fun p hp => hT p.2 (by rw [ho]; simp only [Op.operands]; exact List.mem_toArray.2 (List.mem_map_of_mem hp))
    have h3 : ∀ c, (ps.toList.map fun p => s'.ev E c p.2) = (ps.toList.map fun p => s.ev E c p.2) := fun g => List.map_congr_left fun p hp => by rw [h1 p hp]
    simp only [plan, ho, h3] at *
    cases ht : E.ty t with
    | sl e =>
      rw [ht] at hne hH
      simp only [] at hne hH ⊢
      cases hz : (Nat.beq n 0 && ps.toList.isEmpty) with
      | true => rfl
      | false =>
      rw [hz] at hne hH
      simp only [cond_false] at hne hH ⊢
      cases hs : setParts E ((List.replicate n (E.dflt e)).map (E.enc e)) ((ps.toList.map (·.1)).zip (frzs s.h (ps.toList.map fun p => s.ev E e p.2))) with
      | none => rw [hs] at hne; exact absurd rfl hne
      | some l =>
        rw [hs] at hne hH
        simp only [] at hne hH ⊢
        cases hd : decs E e l with
        | none => rw [hd] at hne; exact absurd rfl hne
        | some l' =>
          rw [hd] at hne hH
          simp only [] at hne hH ⊢
          cases hb : (holes (frzs s.h (ps.toList.map fun p => s.ev E e p.2)) || (isNo (E.ty e) || (Nat.beq (n * E.sz e) 0 || Nat.blt 16777216 (n * E.sz e)))) with
          | true => rw [hb] at hne; exact absurd rfl hne
          | false =>
            rw [hb] at hH
            simp only [cond_false] at hH
            have hb1 := hb
            simp only [Bool.or_eq_false_iff] at hb1
            obtain ⟨f1, f2⟩ := frzs_local (h := s.h) (h' := s'.h) (ps.toList.map fun p => s.ev E e p.2) (fun k hk => hH k (by simp only [lookOf, List.mem_append]; exact .inl hk)) hb1.1
            simp only [f1, f2, hs, hd, hb, cond_false]
    | _ => rfl
  | makeFunc fn first caps =>
    have h1 : (caps.toList.map fun x => s'.ev E 0 x) = (caps.toList.map fun x => s.ev E 0 x) := List.map_congr_left fun x hx => hT x (by rw [ho]; simp only [Op.operands]; exact Array.mem_append.2 (.inr (Array.mem_toList_iff.1 hx))) 0
    cases fn <;> simp only [plan, ho, h1]
  | unOp op t x =>
    have h1 := hT x (by rw [ho]; simp [Op.operands])
    cases op <;> simp only [plan, ho, h1]
  | convert t d x =>
    have h1 := hT x (by rw [ho]; simp [Op.operands])
    simp only [plan, ho, h1] at *
    cases hn : isNo (E.ty t) with
    | true => rfl
    | false =>
      rw [hn] at hne hH
      simp only [cond_false] at hne hH ⊢
      exact convV_local _ _ _ hne hH
  | move x => have h1 := hT x (by rw [ho]; simp [Op.operands]); simp only [plan, ho, h1]
  | assign x => have h1 := hT x (by rw [ho]; simp [Op.operands]); simp only [plan, ho, h1]
  | box t x => have h1 := hT x (by rw [ho]; simp [Op.operands]); simp only [plan, ho, h1]
  | nilCheck x => have h1 := hT x (by rw [ho]; simp [Op.operands]); simp only [plan, ho, h1]
  | extract x i => have h1 := hT x (by rw [ho]; simp [Op.operands]); simp only [plan, ho, h1]
  | fieldAddr t x k => have h1 := hT x (by rw [ho]; simp [Op.operands]); simp only [plan, ho, h1]
  | field t x k => have h1 := hT x (by rw [ho]; simp [Op.operands]); simp only [plan, ho, h1]
  | pick c x y =>
    have h1 := hT x (by rw [ho]; simp [Op.operands])
    have h2 := hT y (by rw [ho]; simp [Op.operands])
    have h3 := hT c (by rw [ho]; simp [Op.operands])
    simp only [plan, ho, h1, h2, h3]
  | index t x i =>
    have h1 := hT x (by rw [ho]; simp [Op.operands])
    have h2 := hT i (by rw [ho]; simp [Op.operands])
    simp only [plan, ho, h1, h2]
  | binOp op t x y ty =>
    have h1 := hT x (by rw [ho]; simp [Op.operands])
    have h2 := hT y (by rw [ho]; simp [Op.operands])
    simp only [plan, ho, h1, h2] at *
    revert hne hH
    generalize s.ev E t x = u
    generalize s.ev E ty y = v
    intro hne hH
    cases v with
    | nils c => cases u <;> exact nilV_local hne hH
    | _ => cases u <;> rfl
  | slice t x lo hi mx =>
    have h1 := hT x (by rw [ho]; simp [Op.operands])
    have h2 : ∀ z : Option Operand, (∀ y, z = some y → y ∈ o.op.operands) → z.map (s'.ev E 0) = z.map (s.ev E 0) := fun z hz => by
      cases z with
      | none => rfl
      | some y => simp only [Option.map_some, hT y (hz y rfl)]
    have hlo := h2 lo (fun y e => by subst e; rw [ho]; simp [Op.operands])
    have hhi := h2 hi (fun y e => by subst e; rw [ho]; simp [Op.operands])
    have hmx := h2 mx (fun y e => by subst e; rw [ho]; simp [Op.operands])
    simp only [plan, ho, h1, hlo, hhi, hmx] at *
    exact sliceV_local hne hH
  | alloc t => simp only [plan, ho]
  | _ => simp only [plan, ho]
end
end Go.V
