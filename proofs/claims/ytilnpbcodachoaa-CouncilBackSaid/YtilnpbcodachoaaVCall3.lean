/- V: a call, whole. -/
import Derived.Test.YtilnpbcodachoaaVCall2
import Derived.Conc.MuLone
set_option linter.unusedVariables false
set_option linter.unusedSimpArgs false
namespace Go.V
variable {U : Nat → Type}
section
variable {E : Env U} {w : World} {St : Bool → Nat → Prop} {ι : Nat → Option Value} {s : S U} {N : Nat} {a : Act} {b : Nat} {o : Oper}

theorem RVs.of_flat (ok : EnvOk E) : ∀ {l : List (A U)} {vs : List Value}, RC E w St ι l ((vs.map (·.cells.toList)).flatten) [] → vs.map (fun v => (v.cells.size, isAggV v)) = l.map (fun a => (size E.sz a, isAgg a)) → RVs E w St ι l vs
  | [], vs, h, hs => by cases vs with | nil => trivial | cons v vs => simp at hs
  | q :: l, vs, h, hs => by
    cases vs with
    | nil => simp at hs
    | cons v vs =>
      simp only [List.map_cons, List.cons.injEq, Prod.mk.injEq] at hs
      obtain ⟨c1, c2, b1, b2, hc, hb, h1, h2⟩ := RC.cons_inv h
      obtain ⟨rfl, rfl⟩ := nil_or hb
      simp only [List.map_cons, List.flatten_cons] at hc
      have hl := h1.length ok
      simp only [sizes, Nat.add_zero] at hl
      have := List.append_inj hc (by rw [hl, ← hs.1.1]; simp)
      obtain ⟨rfl, rfl⟩ := this
      exact ⟨.inr ⟨h1, hs.1.2⟩, RVs.of_flat ok h2 hs.2⟩

theorem RVb.flat (ok : EnvOk E) : ∀ {l : List (A U)} {vs : List Value} {bs : List Nat}, RVb E w St l vs bs → RC E w St noNm l ((vs.map (·.cells.toList)).flatten) bs ∧ vs.map (fun v => (v.cells.size, isAggV v)) = l.map (fun a => (size E.sz a, isAgg a))
  | [], [], bs, h => by
    obtain rfl : bs = [] := h
    exact ⟨.nil, rfl⟩
  | [], _ :: _, bs, h => h.elim
  | _ :: _, [], bs, h => h.elim
  | q :: l, v :: vs, bs, h => by
    obtain ⟨b1, b2, rfl, h1, h2, h3⟩ := h
    obtain ⟨i1, i2⟩ := RVb.flat ok h3
    have hl := h1.length ok
    simp only [sizes, Nat.add_zero] at hl
    refine ⟨by simpa using RC.cons h1 i1, ?_⟩
    simp only [List.map_cons, i2, h2, List.cons.injEq, Prod.mk.injEq, and_true]
    simpa using hl

theorem RVs.append {l m : List (A U)} : ∀ {vs us : List Value}, RVs E w St ι l vs → RVs E w St ι m us → RVs E w St ι (l ++ m) (vs ++ us) := by
  induction l with
  | nil => intro vs us h h'; cases vs with | nil => exact h' | cons _ _ => exact h.elim
  | cons q l ih => intro vs us h h'; cases vs with | nil => exact h.elim | cons v vs => exact ⟨h.1, ih h.2 h'⟩

theorem RVs.ins (ok : EnvOk2 E) {tm : Array Value} (R : Rel E s N tm w ι St) (L : List Nat) : ∀ {q : List (A U)} {vs : List Value}, RVs E w St ι q vs → holes (inAs E s.h [] q) = false → ptrss q = [] → (∀ m ∈ ownss q, m ∈ L) →
    RVs E w (StC s St ι L) noNm (inAs E s.h [] q) vs
  | [], vs, h, hh, hp, hL => by cases vs with | nil => trivial | cons _ _ => exact h.elim
  | q :: l, vs, h, hh, hp, hL => by
    cases vs with
    | nil => exact h.elim
    | cons v vs =>
      simp only [inAs, holes, Bool.or_eq_false_iff] at hh
      obtain ⟨p1, p2⟩ := app_nil (by simpa [ptrss] using hp : ptrs q ++ ptrss l = [])
      refine ⟨.inr ?_, RVs.ins ok R L h.2 hh.2 p2 (fun m hm => hL m (by simp [ownss, hm]))⟩
      rcases h.1 with rfl | h1
      · simp [inA, hole] at hh
      · obtain ⟨i1, i2, i3⟩ := inA_ok ok R L q h1.1 hh.1 p1 (fun m hm => hL m (by simp [ownss, hm]))
        exact ⟨i1, h1.2.trans i2.symm⟩

theorem args_rvs (ok : EnvOk2 E) (R : Rel E s N a.tmps w ι St) : ∀ (xs : List Operand) (ts : List TypeId), holes (inAs E s.h [] (evArgs E s xs ts)) = false → RVs E w St ι (evArgs E s xs ts) (xs.map a.eval)
  | [], ts, h => by cases ts <;> trivial
  | x :: xs, [], h => by
    simp only [evArgs, inAs, holes, Bool.or_eq_false_iff] at h
    refine ⟨?_, args_rvs ok R xs [] h.2⟩
    have hx := ev_ok ok R 0 x
    cases hk : known (s.ev E 0 x) with
    | true => exact .inr (hx.rv hk)
    | false =>
      revert hk h
      cases s.ev E 0 x <;> simp [known, inA, hole]
  | x :: xs, t :: ts, h => by
    simp only [evArgs, inAs, holes, Bool.or_eq_false_iff] at h
    refine ⟨?_, args_rvs ok R xs ts h.2⟩
    have hx := ev_ok ok R t x
    cases hk : known (s.ev E t x) with
    | true => exact .inr (hx.rv hk)
    | false =>
      revert hk h
      cases s.ev E t x <;> simp [known, inA, hole]

theorem RC.lent (ok : EnvOk E) {St' : Bool → Nat → Prop} {l : List (A U)} {cs : List Value} {bs : List Nat} (h : RC E w St ι l cs bs) (h0 : ∀ B, St false B → St' false B) : (loans l = true → ∀ B, St true B → St' true B) → RC E w St' ι l cs bs := by
  have one : ∀ (g : Bool) (l : List (A U)) (B : Nat), ((g || loans l) = true → ∀ B, St true B → St' true B) → St g B → St' g B := by
    intro g l B hl hB
    cases g
    · exact h0 B hB
    · exact hl rfl B hB
  have rest : ∀ (g : Bool) (l : List (A U)), ((g || loans l) = true → ∀ B, St true B → St' true B) → loans l = true → ∀ B, St true B → St' true B := fun g l h hl => h (by rw [hl, Bool.or_true])
  induction h with
  | nil => intro _; exact .nil
  | int _ ih => intro hl; exact .int (ih hl)
  | bool _ ih => intro hl; exact .bool (ih hl)
  | str _ ih => intro hl; exact .str (ih hl)
  | nilp _ ih => intro hl; exact .nilp (ih hl)
  | nilf _ ih => intro hl; exact .nilf (ih hl)
  | nils _ ih => intro hl; exact .nils (ih hl)
  | agg _ _ ih1 ih2 => intro hl; exact .agg (ih1 fun h => hl (by simp [loans, loan, h])) (ih2 fun h => hl (by simp [loans, loan, h]))
  | arr hn h1 _ _ ih2 => intro hl; exact .arr hn (h1.encs ok h0) (ih2 hl)
  | roE _ ih => intro hl; exact .roE (ih (rest _ _ hl))
  | ro h1 h2 h3 h4 _ _ ih => intro hl; exact .ro (h1.encs ok h0) h2 (one _ _ _ hl h3) h4 (ih (rest _ _ hl))
  | clipE _ ih => intro hl; exact .clipE (ih (rest _ _ hl))
  | clip h1 h2 h3 _ _ ih => intro hl; exact .clip (h1.encs ok h0) h2 (one _ _ _ hl h3) (ih (rest _ _ hl))
  | uslE _ ih => intro hl; exact .uslE (ih hl)
  | usl h1 h2 h3 h4 h5 _ _ ih => intro hl; exact .usl (h1.encs ok h0) h2 h3 h4 h5 (ih hl)
  | own h1 _ ih => intro hl; exact .own h1 (ih hl)
  | sub h1 h2 h3 h4 h5 _ ih => intro hl; exact .sub h1 h2 h3 h4 h5 (ih hl)
  | bsl h1 h2 h3 h4 h5 h6 _ ih => intro hl; exact .bsl h1 h2 h3 h4 h5 h6 (ih hl)
  | ptr h1 h2 h3 _ ih => intro hl; exact .ptr h1 h2 h3 (ih hl)
  | rp h1 h2 h3 h4 h5 _ _ ih => intro hl; exact .rp (h1.encs ok h0) h2 (one _ _ _ hl h3) h4 h5 (ih (rest _ _ hl))
  | clo h1 h2 _ ih1 ih2 => intro hl; exact .clo (ih1 fun h => hl (by simp [loans, loan, h])) h2 (ih2 fun h => hl (by simp [loans, loan, h]))

/-- what one operation leaves -/
structure Stp (E : Env U) (s : S U) (N : Nat) (w : World) (ι : Nat → Option Value) (St : Bool → Nat → Prop) (b : Nat) (dst : Option Nat) (wr : List (Nat × AObj U)) (v : A U)
    (tm' : Array Value) (w' : World) (ι' : Nat → Option Value) (St' : Bool → Nat → Prop) : Prop where
  rel : Rel E (s.put wr dst v) N tm' w' ι' St'
  fr : Fr (Own s ι) w w'
  new : ∀ n, ι' n ≠ none → ι n ≠ none ∨ (b ≤ n ∧ n < b + 100)
  own : ∀ B, Own (s.put wr dst v) ι' B → Own s ι B ∨ w.heap.size ≤ B
  gr : ∀ g B, St' g B → St g B ∨ Own s ι B ∨ w.heap.size ≤ B

theorem Rel.put' {w' : World} {ι' : Nat → Option Value} {St' : Bool → Nat → Prop} {wr : List (Nat × AObj U)} (R : Rel E { s with h := upds s.h wr } N a.tmps w' ι' St') (dst : Option Nat) (hd : ∀ d, dst = some d → d < N) {v : A U} {u : Value} (hv : RT E w' St' ι' v u) :
    Rel E (s.put wr dst v) N (a.put dst u).tmps w' ι' St' := by
  cases dst with
  | none => exact R
  | some d => exact R.tmp' d (hd d rfl) hv

theorem Rel.dead {tm : Array Value} (R : Rel E s N tm w ι St) {n : Nat} (h : ι n = none) : isLive (s.h n) = false := by
  have h0 := R.obj n
  rw [h] at h0
  cases hn : s.h n with
  | dead => rfl
  | fz c l => rfl
  | box q => rw [hn] at h0; obtain ⟨B, cs, e, -⟩ := h0; simp at e
  | lst c l => rw [hn] at h0; rcases h0 with ⟨e, -⟩ | ⟨B, off, cap, ds, e, -⟩ <;> simp at e

theorem op_step (ok : EnvOk2 E) (R : Rel E s N a.tmps w ι St) (hf : ∀ m, b ≤ m → m < b + 100 → ι m = none) (hd : ∀ d, o.dst = some d → d < N) {pre rd wr v} (hp : plan E b o s = .done pre rd wr v) (hq : ∀ p, pre = some p → p)
    {next : Act → World → Prop} {Q : Exit → Act → World → Prop} (h : ∀ u w' ι' St', Stp E s N w ι St b o.dst wr v (a.put o.dst u).tmps w' ι' St' → next (a.put o.dst u) w') : o.wp E.P a w next Q := by
  have hb := hf b (Nat.le_refl _) (by omega)
  obtain ⟨nx, u, w', ι', St', K⟩ := plan_sound ok R hb (R.dead hb) hp hq
  have key := h u w' ι' St' ⟨K.rel.put' o.dst hd K.val, K.fr, K.new, fun B hB => K.own B hB, fun g B hB => (K.gr g B hB).imp id .inl⟩
  unfold Oper.wp
  rw [K.run]
  rcases K.nxt with rfl | ⟨rfl, rfl⟩
  · exact key
  · exact key

theorem call_run {c : Call} {f : Operand} (hc : c.callee = .value f) (ho : o.op = .call c) {g : FuncId} {vs : Array Value} (hv : a.eval f = .func (.func g) #[] vs) {fn : Func} {body : Code} (hf : E.P.funcs[g]? = some fn) (hb : fn.body = some body)
    (hn : (fn.name == "runtime.NumGoroutine") = false) : (execOp a.eval o).run E.P w = .ok (.enter g (c.args.map a.eval ++ vs)) w := by
  simp only [execOp, ho, resolve, hc, hv, Deferred.ofValue, Sem.run_bind, Sem.run_pure, Result.andThen_ok, invoke, Array.empty_append]
  rw [MuLone.run_callFunc_enter hf hn hb]

theorem call_done (ok : EnvOk2 E) (R : Rel E s N a.tmps w ι St) (hf : ∀ m, b ≤ m → m < b + 100 → ι m = none) (dst : Option Nat) (hd : ∀ d, dst = some d → d < N) {args : List (A U)} {K : A U → List (A U) → Prop}
    {v : Value} {w' : World} {r : A U} {bs : List Nat} {St' : Bool → Nat → Prop} (q : Result' E w (StC s St ι (ownss args)) K v w' r bs St') (hp : ptrs r = []) (hM : (nameA [] b r b).2.2 ≤ b + 100) :
    ∃ ι' St2, Stp E s N w ι St b dst (cond (loan r) (fzOf s.h (ownss args)) [] ++ (nameA [] b r b).2.1) (nameA [] b r b).1 (a.put dst v).tmps w' ι' St2 := by
  have R0 : Rel E s N a.tmps w' ι St := R.world q.fr.size (fun B hB => q.fr.same B (R.stb B hB) id) (fun n B hl hB => q.fr.same B (R.lt n B hl hB) id)
  -- lent lists are changed no more
  have K1 : ∃ St1, (∀ g B, St1 g B → St g B ∨ Own s ι B) ∧ (∀ g B, St g B → St1 g B) ∧ Rel E { s with h := upds s.h (cond (loan r) (fzOf s.h (ownss args)) []) } N a.tmps w' ι St1 ∧ Frz s.h (upds s.h (cond (loan r) (fzOf s.h (ownss args)) [])) ∧
      (loan r = true → ∀ m ∈ ownss args, isLst (s.h m) = true → ∀ B, blkO (ι m) = some B → ∀ g, St1 g B) := by
    cases hl : loan r with
    | false => exact ⟨St, fun g B h => .inl h, fun g B h => h, R0, Frz.refl _, fun h => by simp at h⟩
    | true =>
      obtain ⟨St1, x, g1, R1, f1, p1⟩ := fzOf_ok ok (ownss args) (s := s) (Frz.refl _) R0 (fun n c x h1 h2 => by rw [h1] at h2; cases h2)
      exact ⟨St1, g1, x.st, R1, f1, fun _ => p1⟩
  obtain ⟨St1, g1, x1, R1, f1, p1⟩ := K1
  have old : ∀ g B, St1 g B → B < w.heap.size := fun g B h => by
    rcases g1 g B h with h | ⟨n, h1, h2⟩
    · exact R.stb B ⟨g, h⟩
    · exact R.lt n B h1 h2
  have R2 := R1.stables (fun B => An St' B ∧ w.heap.size ≤ B) (fun B h => q.lt B h.1) (fun m B hl hB h => by
    have := R.lt m B (f1.live hl) hB
    omega)
  have c0 : ∀ B, St' false B → (St1 false B ∨ (An St' B ∧ w.heap.size ≤ B)) := fun B h => by
    rcases q.gr false B h with h1 | h1
    · exact .inl (x1 _ _ (by simpa [StC] using h1))
    · exact .inr ⟨⟨_, h⟩, h1⟩
  have c1 : loan r = true → ∀ B, St' true B → (St1 true B ∨ (An St' B ∧ w.heap.size ≤ B)) := fun hl B h => by
    rcases q.gr true B h with h1 | h1
    · simp only [StC, if_true] at h1
      rcases h1 with ⟨g, h1⟩ | ⟨m, h2, h3, h4⟩
      · cases g
        · exact .inl (x1 _ _ (R.sup B h1))
        · exact .inl (x1 _ _ h1)
      · exact .inl (p1 hl m h2 h3 B h4 true)
    · exact .inr ⟨⟨_, h⟩, h1⟩
  have hb : ∀ B ∈ bs, ¬ An (fun g B => St1 g B ∨ (An St' B ∧ w.heap.size ≤ B)) B ∧ ¬ Own { s with h := upds s.h (cond (loan r) (fzOf s.h (ownss args)) []) } ι B := fun B hB => by
    obtain ⟨n1, n2, n3⟩ := q.new B hB
    refine ⟨fun ⟨g, h⟩ => ?_, fun ⟨m, h1, h2⟩ => ?_⟩
    · rcases h with h | h
      · have := old g B h; omega
      · exact n3 h.1
    · have := R.lt m B (f1.live h1) h2; omega
  have hfr : ∀ m, b ≤ m → m < b + 100 → ι m = none ∧ isLive (upds s.h (cond (loan r) (fzOf s.h (ownss args)) []) m) = false := fun m h1 h2 => ⟨hf m h1 h2, R1.dead (hf m h1 h2)⟩
  have fin : ∀ (wr : List (Nat × AObj U)) (n' : Nat) (r' : A U) ι', n' ≤ b + 100 → Named E { s with h := upds s.h (cond (loan r) (fzOf s.h (ownss args)) []) } N a.tmps w' ι (fun g B => St1 g B ∨ (An St' B ∧ w.heap.size ≤ B)) wr (b + 100) b n' bs ι' →
      RT E w' (fun g B => St1 g B ∨ (An St' B ∧ w.heap.size ≤ B)) ι' r' v → ∃ ι' St2, Stp E s N w ι St b dst (cond (loan r) (fzOf s.h (ownss args)) [] ++ wr) r' (a.put dst v).tmps w' ι' St2 := by
    intro wr n' r' ι' hn nm hv
    have hrel := nm.rel
    rw [← upds_append] at hrel
    refine ⟨ι', _, hrel.put' dst hd hv, q.fr.mono fun _ _ h => h.elim, fun n h => (nm.new n h).imp id fun h => ⟨h.1, by omega⟩, fun B hB => ?_, fun g B h => ?_⟩
    · have : Own { s with h := upds (upds s.h (cond (loan r) (fzOf s.h (ownss args)) [])) wr } ι' B := by
        obtain ⟨n, h1, h2⟩ := hB
        exact ⟨n, by rw [← upds_append]; exact h1, h2⟩
      rcases nm.own B this with ⟨n, h1, h2⟩ | h
      · exact .inl ⟨n, f1.live h1, h2⟩
      · exact .inr (q.new B h).1
    · rcases h with h | h
      · exact (g1 g B h).imp id .inl
      · exact .inr (.inr h.2)
  have hval := q.val
  by_cases ht : ∃ l, r = .tup l
  · obtain ⟨l, rfl⟩ := ht
    obtain ⟨us, rfl, hv⟩ := hval
    obtain ⟨v1, v2⟩ := hv.flat ok.toEnvOk
    have v3 := v1.lent ok.toEnvOk (St' := fun g B => St1 g B ∨ (An St' B ∧ w.heap.size ≤ B)) c0 (fun h => c1 (by simpa [loan] using h))
    obtain ⟨ι', nm, rc, sh⟩ := nameAs_ok ok b l R2 v3 (by simpa [ptrs] using hp) hfr (by simpa [nameA] using hM) q.dis hb
    simp only [nameA]
    exact fin _ _ _ ι' (by simpa [nameA] using hM) nm ⟨us, rfl, RVs.of_flat ok.toEnvOk rc (v2.trans sh.symm)⟩
  · have hval' : RC E w' St' noNm [r] v.cells.toList bs ∧ isAggV v = isAgg r := by
      unfold RTb at hval
      split at hval
      · exact absurd ⟨_, rfl⟩ ht
      · exact hval
    have v3 := hval'.1.lent ok.toEnvOk (St' := fun g B => St1 g B ∨ (An St' B ∧ w.heap.size ≤ B)) c0 (fun h => c1 (by simpa [loans] using h))
    obtain ⟨ι', nm, rc, ag, sz⟩ := nameA_ok ok b r R2 v3 hp hfr hM q.dis hb
    exact fin _ _ _ ι' hM nm (RT.of_rv ⟨rc, hval'.2.trans ag.symm⟩)

mutual
theorem inA_congr {h h' : Nat → AObj U} : ∀ (q : A U), (∀ m ∈ owns q, h' m = h m) → inA E h' [] q = inA E h [] q
  | .own m, e => by simp only [inA, e m (by simp [owns])]
  | .sub m c i len, e => by simp only [inA, content, e m (by simp [owns])]
  | .agg l, e => by simp only [inA, inAs_congr l (by simpa [owns] using e)]
  | .clo f l, e => by simp only [inA, inAs_congr l (by simpa [owns] using e)]
  | .tup l, e => rfl
  | .none, e => rfl
  | .bsl m p c M i len, e => rfl
  | .ptr m p, e => rfl
  | .int k m, e => rfl
  | .bool k, e => rfl
  | .str k, e => rfl
  | .nilp, e => rfl
  | .nilf, e => rfl
  | .nils c, e => rfl
  | .usl c l, e => rfl
  | .arr c k xs, e => rfl
  | .ro g c xs, e => rfl
  | .clip g c xs, e => rfl
  | .rp g c xs i p, e => rfl
theorem inAs_congr {h h' : Nat → AObj U} : ∀ (q : List (A U)), (∀ m ∈ ownss q, h' m = h m) → inAs E h' [] q = inAs E h [] q
  | [], e => rfl
  | q :: l, e => by simp only [inAs, inA_congr q (fun m hm => e m (by simp [ownss, hm])), inAs_congr l (fun m hm => e m (by simp [ownss, hm]))]
end
theorem fzOf_congr {h h' : Nat → AObj U} : ∀ (l : List Nat), (∀ m ∈ l, h' m = h m) → fzOf h' l = fzOf h l
  | [], e => rfl
  | m :: l, e => by simp only [fzOf, e m (by simp), fzOf_congr l (fun k hk => e k (by simp [hk]))]

theorem fzOf_names {h : Nat → AObj U} : ∀ (l : List Nat), ∀ x ∈ fzOf h l, x.1 ∈ l
  | [], x, hx => by simp [fzOf] at hx
  | m :: l, x, hx => by
    simp only [fzOf, List.mem_append] at hx
    rcases hx with hx | hx
    · cases hm : h m with
      | lst c q => rw [hm] at hx; simp only [List.mem_cons, List.not_mem_nil, or_false] at hx; subst hx; simp
      | dead => rw [hm] at hx; simp at hx
      | box q => rw [hm] at hx; simp at hx
      | fz c q => rw [hm] at hx; simp at hx
    · exact List.mem_cons_of_mem _ (fzOf_names l x hx)

mutual
theorem nameA_names (b : Nat) : ∀ (q : A U) (n : Nat), ∀ x ∈ (nameA [] b q n).2.1, n ≤ x.1 ∧ x.1 < (nameA [] b q n).2.2
  | .usl c xs, n, x, hx => by simp only [nameA, List.mem_cons, List.not_mem_nil, or_false] at hx ⊢; subst hx; simp
  | .agg l, n, x, hx => by simp only [nameA] at hx ⊢; exact nameAs_names b l n x hx
  | .tup l, n, x, hx => by simp only [nameA] at hx ⊢; exact nameAs_names b l n x hx
  | .clo f l, n, x, hx => by simp only [nameA] at hx ⊢; exact nameAs_names b l n x hx
  | .none, n, x, hx => by simp [nameA] at hx
  | .own m, n, x, hx => by simp [nameA] at hx
  | .sub m c i len, n, x, hx => by simp [nameA] at hx
  | .bsl m p c M i len, n, x, hx => by simp [nameA] at hx
  | .ptr m p, n, x, hx => by simp [nameA] at hx
  | .int k m, n, x, hx => by simp [nameA] at hx
  | .bool k, n, x, hx => by simp [nameA] at hx
  | .str k, n, x, hx => by simp [nameA] at hx
  | .nilp, n, x, hx => by simp [nameA] at hx
  | .nilf, n, x, hx => by simp [nameA] at hx
  | .nils c, n, x, hx => by simp [nameA] at hx
  | .arr c k xs, n, x, hx => by simp [nameA] at hx
  | .ro g c xs, n, x, hx => by simp [nameA] at hx
  | .clip g c xs, n, x, hx => by simp [nameA] at hx
  | .rp g c xs i p, n, x, hx => by simp [nameA] at hx
theorem nameAs_names (b : Nat) : ∀ (q : List (A U)) (n : Nat), ∀ x ∈ (nameAs [] b q n).2.1, n ≤ x.1 ∧ x.1 < (nameAs [] b q n).2.2
  | [], n, x, hx => by simp [nameAs] at hx
  | q :: l, n, x, hx => by
    simp only [nameAs, List.mem_append] at hx ⊢
    rcases hx with hx | hx
    · have h1 := nameA_names b q n x hx
      have h2 := nameAs_le b l (nameA [] b q n).2.2
      exact ⟨h1.1, Nat.lt_of_lt_of_le h1.2 h2⟩
    · have h1 := nameAs_names b l _ x hx
      have h2 := nameA_le b q n
      exact ⟨Nat.le_trans h2 h1.1, h1.2⟩
end

theorem cond_call {c : Bool} {p q r : Plan U} (h : cond c p q = r) : p = r ∨ q = r := by cases c; exact .inr h; exact .inl h

set_option maxHeartbeats 2000000 in
theorem call_plan {f : FuncId} {args : List (A U)} (hp : plan E b o s = .call f args) : ∃ c g caps, o.op = .call c ∧ c.callee = .value g ∧ s.ev E 0 g = .clo f caps ∧ args = evArgs E s c.args.toList c.argTypes.toList ++ caps := by
  have nolen : ∀ t x, lenV E s t x ≠ .call f args := by
    intro t x h; revert h; unfold lenV; intro h; (repeat' split at h) <;> cases h
  have noapp : ∀ t u x y, appendV E s b t u x y ≠ .call f args := by
    intro t u x y h; revert h; unfold appendV; simp only [Bool.cond_eq_ite]; intro h; (repeat' split at h) <;> cases h
  have nocall : ∀ c, callV E s b c = .call f args → ∃ g caps, c.callee = .value g ∧ s.ev E 0 g = .clo f caps ∧ args = evArgs E s c.args.toList c.argTypes.toList ++ caps := by
    intro c h
    unfold callV at h
    simp only [] at h
    cases hc : c.callee with
    | value g =>
      rw [hc] at h
      simp only [] at h
      cases hg : s.ev E 0 g with
      | clo g' caps => rw [hg] at h; cases h; exact ⟨g, _, rfl, hg, rfl⟩
      | _ => rw [hg] at h; simp at h
    | invoke r m => rw [hc] at h; simp at h
    | builtin q =>
      rw [hc] at h
      cases q with
      | len => simp only [] at h; split at h; exact absurd h (nolen _ _); cases h
      | append => simp only [] at h; split at h; exact absurd h (noapp _ _ _ _); cases h
      | _ => simp at h
  cases ho : o.op with
  | call c =>
    simp only [plan, ho] at hp
    obtain ⟨g, caps, h⟩ := nocall c hp
    exact ⟨c, g, caps, rfl, h⟩
  | unOp op t x => exfalso; revert hp; cases op <;> (simp only [plan, ho]; intro hp; (repeat' split at hp) <;> cases hp)
  | makeFunc fn first caps => exfalso; revert hp; cases fn <;> (simp only [plan, ho]; (try simp only [Bool.cond_eq_ite]); intro hp; (repeat' split at hp) <;> cases hp)
  | convert t d x => exfalso; revert hp; simp only [plan, ho]; unfold convV; simp only [Bool.cond_eq_ite]; intro hp; (repeat' split at hp) <;> cases hp
  | _ => exfalso; revert hp; simp only [plan, ho]; (try simp only [Bool.cond_eq_ite]); intro hp; (repeat' split at hp) <;> cases hp

theorem call_step (ok : EnvOk2 E) {T : Tab U} (TS : TSound E T) (R : Rel E s N a.tmps w ι St) (hf : ∀ m, b ≤ m → m < b + 100 → ι m = none) (hd : ∀ d, o.dst = some d → d < N) {f : FuncId} {args : List (A U)} (hp : plan E b o s = .call f args)
    {sV : S U} (hg : ∀ m ∈ ownss args, sV.h m = s.h m) {K : S U → Prop} (hc : callK E T b sV o.dst f args K)
    {next : Act → World → Prop} {Q : Exit → Act → World → Prop} (h : ∀ wr v u w' ι' St', K (sV.put wr o.dst v) → (∀ x ∈ wr, x.1 ∈ ownss args ∨ (b ≤ x.1 ∧ x.1 < b + 100)) → Stp E s N w ι St b o.dst wr v (a.put o.dst u).tmps w' ι' St' → next (a.put o.dst u) w') :
    o.wp E.P a w next Q := by
  obtain ⟨c, g, caps, ho, hcal, hev, rfl⟩ := call_plan hp
  generalize hA : evArgs E s c.args.toList c.argTypes.toList ++ caps = args at *
  have hclo := ev_ok ok R 0 g
  rw [hev] at hclo
  obtain ⟨vs, h1, h2, h3⟩ := RV.clo_inv hclo
  unfold callK at hc
  simp only [] at hc
  rw [inAs_congr args hg, fzOf_congr _ hg] at hc
  cases hb1 : ((ptrss args).isEmpty && !holes (inAs E s.h [] args)) with
  | false => rw [hb1] at hc; exact hc.elim
  | true =>
    rw [hb1] at hc
    simp only [cond_true] at hc
    simp only [Bool.and_eq_true, Bool.not_eq_true', List.isEmpty_iff] at hb1
    obtain ⟨⟨fn, f1, f2, f3⟩, f4⟩ := TS f _ _ hc
    obtain ⟨body, f2⟩ := Option.isSome_iff_exists.1 f2
    have hrun := call_run (w := w) hcal ho h1 f1 f2 f3
    have hrv : RVs E w (StC s St ι (ownss args)) noNm (inAs E s.h [] args) (c.args.map a.eval ++ vs).toList := by
      refine RVs.ins ok R _ ?_ hb1.2 hb1.1 (fun m hm => hm)
      have hh := hb1.2
      rw [← hA] at hh ⊢
      have e : inAs E s.h [] (evArgs E s c.args.toList c.argTypes.toList ++ caps) = inAs E s.h [] (evArgs E s c.args.toList c.argTypes.toList) ++ inAs E s.h [] caps := by
        generalize evArgs E s c.args.toList c.argTypes.toList = l
        induction l with
        | nil => rfl
        | cons x l ih => simp [inAs, ih]
      have e2 : ∀ l m : List (A U), holes (l ++ m) = (holes l || holes m) := by
        intro l m
        induction l with
        | nil => simp [holes]
        | cons x l ih => simp [holes, ih, Bool.or_assoc]
      rw [e, e2, Bool.or_eq_false_iff] at hh
      have := RVs.append (args_rvs ok R c.args.toList c.argTypes.toList hh.1) (RVs.of_flat ok.toEnvOk h2 h3)
      simpa using this
    have hcall := f4 w (StC s St ι (ownss args)) _ hrv (fun B ⟨gg, hB⟩ => ?_) (fun B hB => ?_)
    · unfold Oper.wp
      rw [hrun, Oper.upon_enter]
      refine Calls.mono hcall fun e w' he => ?_
      obtain ⟨r, v, bs, St', rfl, q⟩ := he
      have hk := q.k
      simp only [] at hk
      cases hb2 : ((ptrs r).isEmpty && Nat.ble (nameA [] b r b).2.2 (b + 100)) with
      | false => rw [hb2] at hk; exact hk.elim
      | true =>
        rw [hb2] at hk
        simp only [cond_true] at hk
        simp only [Bool.and_eq_true, List.isEmpty_iff] at hb2
        have hM := Nat.le_of_ble_eq_true hb2.2
        obtain ⟨ι', St2, hs⟩ := call_done ok R hf o.dst hd q hb2.1 hM
        refine h _ _ v w' ι' St2 hk (fun x hx => ?_) hs
        rcases List.mem_append.1 hx with hx | hx
        · cases hl : loan r with
          | false => rw [hl] at hx; simp at hx
          | true => rw [hl] at hx; exact .inl (fzOf_names _ x hx)
        · have := nameA_names b r b x hx
          exact .inr ⟨this.1, by omega⟩
    · cases gg
      · exact R.stb B ⟨false, by simpa [StC] using hB⟩
      · simp only [StC, if_true] at hB
        rcases hB with hB | ⟨m, h1, h2, h3⟩
        · exact R.stb B hB
        · exact R.lt m B (by cases hm : s.h m <;> rw [hm] at h2 <;> simp_all [isLst, isLive]) h3
    · simp only [StC, if_true]
      exact .inl ⟨false, by simpa [StC] using hB⟩
end
end Go.V
