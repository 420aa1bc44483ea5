/- V: calls. -/
import Derived.Test.YtnpdhpbhkdejoaaDoorVPlan
set_option linter.unusedVariables false
set_option linter.unusedSimpArgs false
namespace Go.V
variable {U : Nat → Type}


/-- values that a call gives, with what they have for themselves -/
def RVb (E : Env U) (w : World) (St : Bool → Nat → Prop) : List (A U) → List Value → List Nat → Prop
  | [], [], bs => bs = []
  | a :: l, v :: vs, bs => ∃ b1 b2, bs = b1 ++ b2 ∧ RC E w St noNm [a] v.cells.toList b1 ∧ isAggV v = isAgg a ∧ RVb E w St l vs b2
  | _, _, _ => False
def RTb (E : Env U) (w : World) (St : Bool → Nat → Prop) (a : A U) (v : Value) (bs : List Nat) : Prop :=
  match a with
  | .tup l => ∃ vs, v = .tuple vs ∧ RVb E w St l vs.toList bs
  | a => RC E w St noNm [a] v.cells.toList bs ∧ isAggV v = isAgg a

structure Result' (E : Env U) (w : World) (St : Bool → Nat → Prop) (K : A U → List (AObj U) → Prop) (v : Value) (w' : World) (r : A U) (bs : List Nat) (St' : Bool → Nat → Prop) : Prop where
  k : K r []
  val : RTb E w' St' r v bs
  fr : Fr (fun _ => False) w w'
  new : ∀ B ∈ bs, w.heap.size ≤ B ∧ B < w'.heap.size ∧ ¬ An St' B
  dis : bs.Nodup
  gr : ∀ g B, St' g B → St g B ∨ w.heap.size ≤ B
  lt : ∀ B, An St' B → B < w'.heap.size

/-- what a function's row of the table promises -/
def FnSound (E : Env U) (f : FuncId) (args : List (A U)) (K : A U → List (AObj U) → Prop) : Prop :=
  (∃ fn, E.P.funcs[f]? = some fn ∧ fn.body.isSome = true ∧ (fn.name == "runtime.NumGoroutine") = false) ∧
  ∀ (w : World) (St : Bool → Nat → Prop) (vs : Array Value), RVs E w St noNm args vs.toList → (∀ B, An St B → B < w.heap.size) → Sup E w St →
    Calls E.P f vs w fun e w' => ∃ r v bs St', e = .returned v ∧ Result' E w St K v w' r bs St'

section
variable {E : Env U} {w : World} {St : Bool → Nat → Prop} {ι : Nat → Option Value} {s : S U} {N : Nat} {a : Act} {b : Nat} {o : Oper}

/-- the blocks of lists that are lent -/
def Lent (s : S U) (ι : Nat → Option Value) (l : List Nat) (B : Nat) : Prop := ∃ m ∈ l, isLst (s.h m) = true ∧ blkO (ι m) = some B
def StC (s : S U) (St : Bool → Nat → Prop) (ι : Nat → Option Value) (l : List Nat) (g : Bool) (B : Nat) : Prop := if g then An St B ∨ Lent s ι l B else St false B

theorem StC.stay {l : List Nat} (B : Nat) (h : St false B) : StC s St ι l false B := by simpa [StC] using h
theorem StC.any {l : List Nat} (g : Bool) (B : Nat) (h : St g B) : StC s St ι l g B := by
  cases g
  · simpa [StC] using h
  · simp only [StC, if_true]; exact .inl ⟨_, h⟩
theorem StC.lent {l : List Nat} (m B : Nat) (hm : m ∈ l) (hl : isLst (s.h m) = true) (h : blkO (ι m) = some B) : StC s St ι l true B := by
  simp only [StC, if_true]; exact .inr ⟨m, hm, hl, h⟩

theorem app_nil {α : Type} {l m : List α} (h : l ++ m = []) : l = [] ∧ m = [] := by simpa using h

theorem sizes_of {sz : Nat → Nat} {l m : List (A U)} (h : l.map (fun a => (size sz a, isAgg a)) = m.map (fun a => (size sz a, isAgg a))) : sizes sz l = sizes sz m := by
  induction l generalizing m with
  | nil => cases m with | nil => rfl | cons _ _ => simp at h
  | cons a l ih =>
    cases m with
    | nil => simp at h
    | cons b m =>
      simp only [List.map_cons, List.cons.injEq, Prod.mk.injEq] at h
      simp [sizes, h.1.1, ih h.2]

mutual
theorem inA_ok (ok : EnvOk2 E) {tm : Array Value} (R : Rel E s N tm w ι St) (L : List Nat) : ∀ (q : A U) {cs : List Value}, RC E w St ι [q] cs [] → hole (inA E s.h [] q) = false → ptrs q = [] → (∀ m ∈ owns q, m ∈ L) →
    RC E w (StC s St ι L) noNm [inA E s.h [] q] cs [] ∧ isAgg (inA E s.h [] q) = isAgg q ∧ size E.sz (inA E s.h [] q) = size E.sz q
  | .own m, cs, hc, hh, hp, hL => by
    obtain ⟨v, rfl, hv⟩ := hc.own_inv
    have h0 := R.obj m
    cases hm : s.h m with
    | lst c l =>
      rw [hm] at h0
      simp only [inA, hm]
      refine ⟨?_, rfl, rfl⟩
      rcases h0 with ⟨⟨a0, h1⟩, h2⟩ | ⟨B, off, cap, ds, h1, h2, h3, h4, h5, h6⟩
      · rw [hv] at h1
        obtain rfl := Option.some.inj h1
        subst h2
        exact .roE .nil
      · rw [hv] at h1
        obtain rfl := Option.some.inj h1
        exact .ro (h2.encs ok.toEnvOk StC.stay) h3 (StC.lent m B (hL m (by simp [owns])) (by rw [hm]; rfl) (by rw [hv]; rfl)) h5 .nil
    | fz c l =>
      rw [hm] at h0
      simp only [inA, hm]
      refine ⟨?_, rfl, rfl⟩
      obtain ⟨v', h1, h2⟩ := h0
      rw [hv] at h1
      obtain rfl := Option.some.inj h1
      cases h2 with
      | roE _ => exact .roE .nil
      | ro q1 q2 q3 q4 _ => exact .ro (q1.encs ok.toEnvOk StC.stay) q2 (by simp only [StC, if_true]; exact .inl ⟨_, q3⟩) q4 .nil
    | dead => simp [inA, hm, hole] at hh
    | lp lf lid live vals j => simp [inA, hm, hole] at hh
    | box q => simp [inA, hm, hole] at hh
  | .sub m c i len, cs, hc, hh, hp, hL => by
    have hc' : ∃ a a' L C cap, ι m = some (.slice a L C) ∧ i + len ≤ L ∧ len ≤ cap ∧ i + cap ≤ C ∧ (cap = 0 ∨ a' = a.map (·.add (i * E.sz c))) ∧ cs = [.slice a' len cap] := by
      cases hc with
      | sub h1 h2 h3 h4 h5 h6 => cases h6; exact ⟨_, _, _, _, _, h1, h2, h3, h4, h5, rfl⟩
    obtain ⟨a0, a1, L0, C, cap, r1, r2, r3, r4, r5, rfl⟩ := hc'
    have key : ∃ l', (s.h m = .lst c l' ∨ s.h m = .fz c l') ∧ content E s.h (.sub m c i len) = some ⟨[m], c, cut l' i len⟩ := by
      simp only [inA] at hh
      cases hm : s.h m with
      | lst c' l' =>
        cases hb : Nat.beq c' c with
        | false => simp [content, hm, hb, hole] at hh
        | true =>
          have := Nat.eq_of_beq_eq_true hb
          subst this
          exact ⟨l', .inl rfl, by simp [content, hm]⟩
      | fz c' l' =>
        cases hb : Nat.beq c' c with
        | false => simp [content, hm, hb, hole] at hh
        | true =>
          have := Nat.eq_of_beq_eq_true hb
          subst this
          exact ⟨l', .inr rfl, by simp [content, hm]⟩
      | dead => simp [content, hm, hole] at hh
      | lp lf lid live vals j => simp [content, hm, hole] at hh
      | box q => simp [content, hm, hole] at hh
    obtain ⟨l', h1, h2⟩ := key
    simp only [inA, h2]
    refine ⟨?_, rfl, rfl⟩
    obtain ⟨rfl, q⟩ := R.own_at h1 r1
    have hlen : (cut l' i len).length = len := by simp only [cut, List.length_take, List.length_drop]; omega
    by_cases hz : len = 0
    · have : cut l' i len = [] := List.eq_nil_of_length_eq_zero (by omega)
      rw [this, hz]
      exact .roE .nil
    · rcases q with rfl | ⟨B, off, ds, rfl, q1, q2, q3⟩
      · simp at r2; omega
      · have ha := r5.resolve_left (by omega)
        simp only [Option.map_some, Addr.add_eq] at ha
        subst ha
        obtain ⟨es, p1, p2⟩ := cut_cells ok.toEnvOk q1 q2 r2
        have h3 : RC E w (StC s St ι L) noNm [.ro true c (cut l' i len)] [.slice (some ⟨B, off + i * E.sz c, .none⟩) (cut l' i len).length cap] [] := by
          refine .ro (p1.encs ok.toEnvOk StC.stay) p2 ?_ (by omega) .nil
          rcases h1 with h1 | h1
          · exact StC.lent m B (hL m (by simp [owns])) (by rw [h1]; rfl) (by rw [r1]; exact blk_pos (by omega))
          · have h0 := R.obj m
            rw [h1] at h0
            obtain ⟨v', e1, e2⟩ := h0
            rw [r1] at e1
            obtain rfl := Option.some.inj e1
            have hne : l' ≠ [] := by intro e; subst e; simp at r2; omega
            obtain ⟨a2, cap2, k1, k2⟩ := RV.ro_inv (RV.mk1 e2 rfl rfl)
            simp only [Value.slice.injEq] at k1
            obtain ⟨rfl, -, -⟩ := k1
            obtain ⟨ds2, B2, off2, k3, -, -, k4, -⟩ := k2.resolve_left hne
            simp only [Option.some.injEq, Addr.mk.injEq, and_true] at k3
            obtain ⟨rfl, -⟩ := k3
            simp only [StC, if_true]
            exact .inl ⟨_, k4⟩
        rw [hlen] at h3
        exact h3
  | .agg l, cs, hc, hh, hp, hL => by
    simp only [inA]
    obtain ⟨h1, h2⟩ := inAs_ok ok R L l hc.agg_inv (by simpa [inA, hole] using hh) (by simpa [ptrs] using hp) (by simpa [owns] using hL)
    refine ⟨by simpa using RC.agg h1 .nil, rfl, ?_⟩
    simp only [size]
    exact sizes_of h2
  | .clo f l, cs, hc, hh, hp, hL => by
    simp only [inA]
    have hc' : ∃ vs : Array Value, cs = [.func (.func f) #[] vs] ∧ RC E w St ι l ((vs.toList.map (·.cells.toList)).flatten) [] ∧ vs.toList.map (fun v => (v.cells.size, isAggV v)) = l.map (fun a => (size E.sz a, isAgg a)) := by
      cases hc with
      | clo h1 h2 h3 => cases h3; exact ⟨_, rfl, h1, h2⟩
    obtain ⟨vs, rfl, h3, h4⟩ := hc'
    obtain ⟨h1, h2⟩ := inAs_ok ok R L l h3 (by simpa [inA, hole] using hh) (by simpa [ptrs] using hp) (by simpa [owns] using hL)
    exact ⟨.clo h1 (h4.trans h2.symm) .nil, rfl, rfl⟩
  | .nils c, cs, hc, hh, hp, hL => by
    cases hc; rename_i hn; cases hn
    exact ⟨.roE .nil, rfl, rfl⟩
  | .none, cs, hc, hh, hp, hL => by cases hc
  | .tup l, cs, hc, hh, hp, hL => by cases hc
  | .usl c l, cs, hc, hh, hp, hL => by simp [inA, hole] at hh
  | .bsl .., cs, hc, hh, hp, hL => by simp [inA, hole] at hh
  | .ptr .., cs, hc, hh, hp, hL => by simp [ptrs] at hp
  | .yld .., cs, hc, hh, hp, hL => by simp [ptrs] at hp
  | .int k n, cs, hc, hh, hp, hL => ⟨by cases hc; rename_i hn; cases hn; exact .int .nil, rfl, rfl⟩
  | .bool k, cs, hc, hh, hp, hL => ⟨by cases hc; rename_i hn; cases hn; exact .bool .nil, rfl, rfl⟩
  | .str k, cs, hc, hh, hp, hL => ⟨by cases hc; rename_i hn; cases hn; exact .str .nil, rfl, rfl⟩
  | .nilp, cs, hc, hh, hp, hL => ⟨by cases hc; rename_i hn; cases hn; exact .nilp .nil, rfl, rfl⟩
  | .nilf, cs, hc, hh, hp, hL => ⟨by cases hc; rename_i hn; cases hn; exact .nilf .nil, rfl, rfl⟩
  | .arr c n xs, cs, hc, hh, hp, hL => by
    obtain ⟨h1, h2, -⟩ := hc.arr_inv
    exact ⟨by simpa [inA] using RC.arr h1 (h2.encs ok.toEnvOk StC.stay) .nil, rfl, rfl⟩
  | .ro g c xs, cs, hc, hh, hp, hL => by
    refine ⟨?_, rfl, rfl⟩
    simp only [inA]
    cases hc with
    | roE hn => cases hn; exact .roE .nil
    | ro h1 h2 h3 h4 hn => cases hn; exact .ro (h1.encs ok.toEnvOk StC.stay) h2 (StC.any _ _ h3) h4 .nil
  | .clip g c xs, cs, hc, hh, hp, hL => by
    refine ⟨?_, rfl, rfl⟩
    simp only [inA]
    cases hc with
    | clipE hn => cases hn; exact .clipE .nil
    | clip h1 h2 h3 hn => cases hn; exact .clip (h1.encs ok.toEnvOk StC.stay) h2 (StC.any _ _ h3) .nil
  | .rp g c xs i p, cs, hc, hh, hp, hL => by
    refine ⟨?_, rfl, rfl⟩
    simp only [inA]
    cases hc with
    | rp h1 h2 h3 h4 h5 hn => cases hn; exact .rp (h1.encs ok.toEnvOk StC.stay) h2 (StC.any _ _ h3) h4 h5 .nil
theorem inAs_ok (ok : EnvOk2 E) {tm : Array Value} (R : Rel E s N tm w ι St) (L : List Nat) : ∀ (q : List (A U)) {cs : List Value}, RC E w St ι q cs [] → holes (inAs E s.h [] q) = false → ptrss q = [] → (∀ m ∈ ownss q, m ∈ L) →
    RC E w (StC s St ι L) noNm (inAs E s.h [] q) cs [] ∧ (inAs E s.h [] q).map (fun a => (size E.sz a, isAgg a)) = q.map (fun a => (size E.sz a, isAgg a))
  | [], cs, hc, hh, hp, hL => by cases hc; exact ⟨.nil, rfl⟩
  | q :: l, cs, hc, hh, hp, hL => by
    obtain ⟨c1, c2, b1, b2, rfl, hb, h1, h2⟩ := RC.cons_inv hc
    obtain ⟨rfl, rfl⟩ := nil_or hb
    simp only [inAs, holes, Bool.or_eq_false_iff] at hh
    simp only [ptrss] at hp
    obtain ⟨hp1, hp2⟩ := app_nil hp
    obtain ⟨i1, i2, i3⟩ := inA_ok ok R L q h1 hh.1 hp1 (fun m hm => hL m (by simp [ownss, hm]))
    obtain ⟨j1, j2⟩ := inAs_ok ok R L l h2 hh.2 hp2 (fun m hm => hL m (by simp [ownss, hm]))
    exact ⟨by simp only [inAs]; simpa using RC.cons i1 j1, by simp only [inAs, List.map_cons, i2, i3, j2]⟩
end
end
end Go.V
