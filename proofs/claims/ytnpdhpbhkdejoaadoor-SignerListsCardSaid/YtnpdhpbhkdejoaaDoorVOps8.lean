/- V: what a slice yields. -/
import Derived.Test.YtnpdhpbhkdejoaaDoorVOps7
set_option linter.unusedVariables false
set_option linter.unusedSimpArgs false
namespace Go.V
variable {U : Nat → Type}
section
variable {E : Env U} {w : World} {St : Bool → Nat → Prop} {ι : Nat → Option Value} {s : S U} {N : Nat} {a : Act} {b : Nat} {o : Oper}

/-- a piece of a row -/
theorem cut_cells (ok : EnvOk E) {c : Nat} {l : List (U c)} {ds : List Value} {B off i len : Nat} (h : RC E w St ι (l.map (E.enc c)) ds []) (hr : w.rangeAt B off ds) (hi : i + len ≤ l.length) :
    ∃ es, RC E w St ι ((cut l i len).map (E.enc c)) es [] ∧ w.rangeAt B (off + i * E.sz c) es := by
  have hlen : (cut l i len).length = len := by simp only [cut, List.length_take, List.length_drop]; omega
  have hx1 : l = l.take i ++ (cut l i len ++ l.drop (i + len)) := by
    have h1 := List.take_append_drop i l
    have h2 := List.take_append_drop len (l.drop i)
    rw [List.drop_drop] at h2
    conv => lhs; rw [← h1, ← h2]
    rfl
  have hm := congrArg (List.map (E.enc c)) hx1
  rw [hm] at h
  simp only [List.map_append] at h
  obtain ⟨c1, c2, b1', b2', rfl, hb, p1, p2⟩ := RC.split h
  obtain ⟨rfl, rfl⟩ := nil_or hb
  obtain ⟨d1, d2, e1, e2, rfl, he, p3, p4⟩ := RC.split p2
  obtain ⟨rfl, rfl⟩ := nil_or he
  have l1 := p1.length ok
  rw [sizes_enc ok, List.length_take, Nat.min_eq_left (by omega)] at l1
  refine ⟨d1, p3, ?_⟩
  have := rangeAt_sub hr (i * E.sz c) d1.length
  rw [← l1] at this ⊢
  simpa using this

/-- what an appended, or copied, slice yields -/
structure SrcOk (E : Env U) (w : World) (St : Bool → Nat → Prop) (ι : Nat → Option Value) (c : Nat) (tx : TypeId) (x : Value) (l : List (U c)) : Prop where
  src : ∃ news, Src E.P (E.sz c) tx x l.length news w ∧ RC E w St ι (l.map (E.enc c)) news []

theorem src_cells (ok : EnvOk2 E) {c : Nat} {tx e' : TypeId} (hk : E.P.underlying tx = some (.slice e')) {B off cap : Nat} {l : List (U c)} {ds : List Value} (h : RC E w St ι (l.map (E.enc c)) ds []) (hr : w.rangeAt B off ds) :
    SrcOk E w St ι c tx (.slice (some ⟨B, off, .none⟩) l.length cap) l := by
  have hl := h.length ok.toEnvOk
  rw [sizes_enc ok.toEnvOk] at hl
  exact ⟨ds, Src.ofSlice w hk _ _ _ _ hl (fun j u hj => by rw [Addr.add_eq]; exact hr j u hj) h.oneCell, h⟩
theorem src_nil {c : Nat} {tx e' : TypeId} (hk : E.P.underlying tx = some (.slice e')) (cap : Nat) : SrcOk E w St ι c tx (.slice .none 0 cap) [] := by
  refine ⟨[], ?_, .nil⟩
  exact Src.ofNil w hk cap
theorem src_empty {c : Nat} {tx e' : TypeId} (hk : E.P.underlying tx = some (.slice e')) (a' : Option Addr) (cap : Nat) : SrcOk E w St ι c tx (.slice a' 0 cap) [] := by
  refine ⟨[], ?_, .nil⟩
  cases a' with
  | none => exact Src.ofNil w hk cap
  | some x => exact Src.ofSlice w hk x 0 cap [] (by simp) (by simp) (by simp)

theorem content_src (ok : EnvOk2 E) (R : Rel E s N a.tmps w ι St) {tx : TypeId} {y : A U} {v : Value} (hv : RT E w St ι y v) {e : TypeId} (ht : E.ty tx = .sl e) {q : Cont U} (hc : content E s.h y = some q) :
    SrcOk E w St ι q.c tx v q.l := by
  have hk := under_sl ok ht
  cases y with
  | nils c' =>
    obtain rfl := Option.some.inj hc
    rw [RV.nils_inv hv]
    exact src_nil hk 0
  | ro g c' l' =>
    obtain rfl := Option.some.inj hc
    obtain ⟨a', cap, h1, h2⟩ := RV.ro_inv hv
    rcases h2 with rfl | ⟨ds, B, off, rfl, h3, h4, h5, h6⟩
    · rw [h1]; exact src_empty hk _ _
    · rw [h1]; exact src_cells ok hk h3 h4
  | clip g c' l' =>
    obtain rfl := Option.some.inj hc
    obtain ⟨a', h1, h2⟩ := RV.clip_inv hv
    rcases h2 with rfl | ⟨ds, B, off, rfl, h3, h4, h5⟩
    · rw [h1]; exact src_empty hk _ _
    · rw [h1]; exact src_cells ok hk h3 h4
  | own m =>
    obtain ⟨a', L, C, h1, h2⟩ := RV.own_inv hv
    have key : s.h m = .lst q.c q.l ∨ s.h m = .fz q.c q.l := by
      cases hm : s.h m with
      | lst c' l' =>
        simp only [content, hm] at hc
        obtain rfl := Option.some.inj hc
        exact .inl rfl
      | fz c' l' =>
        simp only [content, hm] at hc
        obtain rfl := Option.some.inj hc
        exact .inr rfl
      | dead => simp [content, hm] at hc
      | lp lf lid live vals j => simp [content, hm] at hc
      | box q => simp [content, hm] at hc
    obtain ⟨rfl, q⟩ := R.own_at key h2
    rcases q with e0 | ⟨B, off, ds, rfl, q1, q2, q3⟩
    · rw [h1, e0]; exact src_empty hk _ _
    · rw [h1]; exact src_cells ok hk q1 q2
  | sub m c i len =>
    obtain ⟨a0, a1, L, C, cap, r1, r2, r3, r4, r5, r6⟩ := RV.sub_inv hv
    have key : ∃ l', (s.h m = .lst c l' ∨ s.h m = .fz c l') ∧ q = ⟨[m], c, cut l' i len⟩ := by
      cases hm : s.h m with
      | lst c' l' =>
        simp only [content, hm] at hc
        cases hb : Nat.beq c' c with
        | false => rw [hb] at hc; simp at hc
        | true =>
          rw [hb] at hc
          have := Nat.eq_of_beq_eq_true hb
          subst this
          obtain rfl := Option.some.inj hc
          exact ⟨l', .inl rfl, rfl⟩
      | fz c' l' =>
        simp only [content, hm] at hc
        cases hb : Nat.beq c' c with
        | false => rw [hb] at hc; simp at hc
        | true =>
          rw [hb] at hc
          have := Nat.eq_of_beq_eq_true hb
          subst this
          obtain rfl := Option.some.inj hc
          exact ⟨l', .inr rfl, rfl⟩
      | dead => simp [content, hm] at hc
      | lp lf lid live vals j => simp [content, hm] at hc
      | box q => simp [content, hm] at hc
    obtain ⟨l', h1, rfl⟩ := key
    obtain ⟨rfl, q⟩ := R.own_at h1 r1
    have hlen : (cut l' i len).length = len := by simp only [cut, List.length_take, List.length_drop]; omega
    rw [r6]
    by_cases hz : len = 0
    · have : cut l' i len = [] := List.eq_nil_of_length_eq_zero (by omega)
      simp only [this]
      rw [hz]
      exact src_empty hk _ _
    · rcases q with rfl | ⟨B, off, ds, rfl, q1, q2, q3⟩
      · simp at r2; omega
      · have ha := r5.resolve_left (by omega)
        simp only [Option.map_some, Addr.add_eq] at ha
        subst ha
        obtain ⟨es, p1, p2⟩ := cut_cells ok.toEnvOk q1 q2 r2
        have := src_cells (cap := cap) ok hk p1 p2
        rw [hlen] at this
        exact this
  | bsl m p c M i len =>
    obtain ⟨B, a1, cap, r1, r2, r3, r4, r5, r6, r7⟩ := RV.bsl_inv hv
    cases hm : s.h m with
    | box q0 =>
      simp only [content, hm] at hc
      cases hg : getP E q0 p with
      | arr c' M' l' =>
        rw [hg] at hc
        cases hb : (Nat.beq c c' && Nat.beq M M') with
        | false => simp [hb] at hc
        | true =>
          simp only [hb, cond_true] at hc
          simp only [Bool.and_eq_true] at hb
          have e1 := Nat.eq_of_beq_eq_true hb.1
          have e2 := Nat.eq_of_beq_eq_true hb.2
          subst e1; subst e2
          obtain rfl := Option.some.inj hc
          have h0 := R.obj m
          rw [hm] at h0
          obtain ⟨B', cs, h1, h2, h3, h4, h5⟩ := h0
          rw [r1] at h1
          simp only [Option.some.injEq, Value.pointer.injEq, Addr.mk.injEq, and_true] at h1
          subst h1
          obtain ⟨g1, g2⟩ := h2.getP ok.toEnvOk p r6 (by rw [hg]; rfl)
          rw [hg] at g1 g2
          obtain ⟨g3, g4, -⟩ := g1.arr_inv
          have hlen : (cut l' i len).length = len := by simp only [cut, List.length_take, List.length_drop]; omega
          rw [r7]
          by_cases hz : len = 0
          · have : cut l' i len = [] := List.eq_nil_of_length_eq_zero (by omega)
            simp only [this]
            rw [hz]
            exact src_empty hk _ _
          · have ha := r5.resolve_left (by omega)
            subst ha
            have hr := rangeAt_sub h3 (po p) (size E.sz (.arr c M l' : A U))
            rw [Nat.zero_add] at hr
            obtain ⟨es, p1, p2⟩ := cut_cells ok.toEnvOk g4 hr (by omega : i + len ≤ l'.length)
            have := src_cells (cap := cap) ok hk p1 p2
            rw [hlen] at this
            exact this
      | none => simp [hg] at hc
      | int => simp [hg] at hc
      | bool => simp [hg] at hc
      | str => simp [hg] at hc
      | nilp => simp [hg] at hc
      | nilf => simp [hg] at hc
      | agg => simp [hg] at hc
      | nils => simp [hg] at hc
      | ro => simp [hg] at hc
      | clip => simp [hg] at hc
      | usl => simp [hg] at hc
      | own => simp [hg] at hc
      | sub => simp [hg] at hc
      | bsl => simp [hg] at hc
      | ptr => simp [hg] at hc
      | yld => simp [hg] at hc
      | rp => simp [hg] at hc
      | clo => simp [hg] at hc
      | tup => simp [hg] at hc
    | dead => simp [content, hm] at hc
    | lp lf lid live vals j => simp [content, hm] at hc
    | lst => simp [content, hm] at hc
    | fz => simp [content, hm] at hc
  | none => simp [content] at hc
  | int => simp [content] at hc
  | bool => simp [content] at hc
  | str => simp [content] at hc
  | nilp => simp [content] at hc
  | nilf => simp [content] at hc
  | agg => simp [content] at hc
  | arr => simp [content] at hc
  | usl => simp [content] at hc
  | ptr => simp [content] at hc
  | yld => simp [content] at hc
  | rp => simp [content] at hc
  | clo => simp [content] at hc
  | tup => simp [content] at hc
end
end Go.V
