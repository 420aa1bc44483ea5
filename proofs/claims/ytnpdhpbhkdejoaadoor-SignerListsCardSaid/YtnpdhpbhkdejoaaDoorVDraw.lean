/- V: a region whose order is open: what goes ahead. -/
import Derived.Test.YtnpdhpbhkdejoaaDoorVReg
import Derived.Orders
set_option linter.unusedVariables false
set_option linter.unusedSimpArgs false
namespace Go.V
variable {U : Nat → Type}

theorem apartN_iff {l : List Nat} : ∀ {r : List Nat}, apartN l r = true ↔ ∀ n ∈ r, n ∉ l
  | [] => by simp [apartN]
  | n :: r => by simp only [apartN, Bool.and_eq_true, Bool.not_eq_true', memN_false, apartN_iff (r := r), List.mem_cons, forall_eq_or_imp]
theorem outs_iff {b : Nat} : ∀ {r : List Nat}, outs b r = true ↔ ∀ n ∈ r, n < b ∨ b + 100 ≤ n
  | [] => by simp [outs]
  | n :: r => by
    simp only [outs, Bool.and_eq_true, Bool.or_eq_true, outs_iff (r := r), List.mem_cons, forall_eq_or_imp, Nat.blt_eq, Nat.ble_eq]

theorem apartT_spec {ops : List Oper} {x y : Oper} (h : apartT ops x y = true) :
    (∀ d, x.dst = some d → d ∉ uses ops y) ∧ (∀ d, x.dst = some d → y.dst ≠ some d) ∧ (∀ e, y.dst = some e → e ∉ uses ops x) := by
  unfold apartT at h
  simp only [Bool.and_eq_true] at h
  obtain ⟨h1, h2⟩ := h
  refine ⟨fun d hd => ?_, fun d hd he => ?_, fun e he => ?_⟩
  · rw [hd] at h1
    simp only [Bool.and_eq_true, Bool.not_eq_true', memN_false] at h1
    exact h1.1
  · rw [hd, he] at h1
    simp at h1
  · rw [he] at h2
    simpa [memN_false] using h2

theorem clear_spec {ops : List Oper} {b : Nat} {bef : List Nat} {o : Oper} {look wr : List Nat} : ∀ {acc : List Ahead}, clear ops b bef o look wr acc = true → ∀ q ∈ acc,
    q.i ∈ bef ∨ (apartT ops q.o o = true ∧ (∀ n ∈ q.look, n ∉ wr) ∧ (∀ n ∈ q.wr, n ∉ look) ∧ (∀ n ∈ q.look, n < b ∨ b + 100 ≤ n))
  | [], h, q, hq => by cases hq
  | p :: l, h, q, hq => by
    simp only [clear, Bool.and_eq_true, Bool.or_eq_true, memN_iff, apartN_iff, outs_iff] at h
    rcases List.mem_cons.1 hq with rfl | hq
    · exact h.1
    · exact clear_spec h.2 q hq

section
variable {α : Type}
theorem upds_in {f g : Nat → α} {n : Nat} : ∀ {l : List (Nat × α)}, n ∈ l.map (·.1) → upds f l n = upds g l n := by
  intro l
  induction l generalizing f g with
  | nil => intro h; simp at h
  | cons x l ih =>
    intro h
    simp only [upds]
    by_cases hn : n ∈ l.map (·.1)
    · exact ih hn
    · simp only [List.map_cons, List.mem_cons] at h
      rcases h with rfl | h
      · rw [upds_notin hn, upds_notin hn, upd_same, upd_same]
      · exact absurd h hn
theorem upds_comm (f : Nat → α) {l m : List (Nat × α)} (h : ∀ n ∈ l.map (·.1), n ∉ m.map (·.1)) : upds (upds f l) m = upds (upds f m) l := by
  funext n
  by_cases hl : n ∈ l.map (·.1)
  · rw [upds_notin (h n hl), upds_in hl]
  · rw [upds_notin hl]
    by_cases hm : n ∈ m.map (·.1)
    · exact upds_in hm
    · rw [upds_notin hm, upds_notin hm, upds_notin hl]
end

theorem put_comm (s : S U) {wr wr' : List (Nat × AObj U)} {d d' : Option Nat} {v v' : A U} (hd : ∀ x, d = some x → d' ≠ some x) (hw : ∀ n ∈ wr.map (·.1), n ∉ wr'.map (·.1)) : (s.put wr d v).put wr' d' v' = (s.put wr' d' v').put wr d v := by
  simp only [S.put, upds_comm s.h hw, S.mk.injEq, and_true]
  cases d with
  | none => rfl
  | some x =>
    cases d' with
    | none => rfl
    | some y =>
      have : x ≠ y := fun e => hd x rfl (by rw [e])
      exact upd_comm _ _ _ this

/-- an operation that V has run, and the machine has not yet -/
structure Pn (U : Nat → Type) where
  i : Nat
  o : Oper
  look : List Nat
  wr : List (Nat × AObj U)
  v : A U

def Pn.on (p : Pn U) (s : S U) : S U := s.put p.wr p.o.dst p.v
def puts : List (Pn U) → S U → S U
  | [], s => s
  | p :: l, s => puts l (p.on s)
theorem puts_append (l m : List (Pn U)) (s : S U) : puts (l ++ m) s = puts m (puts l s) := by
  induction l generalizing s with
  | nil => rfl
  | cons p l ih => exact ih _
theorem puts_nx (l : List (Pn U)) (s : S U) : (puts l s).nx = s.nx := by
  induction l generalizing s with
  | nil => rfl
  | cons p l ih => exact ih _
theorem puts_nm (l : List (Pn U)) (s : S U) (i : Nat) : (puts l s).nm i = s.nm i := by unfold S.nm; rw [puts_nx]

section
variable (E : Env U) (ops : List Oper)

def Wants (o : Oper) (s : S U) : Prop := o.guard = none ∨ ∃ j want d, o.guard = some (j, want) ∧ guardTmp ops o = some d ∧ s.t d = .bool want
def Wants' (o : Oper) (s : S U) : Prop := ∃ j want d, o.guard = some (j, want) ∧ guardTmp ops o = some d ∧ (s.t d = .bool (!want) ∨ s.t d = .tup [])

/-- what is known of it -/
def Pr (p : Pn U) (s : S U) : Prop :=
  (∀ x ∈ p.wr, x.1 ∈ p.look) ∧
  ((p.wr = [] ∧ p.v = .tup [] ∧ Wants' ops p.o s) ∨
   (Wants ops p.o s ∧ ∃ pre rd, plan E (s.nm p.i) p.o s = .done pre rd p.wr p.v ∧ (∀ q, pre = some q → q) ∧ p.look = rd ++ p.wr.map (·.1)))
def Prs : List (Pn U) → S U → Prop
  | [], _ => True
  | p :: l, s => Pr E ops p s ∧ Prs l (p.on s)
end

section
variable {E : Env U} {ops : List Oper}

theorem Prs.append {l m : List (Pn U)} : ∀ {s : S U}, Prs E ops (l ++ m) s ↔ Prs E ops l s ∧ Prs E ops m (puts l s) := by
  induction l with
  | nil => intro s; simp [Prs, puts]
  | cons p l ih => intro s; simp only [List.cons_append, Prs, puts, ih, and_assoc]

theorem mem_tmpsOf {d : Nat} : ∀ {l : List Operand}, Operand.tmp d ∈ l → d ∈ tmpsOf l
  | [], h => by cases h
  | x :: l, h => by
    rcases List.mem_cons.1 h with rfl | h
    · simp [tmpsOf]
    · have := mem_tmpsOf h
      cases x <;> simp [tmpsOf, this]
theorem ev_agree {s s' : S U} {x : Operand} {l : List Operand} (hx : x ∈ l) (h : ∀ d ∈ tmpsOf l, s'.t d = s.t d) (t : TypeId) : s'.ev E t x = s.ev E t x := by
  cases x with
  | tmp d => exact h d (mem_tmpsOf hx)
  | _ => rfl

theorem guard_uses {o : Oper} {d : Nat} (h : guardTmp ops o = some d) : d ∈ uses ops o := by unfold uses; rw [h]; simp
theorem oper_uses {o : Oper} {d : Nat} (h : d ∈ tmpsOf o.op.operands.toList) : d ∈ uses ops o := by unfold uses; exact List.mem_append_left _ h

theorem Wants.agree {o : Oper} {s s' : S U} (h : Wants ops o s) (ht : ∀ d ∈ uses ops o, s'.t d = s.t d) : Wants ops o s' := by
  rcases h with h | ⟨j, want, d, h1, h2, h3⟩
  · exact .inl h
  · exact .inr ⟨j, want, d, h1, h2, by rw [ht d (guard_uses h2)]; exact h3⟩
theorem Wants'.agree {o : Oper} {s s' : S U} (h : Wants' ops o s) (ht : ∀ d ∈ uses ops o, s'.t d = s.t d) : Wants' ops o s' := by
  obtain ⟨j, want, d, h1, h2, h3⟩ := h
  exact ⟨j, want, d, h1, h2, by rw [ht d (guard_uses h2)]; exact h3⟩
theorem plan_agree {o : Oper} {s s' : S U} {b : Nat} (hne : plan E b o s ≠ .bad) (ht : ∀ d ∈ uses ops o, s'.t d = s.t d) (hh : ∀ n ∈ lookOf (plan E b o s), s'.h n = s.h n) : plan E b o s' = plan E b o s :=
  plan_local (fun x hx t => ev_agree (l := o.op.operands.toList) (by simpa using hx) (fun d hd => ht d (oper_uses hd)) t) hne hh

theorem Pr.agree {p : Pn U} {s s' : S U} (h : Pr E ops p s) (hn : s'.nx = s.nx) (ht : ∀ d ∈ uses ops p.o, s'.t d = s.t d) (hh : ∀ n ∈ p.look, s'.h n = s.h n) : Pr E ops p s' := by
  refine ⟨h.1, ?_⟩
  rcases h.2 with ⟨h1, h2, h3⟩ | ⟨h1, pre, rd, h2, h3, h4⟩
  · exact .inl ⟨h1, h2, h3.agree ht⟩
  · refine .inr ⟨h1.agree ht, pre, rd, ?_, h3, h4⟩
    have : s'.nm p.i = s.nm p.i := by unfold S.nm; rw [hn]
    rw [this, plan_agree (ops := ops) (by rw [h2]; simp) ht (by rw [h2]; simp only [lookOf]; rw [← h4]; exact hh), h2]

/-- an operation and one that goes ahead -/
structure Clr (ops : List Oper) (q : Pn U) (o : Oper) (look : List Nat) (W : Nat → Prop) : Prop where
  ap : apartT ops q.o o = true
  w : ∀ n ∈ q.look, ¬ W n
  l : ∀ n ∈ q.wr.map (·.1), n ∉ look

theorem put_t {s : S U} {wr : List (Nat × AObj U)} {dst : Option Nat} {v : A U} {d : Nat} (h : dst ≠ some d) : (s.put wr dst v).t d = s.t d := by
  cases dst with
  | none => rfl
  | some e => exact upd_ne _ _ (fun x => h (by rw [x]))

theorem front {o : Oper} {look : List Nat} {wr : List (Nat × AObj U)} {v : A U} : ∀ (l : List (Pn U)) {s : S U}, (∀ q ∈ l, Clr ops q o look (· ∈ wr.map (·.1))) → Prs E ops l s →
    (puts l s).put wr o.dst v = puts l (s.put wr o.dst v) ∧ Prs E ops l (s.put wr o.dst v) ∧ (∀ d ∈ uses ops o, (puts l s).t d = s.t d) ∧ (∀ n ∈ look, (puts l s).h n = s.h n)
  | [], s, hc, hp => ⟨rfl, trivial, fun _ _ => rfl, fun _ _ => rfl⟩
  | q :: l, s, hc, hp => by
    obtain ⟨h1, h2, h3, h4⟩ := front (v := v) l (fun x hx => hc x (List.mem_cons_of_mem _ hx)) hp.2
    have c := hc q (by simp)
    obtain ⟨a1, a2, a3⟩ := apartT_spec c.ap
    have comm : (q.on s).put wr o.dst v = q.on (s.put wr o.dst v) := by
      unfold Pn.on
      refine put_comm s (fun x hx => a2 x hx) (fun n hn hm => ?_)
      obtain ⟨y, hy, rfl⟩ := List.mem_map.1 hn
      exact c.w _ (hp.1.1 y hy) hm
    refine ⟨by rw [puts, puts, ← comm]; exact h1, ⟨hp.1.agree rfl (fun d hd => put_t (fun he => a3 d he hd)) (fun n hn => ?_), by rw [← comm]; exact h2⟩, fun d hd => ?_, fun n hn => ?_⟩
    · exact upds_notin (c.w n hn)
    · rw [puts, h3 d hd]; exact put_t (fun he => a1 d he hd)
    · rw [puts, h4 n hn]; exact upds_notin (fun hm => c.l n hm hn)
end

-- the order in which V goes
def edgesAt (ops : List Oper) (i : Nat) : List Nat := match ops[i]? with | some o => edges o.after.toList | .none => []

theorem mem_edges {e : Edge} : ∀ {l : List Edge}, e ∈ l → Region.binds .any e = true → e.on ∈ edges l
  | [], h, _ => by cases h
  | x :: l, h, hb => by
    simp only [edges]
    rcases List.mem_cons.1 h with rfl | h
    · rw [hb]; simp
    · cases Region.binds .any x <;> simp [mem_edges h hb]
theorem edges_mem {n : Nat} : ∀ {l : List Edge}, n ∈ edges l → ∃ e ∈ l, Region.binds .any e = true ∧ e.on = n
  | [], h => by cases h
  | x :: l, h => by
    simp only [edges] at h
    cases hb : Region.binds .any x with
    | true =>
      rw [hb] at h
      rcases List.mem_cons.1 h with rfl | h
      · exact ⟨x, by simp, hb, rfl⟩
      · obtain ⟨e, h1, h2⟩ := edges_mem h; exact ⟨e, by simp [h1], h2⟩
    | false =>
      rw [hb] at h
      obtain ⟨e, h1, h2⟩ := edges_mem h; exact ⟨e, by simp [h1], h2⟩
theorem allIn_iff {done : List Nat} : ∀ {l : List Nat}, allIn done l = true ↔ ∀ n ∈ l, n ∈ done
  | [] => by simp [allIn]
  | n :: l => by simp only [allIn, Bool.and_eq_true, memN_iff, allIn_iff (l := l), List.mem_cons, forall_eq_or_imp]

theorem mem_addN {l : List Nat} {n m : Nat} : m ∈ addN l n ↔ m ∈ l ∨ m = n := by
  unfold addN
  cases h : memN n l with
  | true => simp only [cond_true]; constructor; exact .inl; rintro (h' | rfl); exact h'; exact memN_iff.1 h
  | false => simp
theorem mem_addNs {m : Nat} : ∀ {r l : List Nat}, m ∈ addNs l r ↔ m ∈ l ∨ m ∈ r
  | [], l => by simp [addNs]
  | n :: r, l => by rw [addNs, mem_addNs, mem_addN, List.mem_cons, or_assoc]

theorem getD_out {α : Type} {l : List α} {i : Nat} (d : α) (h : l.length ≤ i) : l.getD i d = d := by simp [List.getD, List.getElem?_eq_none h]
theorem getD_left {α : Type} {l m : List α} {i : Nat} (d : α) (h : i < l.length) : (l ++ m).getD i d = l.getD i d := by simp [List.getD, List.getElem?_append_left h]

/-- whatever is closed under waiting holds what is behind -/
theorem befs_closed {ops : List Oper} {D : Nat → Prop} (hD : ∀ j, D j → ∀ e ∈ edgesAt ops j, D e) : ∀ (l : List Oper) (acc : List (List Nat)), (∀ k, l[k]? = ops[acc.length + k]?) →
    (∀ i < acc.length, (∀ e ∈ edgesAt ops i, D e) → ∀ k ∈ acc.getD i [], D k) → ∀ i, (∀ e ∈ edgesAt ops i, D e) → ∀ k ∈ (befores l acc).getD i [], D k
  | [], acc, hl, ha, i, hi, k, hk => by
    simp only [befores] at hk
    by_cases h : i < acc.length
    · exact ha i h hi k hk
    · rw [getD_out _ (by omega)] at hk; cases hk
  | o :: l, acc, hl, ha, i, hi, k, hk => by
    simp only [befores] at hk
    refine befs_closed hD l _ (fun k => ?_) (fun i hlt hi k hk => ?_) i hi k hk
    · have := hl (k + 1)
      simp only [List.getElem?_cons_succ] at this
      rw [this]; congr 1; simp; omega
    · simp only [List.length_append, List.length_cons, List.length_nil] at hlt
      by_cases h : i < acc.length
      · rw [getD_left _ h] at hk
        exact ha i h hi k hk
      · have : i = acc.length := by omega
        subst this
        have ho := hl 0
        simp only [List.getElem?_cons_zero, Nat.add_zero] at ho
        have he : edgesAt ops acc.length = edges o.after.toList := by unfold edgesAt; rw [← ho]
        rw [he] at hi
        have hk' : k ∈ (edges o.after.toList).foldl (fun s e => addNs (addN s e) (acc.getD e [])) [] := by
          have : (acc ++ [(edges o.after.toList).foldl (fun s e => addNs (addN s e) (acc.getD e [])) []]).getD acc.length [] = (edges o.after.toList).foldl (fun s e => addNs (addN s e) (acc.getD e [])) [] := by simp
          rw [this] at hk; exact hk
        have key : ∀ (es : List Nat) (z : List Nat), (∀ e ∈ es, D e) → (∀ q ∈ z, D q) → ∀ q ∈ es.foldl (fun s e => addNs (addN s e) (acc.getD e [])) z, D q := by
          intro es
          induction es with
          | nil => intro z _ hz q hq; exact hz q hq
          | cons e es ih =>
            intro z he hz q hq
            refine ih _ (fun x hx => he x (by simp [hx])) (fun x hx => ?_) q hq
            rcases mem_addNs.1 hx with hx | hx
            · rcases mem_addN.1 hx with hx | rfl
              · exact hz x hx
              · exact he x (by simp)
            · by_cases hel : e < acc.length
              · exact ha e hel (hD e (he e (by simp))) x hx
              · rw [getD_out _ (by omega)] at hx; cases hx
        exact key _ [] hi (fun q hq => by cases hq) k hk'

theorem bef_closed {ops : List Oper} {D : Nat → Prop} (hD : ∀ j, D j → ∀ e ∈ edgesAt ops j, D e) (i : Nat) (hi : ∀ e ∈ edgesAt ops i, D e) : ∀ k ∈ befOf (befores ops []) i, D k :=
  befs_closed hD ops [] (fun k => by simp) (fun i h => by simp at h) i hi

/-- the soft ones go as early as they can -/
inductive Good (ops : List Oper) : List Nat → List (Nat × Oper) → Prop
  | nil {done} : Good ops done []
  | cons {done x r} : (∀ e ∈ edges x.2.after.toList, e ∈ done) → x.1 ∉ done → ops[x.1]? = some x.2 → (soft x.2 = false → ∀ j o, ops[j]? = some o → soft o = true → j ∉ done → ¬ ∀ e ∈ edges o.after.toList, e ∈ done) → Good ops (x.1 :: done) r → Good ops done (x :: r)

theorem pick1_some {kind : Bool} {done : List Nat} : ∀ {l : List (Nat × Oper)} {x : Nat × Oper}, pick1 kind done l = some x → x ∈ l ∧ soft x.2 = kind ∧ x.1 ∉ done ∧ ∀ e ∈ edges x.2.after.toList, e ∈ done
  | [], x, h => by simp [pick1] at h
  | (i, o) :: l, x, h => by
    simp only [pick1] at h
    cases hb : ((soft o == kind) && (!memN i done && allIn done (edges o.after.toList))) with
    | true =>
      rw [hb] at h
      simp only [cond_true, Option.some.injEq] at h
      subst h
      simp only [Bool.and_eq_true, Bool.not_eq_true', beq_iff_eq, memN_false, allIn_iff] at hb
      exact ⟨by simp, hb.1, hb.2.1, hb.2.2⟩
    | false =>
      rw [hb] at h
      obtain ⟨h1, h2⟩ := pick1_some (l := l) h
      exact ⟨by simp [h1], h2⟩
theorem pick1_none {kind : Bool} {done : List Nat} : ∀ {l : List (Nat × Oper)}, pick1 kind done l = none → ∀ x ∈ l, soft x.2 = kind → x.1 ∉ done → ¬ ∀ e ∈ edges x.2.after.toList, e ∈ done
  | [], h, x, hx => by cases hx
  | (i, o) :: l, h, x, hx => by
    simp only [pick1] at h
    cases hb : ((soft o == kind) && (!memN i done && allIn done (edges o.after.toList))) with
    | true => rw [hb] at h; simp at h
    | false =>
      rw [hb] at h
      intro h1 h2 h3
      rcases List.mem_cons.1 hx with rfl | hx
      · have : ((soft o == kind) && (!memN i done && allIn done (edges o.after.toList))) = true := by
          simp only [Bool.and_eq_true, Bool.not_eq_true', beq_iff_eq, memN_false, allIn_iff]
          exact ⟨h1, h2, h3⟩
        rw [hb] at this; simp at this
      · exact pick1_none (l := l) h x hx h1 h2 h3

theorem mem_enum {ops : List Oper} : ∀ {l : List Oper} {i : Nat} {x : Nat × Oper}, x ∈ enum i l ↔ ∃ k, l[k]? = some x.2 ∧ x.1 = i + k
  | [], i, x => by simp [enum]
  | o :: l, i, x => by
    simp only [enum, List.mem_cons, mem_enum (ops := ops) (l := l)]
    constructor
    · rintro (rfl | ⟨k, h1, h2⟩)
      · exact ⟨0, rfl, rfl⟩
      · exact ⟨k + 1, by simpa using h1, by omega⟩
    · rintro ⟨k, h1, h2⟩
      cases k with
      | zero => simp only [List.getElem?_cons_zero, Option.some.injEq] at h1; exact .inl (by cases x; simp_all)
      | succ k => exact .inr ⟨k, by simpa using h1, by omega⟩

theorem sched_good {ops : List Oper} : ∀ (n : Nat) (done : List Nat), Good ops done (sched (enum 0 ops) n done)
  | 0, done => .nil
  | n + 1, done => by
    have hm : ∀ x ∈ enum 0 ops, ops[x.1]? = some x.2 := fun x hx => by
      obtain ⟨k, h1, h2⟩ := (mem_enum (ops := ops)).1 hx
      rw [h2, Nat.zero_add]; exact h1
    simp only [sched]
    cases h1 : pick1 true done (enum 0 ops) with
    | some x =>
      obtain ⟨p1, p2, p3, p4⟩ := pick1_some h1
      exact .cons p4 p3 (hm x p1) (fun h => by rw [p2] at h; simp at h) (sched_good n _)
    | none =>
      cases h2 : pick1 false done (enum 0 ops) with
      | none => exact .nil
      | some x =>
        obtain ⟨p1, p2, p3, p4⟩ := pick1_some h2
        exact .cons p4 p3 (hm x p1) (fun _ j o hj hs hd => pick1_none h1 (j, o) ((mem_enum (ops := ops)).2 ⟨j, hj, by simp⟩) hs hd) (sched_good n _)
end Go.V
