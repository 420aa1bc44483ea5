/- V: the tables of a seat, checked by the kernel. -/
import Derived.Test.YtnpdhpbhkdejoaaDoorVFun
set_option linter.unusedVariables false
set_option linter.unusedSimpArgs false
namespace Go.V
variable {U : Nat → Type}

/-- a value of zeros, cell by cell: what is left of the cells -/
def zcells (E : Env U) : (fuel : Nat) → List (A U) → List Value → Option (List Value)
  | 0, _, _ => .none
  | n + 1, l, cs => match l with
    | [] => some cs
    | .int k x :: l => match cs with
      | .int k' y :: cs => cond (decide (k = k') && decide (x = y)) (zcells E n l cs) .none
      | _ => .none
    | .bool x :: l => match cs with
      | .bool y :: cs => cond (x == y) (zcells E n l cs) .none
      | _ => .none
    | .str x :: l => match cs with
      | .string y :: cs => cond (decide (x = y)) (zcells E n l cs) .none
      | _ => .none
    | .nilp :: l => match cs with
      | .pointer .none :: cs => zcells E n l cs
      | _ => .none
    | .nilf :: l => match cs with
      | .nilFunc :: cs => zcells E n l cs
      | _ => .none
    | .nils c :: l => match cs with
      | .slice .none 0 0 :: cs => zcells E n l cs
      | _ => .none
    | .ro b c [] :: l => match cs with
      | .slice a 0 _ :: cs => zcells E n l cs
      | _ => .none
    | .agg m :: l => match zcells E n m cs with
      | some cs => zcells E n l cs
      | .none => .none
    | .arr c k xs :: l => cond (Nat.beq xs.length k) (match zcells E n (xs.map (E.enc c)) cs with
      | some cs => zcells E n l cs
      | .none => .none) .none
    | _ => .none

theorem zcells_ok {E : Env U} {w : World} {St : Bool → Nat → Prop} {ι : Nat → Option Value} : ∀ (n : Nat) (l : List (A U)) (cs r : List Value), zcells E n l cs = some r → ∃ c1, cs = c1 ++ r ∧ RC E w St ι l c1 []
  | 0, l, cs, r, h => by simp [zcells] at h
  | n + 1, l, cs, r, h => by
    have ih := zcells_ok (E := E) (w := w) (St := St) (ι := ι) n
    have one : ∀ (a : A U) (l : List (A U)) (v : Value) (cs : List Value), (∀ {l cs}, RC E w St ι l cs [] → RC E w St ι (a :: l) (v :: cs) []) → zcells E n l cs = some r → ∃ c1, v :: cs = c1 ++ r ∧ RC E w St ι (a :: l) c1 [] := by
      intro a l v cs hc h
      obtain ⟨c1, rfl, h1⟩ := ih l cs r h
      exact ⟨v :: c1, rfl, hc h1⟩
    cases l with
    | nil => simp only [zcells, Option.some.injEq] at h; exact ⟨[], h, .nil⟩
    | cons a l =>
      cases a with
      | int k x =>
        simp only [zcells] at h
        split at h
        · rename_i k' y cs
          cases hb : (decide (k = k') && decide (x = y)) with
          | false => rw [hb] at h; simp at h
          | true =>
            rw [hb] at h
            simp only [Bool.and_eq_true, decide_eq_true_eq] at hb
            obtain ⟨rfl, rfl⟩ := hb
            exact one _ _ _ _ .int h
        · simp at h
      | bool x =>
        simp only [zcells] at h
        split at h
        · rename_i y cs
          cases hb : (x == y) with
          | false => rw [hb] at h; simp at h
          | true => rw [hb] at h; rw [← eq_of_beq hb]; exact one _ _ _ _ .bool h
        · simp at h
      | str x =>
        simp only [zcells] at h
        split at h
        · rename_i y cs
          cases hb : (decide (x = y)) with
          | false => rw [hb] at h; simp at h
          | true => rw [hb] at h; rw [← of_decide_eq_true hb]; exact one _ _ _ _ .str h
        · simp at h
      | nilp => simp only [zcells] at h; split at h; exact one _ _ _ _ .nilp h; simp at h
      | nilf => simp only [zcells] at h; split at h; exact one _ _ _ _ .nilf h; simp at h
      | nils c => simp only [zcells] at h; split at h; exact one _ _ _ _ .nils h; simp at h
      | ro b c xs =>
        cases xs with
        | nil => simp only [zcells] at h; split at h; exact one _ _ _ _ .roE h; simp at h
        | cons _ _ => simp [zcells] at h
      | agg m =>
        simp only [zcells] at h
        cases hm : zcells E n m cs with
        | none => rw [hm] at h; simp at h
        | some cs' =>
          rw [hm] at h
          obtain ⟨c1, rfl, h1⟩ := ih m cs cs' hm
          obtain ⟨c2, rfl, h2⟩ := ih l cs' r h
          exact ⟨c1 ++ c2, by simp, by simpa using RC.agg h1 h2⟩
      | arr c k xs =>
        simp only [zcells] at h
        cases hb : Nat.beq xs.length k with
        | false => rw [hb] at h; simp at h
        | true =>
          rw [hb] at h
          simp only [cond_true] at h
          cases hm : zcells E n (xs.map (E.enc c)) cs with
          | none => rw [hm] at h; simp at h
          | some cs' =>
            rw [hm] at h
            obtain ⟨c1, rfl, h1⟩ := ih _ cs cs' hm
            obtain ⟨c2, rfl, h2⟩ := ih l cs' r h
            exact ⟨c1 ++ c2, by simp, by simpa using RC.arr (Nat.eq_of_beq_eq_true hb) h1 h2⟩
      | _ => simp [zcells] at h

def fieldsB : List Field → List (TypeId × Nat) → Bool
  | [], [] => true
  | f :: l, x :: m => Nat.beq f.type x.1 && (Nat.beq f.offset x.2 && fieldsB l m)
  | _, _ => false
theorem fieldsB_eq : ∀ {l : List Field} {m : List (TypeId × Nat)}, fieldsB l m = true → m = l.map fun f => (f.type, f.offset)
  | [], [], _ => rfl
  | [], _ :: _, h => by simp [fieldsB] at h
  | _ :: _, [], h => by simp [fieldsB] at h
  | f :: l, x :: m, h => by
    simp only [fieldsB, Bool.and_eq_true] at h
    rw [fieldsB_eq h.2.2, List.map_cons, Nat.eq_of_beq_eq_true h.1, Nat.eq_of_beq_eq_true h.2.1]
def tyB (P : Program) (t : TypeId) : Ty → Bool
  | .no => false
  | .int k => match P.underlying t with | some (.int k') => decide (k' = k) | _ => false
  | .bool => match P.underlying t with | some .bool => true | _ => false
  | .str => match P.underlying t with | some .string => true | _ => false
  | .ptr e => match P.underlying t with | some (.pointer e') => Nat.beq e' e | _ => false
  | .func => true
  | .sl e => match P.underlying t with | some (.slice e') => Nat.beq e' e | _ => false
  | .arr n e => match P.underlying t with | some (.array n' e') => Nat.beq n' n && Nat.beq e' e | _ => false
  | .st fs => match P.underlying t with | some (.struct fields) => fieldsB fields.toList fs | _ => false
theorem tyB_ok {P : Program} {t : TypeId} {y : Ty} (h : tyB P t y = true) : tyOk P t y := by
  cases y <;> simp only [tyB] at h <;> first | (simp at h; done) | skip
  case int k => split at h; rename_i k' e; simp only [decide_eq_true_eq] at h; subst h; exact e; simp at h
  case bool => split at h; assumption; simp at h
  case str => split at h; assumption; simp at h
  case ptr e => split at h; rename_i e' he; rw [Nat.eq_of_beq_eq_true h] at he; exact he; simp at h
  case func => trivial
  case sl e => split at h; rename_i e' he; rw [Nat.eq_of_beq_eq_true h] at he; exact he; simp at h
  case arr n e => split at h; rename_i n' e' he; simp only [Bool.and_eq_true] at h; rw [Nat.eq_of_beq_eq_true h.1, Nat.eq_of_beq_eq_true h.2] at he; exact he; simp at h
  case st fs => split at h; rename_i fields he; exact ⟨fields, he, fieldsB_eq h⟩; simp at h

def zeroB (E : Env U) (z : Value) (a : A U) : Bool := match zcells E 1000 [a] z.cells.toList with
  | some [] => isAggV z == isAgg a
  | _ => false
theorem zeroB_ok {E : Env U} {w : World} {St : Bool → Nat → Prop} {ι : Nat → Option Value} {z : Value} {a : A U} (h : zeroB E z a = true) : RV E w St ι a z := by
  unfold zeroB at h
  split at h
  · rename_i hz
    obtain ⟨c1, e, h1⟩ := zcells_ok (w := w) (St := St) (ι := ι) _ _ _ _ hz
    rw [List.append_nil] at e
    subst e
    exact ⟨h1, eq_of_beq h⟩
  · simp at h

def rowB (E : Env U) (r : Row) : Bool := tyB E.P r.t r.ty &&
  (match E.P.info? r.t with
    | some i => (Nat.beq i.size r.sz && Nat.beq i.bytes r.by') && (match i.zero with
      | some z => (cond (known (zero E r.t)) (zeroB E z (zero E r.t)) true) && (zeroB E z (E.enc r.t (E.dflt r.t)) && Nat.beq z.cells.size r.sz)
      | .none => false)
    | .none => false) &&
  (match E.P.underlying r.t with | some d => d.isRow == rowTy r.ty | .none => false)
def rowsB (E : Env U) : List Row → Bool
  | [] => true
  | r :: l => rowB E r && rowsB E l

theorem rowOf_mem {t : TypeId} : ∀ {l : List Row} {r : Row}, rowOf t l = some r → r ∈ l ∧ r.t = t
  | [], r, h => by simp [rowOf] at h
  | x :: l, r, h => by
    simp only [rowOf] at h
    cases hb : Nat.beq x.t t with
    | true => rw [hb] at h; simp only [cond_true, Option.some.injEq] at h; subst h; exact ⟨by simp, Nat.eq_of_beq_eq_true hb⟩
    | false => rw [hb] at h; obtain ⟨h1, h2⟩ := rowOf_mem (l := l) h; exact ⟨by simp [h1], h2⟩
theorem rowsB_mem {E : Env U} : ∀ {l : List Row}, rowsB E l = true → ∀ r ∈ l, rowB E r = true
  | [], h, r, hr => by cases hr
  | x :: l, h, r, hr => by
    simp only [rowsB, Bool.and_eq_true] at h
    rcases List.mem_cons.1 hr with rfl | hr
    · exact h.1
    · exact rowsB_mem h.2 r hr

/-- two plain values of a type are compared as the table says -/
def PlainOk (E : Env U) (c : Nat) : Prop := (∀ l m : List (U c), E.eqb c l m = true ↔ l = m) ∧ ∀ x y : U c, ∃ r, eqV E 1 c (E.enc c x) (E.enc c y) = some r ∧ (r = true ↔ x = y)
abbrev decI (x y : Int) : Bool := decide (x = y)
abbrev decB (x y : Bool) : Bool := x == y
abbrev eqLI (x y : List Int) : Bool := decide (x = y)
abbrev eqLB (x y : List Bool) : Bool := decide (x = y)
abbrev eqLS (x y : List ByteArray) : Bool := decide (x = y)
theorem decI_iff (x y : Int) : decI x y = true ↔ x = y := decide_eq_true_iff
theorem decB_iff (x y : Bool) : decB x y = true ↔ x = y := beq_iff_eq
theorem eqLI_iff (x y : List Int) : eqLI x y = true ↔ x = y := decide_eq_true_iff
theorem eqLB_iff (x y : List Bool) : eqLB x y = true ↔ x = y := decide_eq_true_iff
theorem eqLS_iff (x y : List ByteArray) : eqLS x y = true ↔ x = y := decide_eq_true_iff
theorem seq_iff {x y : ByteArray} : seq x y = true ↔ x = y := decide_eq_true_iff
theorem eqA_of {E : Env U} (h : ∀ r ∈ E.tys, plainTy r.ty = true → PlainOk E r.t) : ∀ c, plainTy (E.ty c) = true → PlainOk E c := by
  intro c hc
  unfold Env.ty at hc
  cases hr' : rowOf c E.tys with
  | none => rw [hr'] at hc; simp [plainTy] at hc
  | some r =>
    rw [hr'] at hc
    obtain ⟨h1, h2⟩ := rowOf_mem hr'
    rw [← h2]
    exact h r h1 hc
structure EnvX (E : Env U) : Prop where
  glob : ∀ g, loan (E.glob g) = false ∧ noTupG (E.glob g) = true
  eqA : ∀ c, plainTy (E.ty c) = true → PlainOk E c
  eqT : eqsOk E.P E.eqs = true
  toB : ∀ c l t, E.toBytes c l = some t → E.ty c = .int .u8 ∧ ∃ ns : List Int, l.map (E.enc c) = ns.map (.int .u8) ∧ t = bytesOf ns
  ofB : ∀ c t l, E.ofBytes c t = some l → E.ty c = .int .u8 ∧ l.map (E.enc c) = (bytesTo t).map (.int .u8)
theorem envOk_of (E : Env U) (hb : EnvOk E) (hr : rowsB E E.tys = true) (hm : E.P.follows .mixedOrders = true) (hx : EnvX E) : EnvOk2 E := by
  have row : ∀ t, E.ty t ≠ .no → ∃ r, E.ty t = r.ty ∧ E.sz t = r.sz ∧ E.by' t = r.by' ∧ r.t = t ∧ rowB E r = true := by
    intro t h
    unfold Env.ty at h
    cases hr' : rowOf t E.tys with
    | none => rw [hr'] at h; exact absurd rfl h
    | some r =>
      obtain ⟨h1, h2⟩ := rowOf_mem hr'
      exact ⟨r, by unfold Env.ty; rw [hr'], by unfold Env.sz; rw [hr'], by unfold Env.by'; rw [hr'], h2, rowsB_mem hr r h1⟩
  have all : ∀ t, E.ty t ≠ .no → tyOk E.P t (E.ty t) ∧ (∃ i z, E.P.info? t = some i ∧ i.size = E.sz t ∧ i.bytes = E.by' t ∧ i.zero = some z ∧ (known (zero E t) = true → zeroB E z (zero E t) = true) ∧ zeroB E z (E.enc t (E.dflt t)) = true ∧ z.cells.size = E.sz t) ∧
      (∃ d, E.P.underlying t = some d ∧ d.isRow = rowTy (E.ty t)) := by
    intro t h
    obtain ⟨r, h1, h2, h3, rfl, h4⟩ := row t h
    unfold rowB at h4
    simp only [Bool.and_eq_true] at h4
    obtain ⟨⟨q1, q2⟩, q3⟩ := h4
    rw [h1, h2, h3]
    refine ⟨tyB_ok q1, ?_, ?_⟩
    · cases hi : E.P.info? r.t with
      | none => rw [hi] at q2; simp at q2
      | some i =>
        rw [hi] at q2
        simp only [Bool.and_eq_true] at q2
        cases hz : i.zero with
        | none => rw [hz] at q2; simp at q2
        | some z =>
          rw [hz] at q2
          simp only [Bool.and_eq_true] at q2
          refine ⟨i, z, rfl, Nat.eq_of_beq_eq_true q2.1.1, Nat.eq_of_beq_eq_true q2.1.2, hz, fun hk => ?_, q2.2.2.1, Nat.eq_of_beq_eq_true q2.2.2.2⟩
          have := q2.2.1
          rw [hk] at this
          exact this
    · cases hd : E.P.underlying r.t with
      | none => rw [hd] at q3; simp at q3
      | some d => rw [hd] at q3; exact ⟨d, rfl, eq_of_beq q3⟩
  have no : ∀ t, E.ty t = .no → zero E t = .none := fun t h => by unfold zero zeroA; rw [h]
  refine { toEnvOk := hb, under := fun t => ?_, info := fun t h => ?_, agg := fun t h => (all t h).2.2, zer := fun t h => ?_, dfl := fun c h => ?_, mixed := hm, glob := hx.glob, eqA := hx.eqA, eqT := hx.eqT, toB := hx.toB, ofB := hx.ofB }
  · by_cases h : E.ty t = .no
    · rw [h]; trivial
    · exact (all t h).1
  · obtain ⟨i, z, h1, h2, h3, -⟩ := (all t h).2.1
    exact ⟨i, h1, h2, h3⟩
  · by_cases hn : E.ty t = .no
    · rw [no t hn] at h; simp [known] at h
    · obtain ⟨i, z, h1, h2, h3, h4, h5, -⟩ := (all t hn).2.1
      exact ⟨i, z, h1, h4, fun w St ι => zeroB_ok (h5 h)⟩
  · obtain ⟨i, z, h1, h2, h3, h4, h5, h6, h7⟩ := (all c h).2.1
    exact ⟨i, z, h1, h4, h7, fun w St ι => (zeroB_ok h6).1⟩
end Go.V
