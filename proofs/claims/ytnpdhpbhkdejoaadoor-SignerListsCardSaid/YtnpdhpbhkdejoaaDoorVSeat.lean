/- V: what a seat's tables are made of. -/
import Derived.Test.YtnpdhpbhkdejoaaDoorVEnvOk
set_option linter.unusedVariables false
namespace Go.V
variable {U : Nat → Type}

def dInt (k : IntKind) : A U → Option Int
  | .int k' n => if k' = k then some n else .none
  | _ => .none
def dBool : A U → Option Bool
  | .bool b => some b
  | _ => .none
def dStr : A U → Option ByteArray
  | .str b => some b
  | _ => .none
def dNilp : A U → Option Unit
  | .nilp => some ()
  | _ => .none
def dNilf : A U → Option Unit
  | .nilf => some ()
  | _ => .none
def dRo (c : Nat) : A U → Option (List (U c))
  | .ro false c' l => if h : c' = c then some (h ▸ l) else .none
  | _ => .none
def dArr (c n : Nat) : A U → Option (List (U c))
  | .arr c' n' l => if h : c' = c then (if n' = n then some (h ▸ l) else .none) else .none
  | _ => .none
def dAgg : A U → Option (List (A U))
  | .agg l => some l
  | _ => .none
def dCons : List (A U) → Option (A U × List (A U))
  | a :: l => some (a, l)
  | _ => .none
def dEnd : List (A U) → Option Unit
  | [] => some ()
  | _ => .none

theorem dInt_ok {k : IntKind} {a : A U} {x : Int} (h : dInt k a = some x) : a = .int k x := by
  cases a <;> simp [dInt] at h
  obtain ⟨rfl, rfl⟩ := h; rfl
theorem dBool_ok {a : A U} {x : Bool} (h : dBool a = some x) : a = .bool x := by cases a <;> simp [dBool] at h; subst h; rfl
theorem dStr_ok {a : A U} {x : ByteArray} (h : dStr a = some x) : a = .str x := by cases a <;> simp [dStr] at h; subst h; rfl
theorem dNilp_ok {a : A U} {x : Unit} (h : dNilp a = some x) : a = .nilp := by cases a <;> simp [dNilp] at h; rfl
theorem dNilf_ok {a : A U} {x : Unit} (h : dNilf a = some x) : a = .nilf := by cases a <;> simp [dNilf] at h; rfl
theorem dRo_ok {c : Nat} {a : A U} {x : List (U c)} (h : dRo c a = some x) : a = .ro false c x := by
  cases a <;> try (simp [dRo] at h; done)
  rename_i b c' l
  cases b
  · simp only [dRo] at h
    split at h
    · rename_i e; subst e; simp at h; subst h; rfl
    · cases h
  · simp [dRo] at h
theorem dArr_ok {c n : Nat} {a : A U} {x : List (U c)} (h : dArr c n a = some x) : a = .arr c n x := by
  cases a <;> try (simp [dArr] at h; done)
  rename_i c' n' l
  simp only [dArr] at h
  split at h
  · rename_i e; subst e
    split at h
    · rename_i e; subst e; simp at h; subst h; rfl
    · cases h
  · cases h
theorem dAgg_ok {a : A U} {x : List (A U)} (h : dAgg a = some x) : a = .agg x := by cases a <;> simp [dAgg] at h; subst h; rfl
theorem dCons_ok {a : List (A U)} {x : A U × List (A U)} (h : dCons a = some x) : a = x.1 :: x.2 := by cases a <;> simp [dCons] at h; subst h; rfl
theorem dEnd_ok {a : List (A U)} {x : Unit} (h : dEnd a = some x) : a = [] := by cases a <;> simp [dEnd] at h; rfl

theorem rowOf_none {c : Nat} : ∀ {l : List Row}, (∀ r ∈ l, r.t ≠ c) → rowOf c l = .none
  | [], _ => rfl
  | r :: l, h => by
    have h1 : Nat.beq r.t c = false := by
      cases hb : Nat.beq r.t c with
      | false => rfl
      | true => exact absurd (Nat.eq_of_beq_eq_true hb) (h r (by simp))
    simp only [rowOf, h1, cond_false]
    exact rowOf_none fun x hx => h x (by simp [hx])

def lookT (f : Nat) : List (Nat × Fn U) → Fn U
  | [] => fun _ _ _ => False
  | (g, F) :: l => cond (Nat.beq f g) F (lookT f l)
def lookC (f id : Nat) : List (Nat × Nat × (Nat → List (A U) → List (AObj U) → (A U → List (AObj U) → Prop) → Prop)) → Nat → List (A U) → List (AObj U) → (A U → List (AObj U) → Prop) → Prop
  | [] => fun _ _ _ _ => False
  | (g, i, F) :: l => cond (Nat.beq f g && Nat.beq id i) F (lookC f id l)
theorem lookT_in {f : Nat} {args : List (A U)} {bs : List (AObj U)} {K} : ∀ {l : List (Nat × Fn U)}, lookT f l args bs K → ∃ F, (f, F) ∈ l ∧ F args bs K
  | [], h => h.elim
  | (g, F) :: l, h => by
    simp only [lookT] at h
    cases hb : Nat.beq f g with
    | true => rw [hb] at h; rw [Nat.eq_of_beq_eq_true hb]; exact ⟨F, by simp, h⟩
    | false => rw [hb] at h; obtain ⟨F', h1, h2⟩ := lookT_in (l := l) h; exact ⟨F', by simp [h1], h2⟩
theorem lookC_in {f id nb : Nat} {vals objs K} : ∀ {l : List (Nat × Nat × (Nat → List (A U) → List (AObj U) → (A U → List (AObj U) → Prop) → Prop))}, lookC f id l nb vals objs K → ∃ F, (f, id, F) ∈ l ∧ F nb vals objs K
  | [], h => h.elim
  | (g, i, F) :: l, h => by
    simp only [lookC] at h
    cases hb : (Nat.beq f g && Nat.beq id i) with
    | true =>
      rw [hb] at h
      simp only [Bool.and_eq_true] at hb
      rw [Nat.eq_of_beq_eq_true hb.1, Nat.eq_of_beq_eq_true hb.2]; exact ⟨F, by simp, h⟩
    | false => rw [hb] at h; obtain ⟨F', h1, h2⟩ := lookC_in (l := l) h; exact ⟨F', by simp [h1], h2⟩

/-- numbers, rising -/
def sortI (l : List Int) : List Int := l.mergeSort fun x y => decide (x ≤ y)

structure Hold (p : Prop) : Prop where
  out : p
theorem Hold.mp {p q : Prop} (e : p = q) (h : p) : Hold q := ⟨e ▸ h⟩

/-- what is shown of a row: it is V's reading of a function, or of a round; or it is shown by hand -/
inductive RowOk (E : Env U) (T : Tab U) (C : Cut U) (f : Nat) (args : List (A U)) (objs : List (AObj U)) (K : A U → List (AObj U) → Prop) : Prop where
  | fn : fnOk E.P f = true → Nat.blt f 1000000 = true → Hold (vfunc E T C f args objs K) → RowOk E T C f args objs K
  | round (g id : Nat) : f = ykey g id → fnOk E.P g = true → Nat.blt id 1000000 = true → Hold (vround E T C g id args objs K) → RowOk E T C f args objs K
  | row : RowSound E f args objs K → RowOk E T C f args objs K

/-- tables that are given by their rows -/
theorem tablesL {E : Env U} (ok : EnvOk2 E) (hm : E.P.follows .mixedOrders = true) (R : Nat → List (Nat × Fn U)) (Q : Nat → List (Nat × Nat × (Nat → List (A U) → List (AObj U) → (A U → List (AObj U) → Prop) → Prop)))
    (hR0 : ∀ r ∈ R 0, ∀ args objs K, ¬ r.2 args objs K) (hQ0 : ∀ r ∈ Q 0, ∀ nb vals objs K, ¬ r.2.2 nb vals objs K)
    (hR : ∀ k, ∀ r ∈ R (k + 1), ∀ args objs K, r.2 args objs K → RowOk E (fun f => lookT f (R k)) (fun f id => lookC f id (Q k)) r.1 args objs K)
    (hQ : ∀ k, ∀ r ∈ Q (k + 1), ∀ live, cutOf r.1 r.2.1 E.cuts = some live → ∀ nb vals objs K, r.2.2 nb vals objs K → fnOk E.P r.1 = true ∧ Hold (vcut E (fun f => lookT f (R k)) (fun f id => lookC f id (Q k)) r.1 r.2.1 live nb vals objs K)) (k : Nat) :
    TSound E (fun f => lookT f (R k)) ∧ CSound E (fun f id => lookC f id (Q k)) := by
  refine tables (T := fun k f => lookT f (R k)) (C := fun k f id => lookC f id (Q k)) ok hm ?_ ?_ ?_ ?_ k
  · intro f args objs K h
    obtain ⟨F, h1, h2⟩ := lookT_in h
    exact hR0 _ h1 args objs K h2
  · intro f id nb vals objs K h
    obtain ⟨F, h1, h2⟩ := lookC_in h
    exact hQ0 _ h1 nb vals objs K h2
  · intro k f args objs K h
    obtain ⟨F, h1, h2⟩ := lookT_in h
    cases hR k _ h1 args objs K h2 with
    | fn q1 q2 q3 => exact .inl ⟨q1, q2, q3.out⟩
    | round g id q0 q1 q2 q3 => exact .inr (.inl ⟨g, id, q0, q1, q2, q3.out⟩)
    | row q => exact .inr (.inr q)
  · intro k f id live nb vals objs K hl h
    obtain ⟨F, h1, h2⟩ := lookC_in h
    obtain ⟨q1, q2⟩ := hQ k _ h1 live hl nb vals objs K h2
    exact ⟨q1, q2.out⟩
end Go.V
