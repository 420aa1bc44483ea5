/- V: functions, and tables of functions. -/
import Derived.Test.YtilnpbcodachoaaVCtl
set_option linter.unusedVariables false
set_option linter.unusedSimpArgs false
namespace Go.V
variable {U : Nat → Type}

theorem ctxs_in : ∀ (c : Code) (k : List Item), ∀ y ∈ ctxs c k, ∀ x ∈ ctxsT y.2, x ∈ ctxs c k ∨ x ∈ ctxsT k
  | .region id ops d, k, y, hy, x, hx => by
    simp only [ctxs, List.mem_cons, List.not_mem_nil, or_false] at hy
    subst hy
    simpa [ctxsT, ctxs] using hx
  | .seq a b, k, y, hy, x, hx => by
    simp only [ctxs, List.mem_append] at hy ⊢
    rcases hy with hy | hy
    · rcases ctxs_in a _ y hy x hx with h | h
      · exact .inl (.inl h)
      · simp only [ctxsT, List.mem_append] at h
        rcases h with h | h
        · exact .inl (.inr h)
        · exact .inr h
    · rcases ctxs_in b _ y hy x hx with h | h
      · exact .inl (.inr h)
      · exact .inr h
  | .cond c a b, k, y, hy, x, hx => by
    simp only [ctxs, List.mem_append] at hy ⊢
    rcases hy with hy | hy
    · rcases ctxs_in a _ y hy x hx with h | h
      · exact .inl (.inl h)
      · exact .inr h
    · rcases ctxs_in b _ y hy x hx with h | h
      · exact .inl (.inr h)
      · exact .inr h
  | .block i c, k, y, hy, x, hx => by
    simp only [ctxs] at hy ⊢
    rcases ctxs_in c _ y hy x hx with h | h
    · exact .inl h
    · exact .inr h
  | .loop c, k, y, hy, x, hx => by
    simp only [ctxs] at hy ⊢
    rcases ctxs_in c _ y hy x hx with h | h
    · exact .inl h
    · simp only [ctxsT, List.mem_append] at h
      exact h
  | .skip, k, y, hy, x, hx => by simp [ctxs] at hy
  | .exit _, k, y, hy, x, hx => by simp [ctxs] at hy
  | .ret, k, y, hy, x, hx => by simp [ctxs] at hy
  | .label _, k, y, hy, x, hx => by simp [ctxs] at hy
  | .goto _, k, y, hy, x, hx => by simp [ctxs] at hy
  | .rangeFunc _ _ _ _, k, y, hy, x, hx => by simp [ctxs] at hy
  | .scope _, k, y, hy, x, hx => by simp [ctxs] at hy
  | .refuse _, k, y, hy, x, hx => by simp [ctxs] at hy

def fnOk (P : Program) (f : FuncId) : Bool := match P.funcs[f]? with
  | some fn => (match fn.body with | some c => okBody fn.ntmps c | .none => false) && !(fn.name == "runtime.NumGoroutine")
  | .none => false

section
variable {E : Env U} {K : A U → List (A U) → Prop} {T : Tab U} {C : Cut U} {f : FuncId}

theorem fnOk_spec (h : fnOk E.P f = true) : ∃ fn c, E.P.funcs[f]? = some fn ∧ fn.body = some c ∧ okBody fn.ntmps c = true ∧ (fn.name == "runtime.NumGoroutine") = false := by
  unfold fnOk at h
  cases hf : E.P.funcs[f]? with
  | none => rw [hf] at h; simp at h
  | some fn =>
    rw [hf] at h
    simp only [Bool.and_eq_true, Bool.not_eq_true'] at h
    cases hb : fn.body with
    | none => rw [hb] at h; simp at h
    | some c => rw [hb] at h; exact ⟨fn, c, rfl, hb, h.1, h.2⟩

theorem rvs_nth {w : World} {St : Bool → Nat → Prop} {ι : Nat → Option Value} : ∀ {args : List (A U)} {vs : List Value} (d : Nat), RVs E w St ι args vs → nth args d = .none ∨ ∃ v, vs[d]? = some v ∧ RV E w St ι (nth args d) v
  | [], vs, d, h => .inl (by simp [nth])
  | a :: l, [], d, h => h.elim
  | a :: l, v :: vs, 0, h => by
    rcases h.1 with h | h
    · exact .inl h
    · exact .inr ⟨v, rfl, h⟩
  | a :: l, v :: vs, d + 1, h => by
    rcases rvs_nth d h.2 with h | ⟨u, h1, h2⟩
    · exact .inl h
    · exact .inr ⟨u, by simpa using h1, h2⟩

theorem vfunc_sound (ok : EnvOk2 E) (TS : TSound E T) (CS : CSound E C) (hm : E.P.follows .mixedOrders = true) (hf : fnOk E.P f = true) {args : List (A U)} (hv : vfunc E T C f args [] K) : FnSound E f args K := by
  obtain ⟨fn, c, h1, h2, h3, h4⟩ := fnOk_spec hf
  refine ⟨⟨fn, h1, by rw [h2]; rfl, h4⟩, fun w St vs hvs hlt hsup => ?_⟩
  unfold vfunc at hv
  have e1 : resOf E.P f = fn.results := by unfold resOf; rw [h1]
  have e2 : bodyOf E.P f = c := by unfold bodyOf; rw [h1]; simp only [h2]
  rw [e1, e2] at hv
  let a : Act := { tmps := vs ++ Array.replicate (fn.ntmps - vs.size) undef, defers := [] }
  let b : Frame := { (default : Frame) with fn := f, kind := .normal }
  have henter : Frame.enter E.P f vs .normal = b.at a [.code c] := by
    simp [Frame.enter, Frame.at, h1, h2, a, b]
  have hN : fn.ntmps ≤ a.tmps.size := by simp only [a, Array.size_append, Array.size_replicate]; omega
  have I : Inv E a.tmps.size w St (S.enter args []) a.tmps w noNm St := by
    refine ⟨⟨rfl, fun d => ?_, fun n => ?_, fun n m B hn => ?_, hlt, fun n B hn => ?_, hsup⟩, Fr.refl _ _, fun B ⟨n, hn, h⟩ => by simp [blkO, noNm] at h, fun g B h => .inl h⟩
    · show RT E w St noNm (nth args d) _
      rcases rvs_nth d hvs with h | ⟨v, e, h⟩
      · rw [h]; exact trivial
      · have : a.tmps.getD d undef = v := by
          simp only [a]
          rw [Array.getD_eq_getD_getElem?, Array.getElem?_append_left]
          · rw [← Array.getElem?_toList, e]; rfl
          · have := (List.getElem?_eq_some_iff.1 e).1; simpa using this
        rw [this]
        exact RT.of_rv h
    · show RO E w St noNm (nthO [] n) _
      exact trivial
    · simp [blkO, noNm]
    · simp [blkO, noNm]
  have := vgo_sound ok TS CS hm h1 h2 h3 hN fuel false [.code c] (S.enter args []) b a w noNm St hv (fun x hx => by simpa [ctxsT] using hx) rfl rfl rfl I (fun m _ => rfl)
  intro cs
  obtain ⟨e, w', fr, q1, q2, q3, q4⟩ := this cs
  rw [← henter] at q2
  exact ⟨e, w', fr, q1, q2, q3, q4⟩

theorem vcut_sound (ok : EnvOk2 E) (TS : TSound E T) (CS : CSound E C) (hm : E.P.follows .mixedOrders = true) (hf : fnOk E.P f = true) {id : Nat} {live : List Nat} {nb : Nat} {vals : List (A U)} {objs : List (AObj U)} (hv : vcut E T C f id live nb vals objs K) : CutOk E f id live nb vals objs K := by
  obtain ⟨fn, c, h1, h2, h3, h4⟩ := fnOk_spec hf
  intro fn' N w0 St0 b a w ι St g1 g2 g3 g4 g5 g6 g7
  rw [h1] at g1
  obtain rfl := Option.some.inj g1
  unfold vcut at hv
  have e1 : resOf E.P f = fn.results := by unfold resOf; rw [h1]
  have e2 : bodyOf E.P f = c := by unfold bodyOf; rw [h1]; simp only [h2]
  rw [e1, e2] at hv
  rw [e2]
  refine vgo_sound ok TS CS hm h1 h2 h3 g2 fuel true _ _ b a w ι St hv (fun x hx => ?_) g3 g4 g5 g6 g7
  have key : ∀ l : List (Nat × List Item), ctxOf id l = [] ∨ (id, ctxOf id l) ∈ l := by
    intro l
    induction l with
    | nil => exact .inl rfl
    | cons y l ih =>
      obtain ⟨i, k⟩ := y
      simp only [ctxOf]
      cases hb : Nat.beq i id with
      | true => rw [Nat.eq_of_beq_eq_true hb]; exact .inr (by simp)
      | false =>
        rcases ih with h | h
        · exact .inl (by simpa using h)
        · exact .inr (List.mem_cons_of_mem _ (by simpa using h))
  rcases key (ctxs c []) with h | h
  · rw [h] at hx; simp [ctxsT] at hx
  · rcases ctxs_in c [] _ h x hx with h | h
    · exact h
    · simp [ctxsT] at h

/-- tables, by how deep they may call -/
theorem tables (ok : EnvOk2 E) (hm : E.P.follows .mixedOrders = true) {T : Nat → Tab U} {C : Nat → Cut U} (hT0 : ∀ f args K, ¬ T 0 f args [] K) (hC0 : ∀ f id nb vals objs K, ¬ C 0 f id nb vals objs K)
    (hT : ∀ k f args K, T (k + 1) f args [] K → (fnOk E.P f = true ∧ vfunc E (T k) (C k) f args [] K) ∨ FnSound E f args K)
    (hC : ∀ k f id live nb vals objs K, cutOf f id E.cuts = some live → C (k + 1) f id nb vals objs K → fnOk E.P f = true ∧ vcut E (T k) (C k) f id live nb vals objs K) :
    ∀ k, TSound E (T k) ∧ CSound E (C k)
  | 0 => ⟨fun f args K h => absurd h (hT0 f args K), fun f id live nb vals objs K _ h => absurd h (hC0 f id nb vals objs K)⟩
  | k + 1 => by
    obtain ⟨h1, h2⟩ := tables ok hm hT0 hC0 hT hC k
    refine ⟨fun f args K h => ?_, fun f id live nb vals objs K hc h => ?_⟩
    · rcases hT k f args K h with ⟨g1, g2⟩ | h
      · exact vfunc_sound ok h1 h2 hm g1 g2
      · exact h
    · obtain ⟨g1, g2⟩ := hC k f id live nb vals objs K hc h
      exact vcut_sound ok h1 h2 hm g1 g2
end
end Go.V
#print axioms Go.V.tables
