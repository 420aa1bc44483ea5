/- V: the way through a body. -/
import Derived.Test.YtnpdhpbhkdejoaaDoorVHid
import Derived.RangeFuncIn
set_option linter.unusedVariables false
set_option linter.unusedSimpArgs false
namespace Go.V
variable {U : Nat → Type}
section
variable {E : Env U} {w : World} {St : Bool → Nat → Prop} {ι : Nat → Option Value} {s : S U} {N : Nat} {tm : Array Value} {w0 : World} {St0 : Bool → Nat → Prop} {O0 : Nat → Prop} {ι0 : Ini} {K : A U → List (AObj U) → Prop}

theorem outAs_rvb (ok : EnvOk2 E) (R : Rel E s N tm w ι St) {St' : Bool → Nat → Prop} (hS : ∀ g B, St g B → St' g B) (cnt : List Nat) (hz : ∀ m c l, s.h m = .lst c l → m ∈ cnt → countN m cnt ≠ 1 → ∀ B, blkO (ι m) = some B → St' false B) :
    ∀ (q : List (A U)) {vs : List Value}, Holds E w St ι q vs → anyTup q = false → holes (outAs s.h [] cnt q) = false → ptrss q = [] → (∀ m ∈ ownss q, m ∈ cnt) → (∀ m, countN m (ownss q) ≤ countN m cnt) →
    ∃ bs, RVb E w St' (outAs s.h [] cnt q) vs bs ∧ Out E s ι w St' cnt (ownss q) bs
  | [], vs, h, ht, hh, hp, hm, hn => by cases vs with | nil => exact ⟨[], rfl, .nil⟩ | cons _ _ => exact h.elim
  | q :: l, vs, h, ht, hh, hp, hm, hn => by
    cases vs with
    | nil => exact h.elim
    | cons v vs =>
      simp only [outAs, holes, Bool.or_eq_false_iff] at hh
      simp only [ownss] at hm hn ⊢
      obtain ⟨p1, p2⟩ := app_nil (by simpa [ptrss] using hp : ptrs q ++ ptrss l = [])
      have ht' : noTup q = true ∧ anyTup l = false := by
        cases q <;> first | exact ⟨rfl, ht⟩ | (simp [anyTup] at ht; done)
      have hq : q ≠ .none := fun e => by subst e; simp [outA, hole] at hh
      obtain ⟨h1, h2⟩ := RT.rc h.1 hq ht'.1
      obtain ⟨B1, i1, i2, i3, i4⟩ := outA_ok ok R hS cnt hz q h1 hh.1 p1 (fun m h => hm m (List.mem_append_left _ h)) (fun m => by have := hn m; rw [countN_append] at this; omega)
      obtain ⟨B2, j1, j2⟩ := outAs_rvb ok R hS cnt hz l h.2 ht'.2 hh.2 p2 (fun m h => hm m (List.mem_append_right _ h)) (fun m => by have := hn m; rw [countN_append] at this; omega)
      exact ⟨B1 ++ B2, ⟨B1, B2, rfl, i1, h2.trans i2.symm, j1⟩, Out.append R i4 j2 hn⟩

theorem fz_all (ok : EnvOk2 E) (R : Rel E s N tm w ι St) (cnt : List Nat) : ∃ St', (∀ g B, St g B → St' g B) ∧ (∀ g B, St' g B → St g B ∨ Own s ι B) ∧ (∀ B, An St' B → B < w.heap.size) ∧
    (∀ m c l, s.h m = .lst c l → m ∈ cnt → countN m cnt ≠ 1 → ∀ B, blkO (ι m) = some B → St' false B) ∧ (∀ m B, isLst (s.h m) = true → countN m cnt = 1 → blkO (ι m) = some B → ¬ An St' B) := by
  obtain ⟨St', x, g, R', f, p⟩ := fzOf_ok ok (cnt.filter fun m => countN m cnt != 1) (s := s) (Frz.refl _) R (fun n c x h1 h2 => by rw [h1] at h2; cases h2)
  refine ⟨St', x.st, g, R'.stb, fun m c l hm hc hn B hB => p m (by simp [hc, hn]) (by rw [hm]; rfl) B hB false, fun m B hl hc hB => R'.apt m B ?_ hB⟩
  show isLive (upds s.h _ m) = true
  rw [upds_notin]
  · exact lst_live hl
  · intro hmem
    obtain ⟨y, hy, e⟩ := List.mem_map.1 hmem
    have := fzOf_names _ y hy
    rw [e, List.mem_filter] at this
    simp [hc] at this

theorem resV_length (res : List ResultVar) : (resV E s res).length = res.length := by
  induction res with
  | nil => rfl
  | cons r l ih => cases r <;> simp [resV, ih]

theorem Holds.length {l : List (A U)} {vs : List Value} (h : Holds E w St ι l vs) : l.length = vs.length := by
  induction l generalizing vs with
  | nil => cases vs with | nil => rfl | cons _ _ => exact h.elim
  | cons a l ih => cases vs with | nil => exact h.elim | cons v vs => simp [ih h.2]

theorem not_none_of (h : Nat → AObj U) (cnt : List Nat) : ∀ (l : List (A U)), holes (outAs h [] cnt l) = false → ∀ a ∈ l, a ≠ .none
  | [], hh, a, ha => by cases ha
  | q :: l, hh, a, ha => by
    simp only [outAs, holes, Bool.or_eq_false_iff] at hh
    rcases List.mem_cons.1 ha with rfl | ha
    · intro e; subst e; simp [outA, hole] at hh
    · exact not_none_of h cnt l hh.2 a ha

theorem outA_noTup (h : Nat → AObj U) (cnt : List Nat) (a : A U) (ht : noTup a = true) : noTup (outA h [] cnt a) = true := by
  cases a with
  | own m =>
    simp only [outA]
    cases h m with
    | lst c l => simp only []; cases Nat.beq (countN m cnt) 1 <;> rfl
    | _ => rfl
  | clo f l => simp only [outA]; cases (ownss l).isEmpty <;> rfl
  | tup l => simp [noTup] at ht
  | _ => rfl
theorem holeT_eq (x : A U) (h : noTup x = true) : holeT x = hole x := by
  cases x <;> first | rfl | (simp [noTup] at h; done)

theorem vret_sound (ok : EnvOk2 E) (I : Inv E N w0 St0 O0 ι0 s tm w ι St) {f : FuncId} {fn : Func} (hp : memN f E.procs = false) (hO : ∀ B, ¬ O0 B) (hv : vret E f fn.results s K) :
    ∃ r v bs St', (results fn tm).run E.P w = .ok v w ∧ Result' E w0 St0 K v w r bs St' := by
  unfold vret at hv
  rw [hp] at hv
  simp only [cond_false] at hv
  generalize hl : resV E s fn.results.toList = l at hv
  have R := I.rel
  cases hb : (!holeT (outA s.h [] (owns (one l)) (one l)) && ((ptrs (one l)).isEmpty && !anyTup l)) with
  | false => rw [hb] at hv; exact hv.elim
  | true =>
    rw [hb] at hv
    simp only [cond_true] at hv
    simp only [Bool.and_eq_true, Bool.not_eq_true', List.isEmpty_iff] at hb
    obtain ⟨b1, b2, b3⟩ := hb
    obtain ⟨St', f1, f2, f3, f4, f5⟩ := fz_all ok R (owns (one l))
    have fin : ∀ (r : A U) (v : Value) (bs : List Nat), K r [] → RTb E w St' r v bs → Out E s ι w St' (owns (one l)) (owns (one l)) bs → Result' E w0 St0 K v w r bs St' := by
      intro r v bs hk hr ho
      refine ⟨hk, hr, I.fr.mono fun B _ h => hO B h, fun B hB => ?_, ho.nod, fun g B hB => ?_, f3⟩
      · obtain ⟨m, m1, m2, m3, m4⟩ := ho.own B hB
        exact ⟨(I.own B ⟨m, lst_live m2, m4⟩).resolve_left (hO B), R.lt m B (lst_live m2) m4, f5 m B m2 m3 m4⟩
      · rcases f2 g B hB with h | h
        · exact (I.gr g B h).imp id fun h => h.resolve_left (hO B)
        · exact .inr ((I.own B h).resolve_left (hO B))
    by_cases h1 : ∃ a, l = [a]
    · obtain ⟨a, rfl⟩ := h1
      have ht : noTup a = true := by cases a <;> first | rfl | (simp [anyTup] at b3; done)
      simp only [one] at *
      have hh : hole (outA s.h [] (owns a) a) = false := by
        rw [← holeT_eq _ (outA_noTup s.h (owns a) a ht)]; exact b1
      have hne : a ≠ .none := fun e => by subst e; simp [outA, hole] at hh
      obtain ⟨vs, r1, r2⟩ := res_run ok R fn.results.toList (by rw [hl]; simpa using hne)
      rw [hl] at r2
      obtain ⟨v, rfl⟩ : ∃ v, vs = [v] := by
        cases vs with
        | nil => exact r2.elim
        | cons v vs => cases vs with | nil => exact ⟨v, rfl⟩ | cons _ _ => exact r2.2.elim
      obtain ⟨c1, c2⟩ := RT.rc r2.1 hne ht
      obtain ⟨bs, o1, o2, o3, o4⟩ := outA_ok ok R f1 (owns a) f4 a c1 hh b2 (fun _ h => h) (fun _ => Nat.le_refl _)
      refine ⟨_, v, bs, St', results_run r1, fin _ v bs hv ?_ o4⟩
      unfold RTb
      split
      · rename_i heq
        rw [heq] at o1
        cases o1
      · exact ⟨o1, c2.trans o2.symm⟩
    · have hone : one l = .tup l := by
        cases l with
        | nil => rfl
        | cons a l => cases l with | nil => exact absurd ⟨a, rfl⟩ h1 | cons _ _ => rfl
      rw [hone] at b1 b2 f4 f5 hv fin
      simp only [outA, holeT, ptrs, owns] at b1 b2 f4 f5 hv fin
      obtain ⟨vs, r1, r2⟩ := res_run ok R fn.results.toList (by rw [hl]; exact not_none_of _ _ l b1)
      rw [hl] at r2
      obtain ⟨bs, o1, o2⟩ := outAs_rvb ok R f1 (ownss l) f4 l r2 b3 b1 b2 (fun _ h => h) (fun _ => Nat.le_refl _)
      have hvs : oneV vs = .tuple vs.toArray := by
        have := r2.length
        cases vs with
        | nil => rfl
        | cons v vs => cases vs with
          | nil => exact absurd (List.length_eq_one_iff.1 (by simpa using this)) h1
          | cons _ _ => rfl
      refine ⟨_, _, bs, St', results_run r1, fin _ _ bs hv ?_ o2⟩
      rw [hvs]
      exact ⟨vs.toArray, rfl, by simpa using o1⟩

theorem Holds.rt_one {ι : Nat → Option Value} {l : List (A U)} {vs : List Value} (h : Holds E w St ι l vs) (ht : ∀ a ∈ l, noTup a = true) : RT E w St ι (one l) (oneV vs) := by
  cases l with
  | nil => cases vs with | nil => exact ⟨#[], rfl, trivial⟩ | cons _ _ => exact h.elim
  | cons a l =>
    cases vs with
    | nil => exact h.elim
    | cons v vs =>
      cases l with
      | nil => cases vs with | nil => exact h.1 | cons _ _ => exact h.2.elim
      | cons b l =>
        cases vs with
        | nil => exact h.2.elim
        | cons u vs =>
          show RT E w St ι (.tup (a :: b :: l)) _
          exact ⟨(v :: u :: vs).toArray, rfl, by simpa using h.rvs ht⟩

theorem vretP_sound (ok : EnvOk2 E) (I : Inv E N w0 St0 O0 ι0 s tm w ι St) (hf : ∀ m, s.nx ≤ m → ι m = none) {f : FuncId} {fn : Func} (hp : memN f E.procs = true) (hv : vret E f fn.results s K) :
    ∃ r v objs ι' St', (results fn tm).run E.P w = .ok v w ∧ ResP E w0 St0 O0 ι0.2.1 ι0.1 K v w r objs ι' St' := by
  unfold vret at hv
  rw [hp] at hv
  simp only [cond_true] at hv
  cases hk : (resV E s fn.results.toList).all known with
  | false => rw [hk] at hv; exact hv.elim
  | true =>
    rw [hk] at hv
    simp only [cond_true] at hv
    cases hx : layG s.h s.nx (upto s.nb) (resV E s fn.results.toList) with
    | none => rw [hx] at hv; exact hv.elim
    | some x =>
      rw [hx] at hv
      have hk' : ∀ a ∈ resV E s fn.results.toList, known a = true := by simpa using hk
      obtain ⟨vs, r1, r2⟩ := res_run ok I.rel fn.results.toList fun a ha e => by have := hk' a ha; rw [e] at this; simp [known] at this
      have ht : ∀ a ∈ resV E s fn.results.toList, noTup a = true := fun a ha => noTup_known (hk' a ha)
      obtain ⟨ι2, L⟩ := layG_ok ok I.rel hx r2 ht (fun m h _ => hf m h)
      exact ⟨_, _, x.objs, reι x.L ι2, St, results_run r1, hv, L.vals.rt_one (layG_noTup hx ht), L.heap, fun n hn => L.out n (by rw [← L.len]; exact hn), fun n hn => L.old I hx n (by rw [I.nbe]; exact hn), I.fr, fun B hB => I.own B (L.own B (L.sub B hB)), I.gr⟩

theorem vend_sound (ok : EnvOk2 E) (I : Inv E N w0 St0 O0 ι0 s tm w ι St) (hf : ∀ m, s.nx ≤ m → ι m = none) {j : Nat} (hv : vend j s K) :
    ∃ objs ι' St', ResP E w0 St0 O0 ι0.2.1 ι0.1 K (.func (.func j) #[] #[]) w (.clo j []) objs ι' St' ∧ (∀ B, OwnH (nthO objs) ι' B → Own s ι B) ∧ ∀ B, An St' B → An St B := by
  unfold vend at hv
  cases hx : layG s.h s.nx (upto s.nb) [] with
  | none => rw [hx] at hv; exact hv.elim
  | some x =>
    rw [hx] at hv
    obtain ⟨ι2, L⟩ := layG_ok ok I.rel hx (us := []) trivial (fun a ha => by cases ha) (fun m h _ => hf m h)
    exact ⟨x.objs, reι x.L ι2, St, ⟨hv, .mk1 (.clo (vs := #[]) .nil rfl .nil) rfl rfl, L.heap, fun n hn => L.out n (by rw [← L.len]; exact hn), fun n hn => L.old I hx n (by rw [I.nbe]; exact hn), I.fr, fun B hB => I.own B (L.own B (L.sub B hB)), I.gr⟩,
      fun B h => L.own B (L.sub B h), fun _ h => h⟩

-- steps
def Ends (P : Program) (b : Frame) (todo : List Item) (a : Act) (w : World) (R : Ending → World → Prop) : Prop :=
  (b.roundOf = none → ∀ cs, ∃ e w' fr, R e w' ∧ Comes P (lone (b.atR a todo) cs w) (lone fr cs w') e ∧ fr.fn = b.fn ∧ fr.leaving P w' e) ∧
  (b.roundOf ≠ none → ∀ c cs, ∃ v w', R (.returned v) w' ∧ Steps P (lone (b.atR a todo) (c :: cs) w) (lone (c.finish v) cs w'))

theorem Ends.of {P : Program} {b : Frame} {todo : List Item} {a : Act} {w : World} {R : Ending → World → Prop} (h : ∀ cs, ∃ todo' a' w', Steps P (lone (b.atR a todo) cs w) (lone (b.atR a' todo') cs w') ∧ Ends P b todo' a' w' R) : Ends P b todo a w R := by
  refine ⟨fun hr cs => ?_, fun hr c cs => ?_⟩
  · obtain ⟨todo', a', w', h1, h2⟩ := h cs
    obtain ⟨x, w2, fr, g1, g2, g3⟩ := h2.1 hr cs
    exact ⟨x, w2, fr, g1, Comes.of_steps h1 g2, g3⟩
  · obtain ⟨todo', a', w', h1, h2⟩ := h (c :: cs)
    obtain ⟨v, w2, g1, g2⟩ := h2.2 hr c cs
    exact ⟨v, w2, g1, Steps.trans h1 g2⟩
theorem Ends.step {P : Program} {b : Frame} {todo todo' : List Item} {a a' : Act} {w w' : World} {R : Ending → World → Prop} (h : ∀ cs, step P (lone (b.atR a todo) cs w) = .next (lone (b.atR a' todo') cs w')) (e : Ends P b todo' a' w' R) : Ends P b todo a w R :=
  .of fun cs => ⟨todo', a', w', .one (h cs), e⟩

def RetPost (E : Env U) (f : FuncId) (w0 : World) (St0 : Bool → Nat → Prop) (O0 : Nat → Prop) (nb : Nat) (ιi : Nat → Option Value) (K : A U → List (AObj U) → Prop) (e : Ending) (w' : World) : Prop :=
  (memN f E.procs = false ∧ ∃ r v bs St', e = .returned v ∧ Result' E w0 St0 K v w' r bs St') ∨
  (memN f E.procs = true ∧ ∃ r v objs ι' St', e = .returned v ∧ ResP E w0 St0 O0 ιi nb K v w' r objs ι' St')
/-- what is asked of a frame's end -/
def FPost (E : Env U) (rnd : Rnd) (f : FuncId) (w0 : World) (St0 : Bool → Nat → Prop) (O0 : Nat → Prop) (nb : Nat) (ιi : Nat → Option Value) (K : A U → List (AObj U) → Prop) : Ending → World → Prop := match rnd with
  | none => RetPost E f w0 St0 O0 nb ιi K
  | some (l, L) => RndPost E l L w0 St0 O0 ιi nb K
/-- a function that is called by values has no blocks of its caller's -/
def Plain (E : Env U) (f : FuncId) (O0 : Nat → Prop) : Prop := memN f E.procs = false → ∀ B, ¬ O0 B

variable {nb : Nat} {ιi : Nat → Option Value} {H : List (Nat × Obj)} {rnd : Rnd}

theorem ends_ret {b : Frame} {todo : List Item} {a : Act} {hb : Bool} (ok : EnvOk2 E) (I : Inv E N w0 St0 O0 (nb, ιi, H) s a.tmps w ι St) (hf : ∀ m, s.nx ≤ m → ι m = none) {f : FuncId} (hO : Plain E f O0) {fn : Func} (hfn : E.P.funcs[b.fn]? = some fn) (hk : b.kind = .normal)
    (hF : FrOk none H b a hb) (hv : vret E f fn.results s K)
    (hstep : ∀ cs, Go.step E.P (lone (b.atR a todo) cs w) = .next (lone { b.atR a todo with mode := .returning } cs w)) : Ends E.P b todo a w (RetPost E f w0 St0 O0 nb ιi K) := by
  refine ⟨fun _ cs => ?_, fun h => absurd hF.1 h⟩
  obtain ⟨w', I', hst⟩ := leave_marks (P := E.P) todo H w { b.atR a todo with mode := .returning } I hF.2.2 rfl hF.2.1
  have hgo : Steps E.P (lone (b.atR a todo) cs w) (lone { { b.atR a todo with mode := .returning } with defers := [] } cs w') := Steps.head (hstep cs) (hst cs)
  cases hp : memN f E.procs with
  | false =>
    obtain ⟨r, v, bs, St', h1, h2⟩ := vret_sound ok I' hp (hO hp) hv
    exact ⟨.returned v, w', _, .inl ⟨hp, r, v, bs, St', rfl, h2⟩, hgo, rfl, rfl, rfl, hk, fn, hfn, h1⟩
  | true =>
    obtain ⟨r, v, objs, ι', St', h1, h2⟩ := vretP_sound ok I' hf hp hv
    exact ⟨.returned v, w', _, .inr ⟨hp, r, v, objs, ι', St', rfl, h2⟩, hgo, rfl, rfl, rfl, hk, fn, hfn, h1⟩

/-- a round is left -/
theorem ends_round {b : Frame} {todo : List Item} {a : Act} {hb : Bool} {l : Nat} {L : Loop} (ok : EnvOk2 E) (I : Inv E N w0 St0 O0 (nb, ιi, H) s a.tmps w ι St) (hf : ∀ m, s.nx ≤ m → ι m = none) (hF : FrOk (some (l, L)) H b a hb) {j : Nat} (hv : vend j s K)
    (hstep : ∀ c cs v w', (Instr.endRound l (jumpOf j)).run E.P w = .ok v w' → Go.step E.P (lone (b.atR a todo) (c :: cs) w) = .next (lone (c.finish v) cs w')) : Ends E.P b todo a w (RndPost E l L w0 St0 O0 ιi nb K) := by
  refine ⟨fun h => absurd (hF.1.symm.trans h) (by simp), fun _ c cs => ?_⟩
  obtain ⟨h1, h2, rfl⟩ := hF
  have hh := (I.hid _ (List.mem_singleton.2 rfl)).1
  simp only [] at hh
  have hlt := (Array.getElem?_eq_some_iff.1 hh).1
  have hrun := run_endRound (P := E.P) (jumpOf j) hh
  have hj : (jumpOf j).isNone = Nat.beq j 0 := by
    cases j with
    | zero => rfl
    | succ j => cases j <;> rfl
  have hL : ({ { L with state := if hb then .ready else .busy } with state := if (jumpOf j).isNone then .ready else .done, pending := jumpOf j } : Loop) = endL L j := by
    unfold endL
    cases j with
    | zero => rfl
    | succ j => cases j <;> rfl
  have I' := I.putH (o' := .loop (endL L j))
  obtain ⟨objs, ι', St', g1, g2, g3⟩ := vend_sound ok I' hf hv
  obtain ⟨i1, i2, i3, -⟩ := I'.hid _ (List.mem_singleton.2 rfl)
  refine ⟨.bool (Nat.beq j 0), _, ⟨j, objs, ι', St', rfl, i1, g1, fun h => i2 (g2 _ h), fun h => i3 (g3 _ h)⟩, .one (hstep c cs _ _ ?_)⟩
  rw [hrun, hj, ← hL, hj]

/-- the regions that are still ahead -/
def ctxsT : List Item → List (Nat × List Item)
  | .code c :: k => ctxs c k ++ ctxsT k
  | .inLoop c :: k => ctxs c (.inLoop c :: k) ++ ctxsT k
  | _ :: k => ctxsT k
  | [] => []

theorem ctxsT_exit {id : Nat} : ∀ {k k' : List Item}, exitTo id k = some k' → ∀ x ∈ ctxsT k', x ∈ ctxsT k
  | [], k', h => by simp [exitTo] at h
  | i :: k, k', h => by
    intro x hx
    have rest : exitTo id k = some k' → x ∈ ctxsT (i :: k) := fun h => by
      have := ctxsT_exit h x hx
      cases i <;> simp only [ctxsT, List.mem_append] <;> first | exact .inr this | exact this
    cases i with
    | inBlock j =>
      simp only [exitTo] at h
      split at h
      · obtain rfl := Option.some.inj h; exact hx
      · exact rest h
    | _ => exact rest (by simpa [exitTo] using h)

def dstsIn (N : Nat) : List Oper → Bool
  | [] => true
  | o :: l => (match o.dst with | some d => Nat.blt d N | .none => true) && dstsIn N l
theorem dstsIn_iff {N : Nat} : ∀ {l : List Oper}, dstsIn N l = true → ∀ o ∈ l, ∀ d, o.dst = some d → d < N
  | [], h, o, ho => by cases ho
  | x :: l, h, o, ho => by
    simp only [dstsIn, Bool.and_eq_true] at h
    intro d hd
    rcases List.mem_cons.1 ho with rfl | ho
    · rw [hd] at h; simpa [Nat.blt_eq] using h.1
    · exact dstsIn_iff h.2 o ho d hd
def okRow (N : Nat) : Nat × List Item → Bool
  | (i, .code (.region j ops d) :: _) => Nat.beq i j && (cond d (stat ops.toList) true && dstsIn N ops.toList)
  | (i, .code (.rangeFunc _ ps a b) :: _) => Nat.beq i (lkey a b) && ps.toList.all fun p => Nat.blt p N
  | _ => false
def okRows (N : Nat) : List (Nat × List Item) → Bool
  | [] => true
  | x :: l => okRow N x && okRows N l
theorem okRows_iff {N : Nat} : ∀ {l : List (Nat × List Item)}, okRows N l = true → ∀ x ∈ l, okRow N x = true
  | [], h, x, hx => by cases hx
  | y :: l, h, x, hx => by
    simp only [okRows, Bool.and_eq_true] at h
    rcases List.mem_cons.1 hx with rfl | hx
    · exact h.1
    · exact okRows_iff h.2 x hx
def fstN : List (Nat × List Item) → List Nat
  | [] => []
  | x :: l => x.1 :: fstN l
theorem fstN_eq (l : List (Nat × List Item)) : fstN l = l.map (·.1) := by induction l with | nil => rfl | cons x l ih => simp [fstN, ih]
/-- all places of a body -/
def places (c : Code) : List (Nat × List Item) := ctxs c [] ++ roundC (rnds c)
/-- those of a function's own frame, or those of rounds -/
def placesOf (rd : Bool) (c : Code) : List (Nat × List Item) := cond rd (roundC (rnds c)) (ctxs c [])
theorem placesOf_in {rd : Bool} {c : Code} {x : Nat × List Item} (h : x ∈ placesOf rd c) : x ∈ places c := by
  cases rd with
  | false => exact List.mem_append_left _ h
  | true => exact List.mem_append_right _ h
def okBody (N : Nat) (c : Code) : Bool := distinctN (fstN (places c)) && okRows N (places c)

theorem ctxOf_mem {id : Nat} {k : List Item} : ∀ {l : List (Nat × List Item)}, (l.map (·.1)).Nodup → (id, k) ∈ l → ctxOf id l = k
  | [], hn, h => by cases h
  | (i, k') :: l, hn, h => by
    simp only [List.map_cons, List.nodup_cons] at hn
    simp only [ctxOf]
    rcases List.mem_cons.1 h with h | h
    · cases h; rw [Nat.beq_refl]; rfl
    · have : i ≠ id := fun e => hn.1 (e ▸ List.mem_map_of_mem (f := (·.1)) h)
      have hb : Nat.beq i id = false := by
        cases hb : Nat.beq i id with
        | false => rfl
        | true => exact absurd (Nat.eq_of_beq_eq_true hb) this
      rw [hb]
      exact ctxOf_mem hn.2 h

theorem placesOf_rd {rd : Bool} {c : Code} {id : Nat} {k : List Item} (hn : ((places c).map (·.1)).Nodup) (h : (id, k) ∈ placesOf rd c) : inRd id c = rd := by
  unfold inRd
  unfold places at hn
  rw [List.map_append] at hn
  cases rd with
  | true => rw [memN_iff]; exact List.mem_map_of_mem (f := (·.1)) h
  | false =>
    rw [memN_false]
    intro hm
    exact (List.nodup_append.1 hn).2.2 id (List.mem_map_of_mem (f := (·.1)) h) id hm rfl

theorem rnds_of : ∀ (c : Code) (k : List Item) (x : Nat × List Item), x ∈ ctxs c k → ∀ g ps a b k', x.2 = .code (.rangeFunc g ps a b) :: k' → (a, b) ∈ rnds c
  | .region id ops d, k, x, hx, g, ps, a, b, k', e => by
    simp only [ctxs, List.mem_cons, List.not_mem_nil, or_false] at hx
    subst hx
    simp at e
  | .seq p q, k, x, hx, g, ps, a, b, k', e => by
    simp only [ctxs, List.mem_append] at hx
    simp only [rnds, List.mem_append]
    exact hx.imp (fun h => rnds_of p _ x h g ps a b k' e) (fun h => rnds_of q _ x h g ps a b k' e)
  | .cond _ p q, k, x, hx, g, ps, a, b, k', e => by
    simp only [ctxs, List.mem_append] at hx
    simp only [rnds, List.mem_append]
    exact hx.imp (fun h => rnds_of p _ x h g ps a b k' e) (fun h => rnds_of q _ x h g ps a b k' e)
  | .block i c, k, x, hx, g, ps, a, b, k', e => rnds_of c _ x hx g ps a b k' e
  | .scope c, k, x, hx, g, ps, a, b, k', e => rnds_of c _ x hx g ps a b k' e
  | .loop c, k, x, hx, g, ps, a, b, k', e => rnds_of c _ x hx g ps a b k' e
  | .rangeFunc g' ps' a' b', k, x, hx, g, ps, a, b, k', e => by
    simp only [ctxs, List.mem_cons, List.not_mem_nil, or_false] at hx
    subst hx
    simp only [List.cons.injEq, Item.code.injEq, Code.rangeFunc.injEq] at e
    obtain ⟨⟨-, -, rfl, rfl⟩, -⟩ := e
    simp [rnds]
  | .skip, k, x, hx, g, ps, a, b, k', e => by simp [ctxs] at hx
  | .exit _, k, x, hx, g, ps, a, b, k', e => by simp [ctxs] at hx
  | .ret, k, x, hx, g, ps, a, b, k', e => by simp [ctxs] at hx
  | .label _, k, x, hx, g, ps, a, b, k', e => by simp [ctxs] at hx
  | .goto _, k, x, hx, g, ps, a, b, k', e => by simp [ctxs] at hx
  | .refuse _, k, x, hx, g, ps, a, b, k', e => by simp [ctxs] at hx
theorem rnds_in : ∀ (c : Code) (a b : Code), (a, b) ∈ rnds c → ∀ x, x ∈ rnds a ∨ x ∈ rnds b → x ∈ rnds c
  | .seq p q, a, b, h, x, hx => by
    simp only [rnds, List.mem_append] at h ⊢
    exact h.imp (fun h => rnds_in p a b h x hx) (fun h => rnds_in q a b h x hx)
  | .cond _ p q, a, b, h, x, hx => by
    simp only [rnds, List.mem_append] at h ⊢
    exact h.imp (fun h => rnds_in p a b h x hx) (fun h => rnds_in q a b h x hx)
  | .block i c, a, b, h, x, hx => rnds_in c a b h x hx
  | .scope c, a, b, h, x, hx => rnds_in c a b h x hx
  | .loop c, a, b, h, x, hx => rnds_in c a b h x hx
  | .rangeFunc g ps p q, a, b, h, x, hx => by
    simp only [rnds, List.mem_cons, List.mem_append, Prod.mk.injEq] at h ⊢
    rcases h with ⟨rfl, rfl⟩ | h | h
    · exact .inr hx
    · exact .inr (.inl (rnds_in p a b h x hx))
    · exact .inr (.inr (rnds_in q a b h x hx))
  | .region .., a, b, h, x, hx => by simp [rnds] at h
  | .skip, a, b, h, x, hx => by simp [rnds] at h
  | .exit _, a, b, h, x, hx => by simp [rnds] at h
  | .ret, a, b, h, x, hx => by simp [rnds] at h
  | .label _, a, b, h, x, hx => by simp [rnds] at h
  | .goto _, a, b, h, x, hx => by simp [rnds] at h
  | .refuse _, a, b, h, x, hx => by simp [rnds] at h
theorem roundC_of : ∀ (l : List (Code × Code)) (x : Nat × List Item), x ∈ roundC l → ∃ a b, (a, b) ∈ l ∧ (x ∈ ctxs a [.beginRound, .code b] ∨ x ∈ ctxs b [])
  | [], x, h => by simp [roundC] at h
  | (a, b) :: l, x, h => by
    simp only [roundC, List.mem_append] at h
    rcases h with h | h | h
    · exact ⟨a, b, by simp, .inl h⟩
    · exact ⟨a, b, by simp, .inr h⟩
    · obtain ⟨a', b', h1, h2⟩ := roundC_of l x h
      exact ⟨a', b', List.mem_cons_of_mem _ h1, h2⟩
theorem roundC_in : ∀ (l : List (Code × Code)) (a b : Code) (x : Nat × List Item), (a, b) ∈ l → (x ∈ ctxs a [.beginRound, .code b] ∨ x ∈ ctxs b []) → x ∈ roundC l
  | [], a, b, x, h, _ => by cases h
  | (p, q) :: l, a, b, x, h, hx => by
    simp only [roundC, List.mem_append]
    rcases List.mem_cons.1 h with h | h
    · cases h; exact hx.imp id .inl
    · exact .inr (.inr (roundC_in l a b x h hx))
/-- where a loop stands, its rounds do -/
theorem places_rnds {c : Code} {x : Nat × List Item} (hx : x ∈ places c) {g : Operand} {ps : Array Tmp} {a b : Code} {k' : List Item} (e : x.2 = .code (.rangeFunc g ps a b) :: k') : (a, b) ∈ rnds c := by
  rcases List.mem_append.1 hx with h | h
  · exact rnds_of c [] x h g ps a b k' e
  · obtain ⟨p, q, h1, h2⟩ := roundC_of _ x h
    refine rnds_in c p q h1 _ ?_
    exact h2.imp (fun h => rnds_of p _ x h g ps a b k' e) (fun h => rnds_of q _ x h g ps a b k' e)
theorem roundT_places {c a b : Code} (h : (a, b) ∈ rnds c) : ∀ x ∈ ctxsT (roundT a b), x ∈ placesOf true c := by
  intro x hx
  simp only [roundT, ctxsT, List.mem_append, List.not_mem_nil, or_false] at hx
  exact roundC_in _ a b x h hx

/-- what a cut promises -/
def CutOk (E : Env U) (f : FuncId) (id : Nat) (live : List Nat) (nb : Nat) (vals : List (A U)) (objs : List (AObj U)) (K : A U → List (AObj U) → Prop) : Prop :=
  ∀ (fn : Func) (N : Nat) (w0 : World) (St0 : Bool → Nat → Prop) (O0 : Nat → Prop) (nbi : Nat) (ιi : Nat → Option Value) (H : List (Nat × Obj)) (rnd : Rnd) (b : Frame) (a : Act) (w : World) (ι : Nat → Option Value) (St : Bool → Nat → Prop), E.P.funcs[f]? = some fn → fn.ntmps ≤ N → b.fn = f → b.kind = .normal →
    inRd id (bodyOf E.P f) = rnd.isSome → FrOk rnd H b a (hasBegin (ctxAll id (bodyOf E.P f))) → (rnd = none → Plain E f O0) →
    Inv E N w0 St0 O0 (nbi, ιi, H) (S.ofLay live nb vals objs) a.tmps w ι St → (∀ m, objs.length ≤ m → ι m = none) → Ends E.P b (ctxAll id (bodyOf E.P f)) a w (FPost E rnd f w0 St0 O0 nbi ιi K)
def CSound (E : Env U) (C : Cut U) : Prop := ∀ f id live nb vals objs K, cutOf f id E.cuts = some live → C f id nb vals objs K → CutOk E f id live nb vals objs K
end
end Go.V
