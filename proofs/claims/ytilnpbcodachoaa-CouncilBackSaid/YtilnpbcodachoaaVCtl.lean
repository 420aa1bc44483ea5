/- V: the way through a body. -/
import Derived.Test.YtilnpbcodachoaaVRet
set_option linter.unusedVariables false
set_option linter.unusedSimpArgs false
namespace Go.V
variable {U : Nat → Type}
section
variable {E : Env U} {w : World} {St : Bool → Nat → Prop} {ι : Nat → Option Value} {s : S U} {N : Nat} {tm : Array Value} {w0 : World} {St0 : Bool → Nat → Prop} {K : A U → List (A U) → Prop}

theorem outAs_rvb (ok : EnvOk2 E) (R : Rel E s N tm w ι St) {St' : Bool → Nat → Prop} (hS : ∀ g B, St g B → St' g B) (cnt : List Nat) (hz : ∀ m c l, s.h m = .lst c l → m ∈ cnt → countN m cnt ≠ 1 → ∀ B, blkO (ι m) = some B → St' false B) :
    ∀ (q : List (A U)) {vs : List Value}, Holds E w St ι q vs → anyTup q = false → holes (outAs s.h [] cnt q) = false → ptrss q = [] → (∀ m ∈ ownss q, m ∈ cnt) → (∀ m, countN m (ownss q) ≤ countN m cnt) →
    ∃ bs, RVb E w St' (outAs s.h [] cnt q) vs bs ∧ Out E s ι w St' cnt (ownss q) bs
  | [], vs, h, ht, hh, hp, hm, hn => by cases vs with | nil => exact ⟨[], rfl, .nil⟩ | cons _ _ => exact h.elim
  | q :: l, vs, h, ht, hh, hp, hm, hn => by
    cases vs with
    | nil => exact h.elim
    | cons v vs =>
      simp only [outAs, holes, Bool.or_eq_false_iff] at hh
      simp only [ownss] at hm hn ⊢
      obtain ⟨p1, p2⟩ := app_nil (by simpa [ptrss] using hp : ptrs q ++ ptrss l = [])
      have ht' : noTup q = true ∧ anyTup l = false := by
        cases q <;> first | exact ⟨rfl, ht⟩ | (simp [anyTup] at ht; done)
      have hq : q ≠ .none := fun e => by subst e; simp [outA, hole] at hh
      obtain ⟨h1, h2⟩ := RT.rc h.1 hq ht'.1
      obtain ⟨B1, i1, i2, i3, i4⟩ := outA_ok ok R hS cnt hz q h1 hh.1 p1 (fun m h => hm m (List.mem_append_left _ h)) (fun m => by have := hn m; rw [countN_append] at this; omega)
      obtain ⟨B2, j1, j2⟩ := outAs_rvb ok R hS cnt hz l h.2 ht'.2 hh.2 p2 (fun m h => hm m (List.mem_append_right _ h)) (fun m => by have := hn m; rw [countN_append] at this; omega)
      exact ⟨B1 ++ B2, ⟨B1, B2, rfl, i1, h2.trans i2.symm, j1⟩, Out.append R i4 j2 hn⟩

theorem fz_all (ok : EnvOk2 E) (R : Rel E s N tm w ι St) (cnt : List Nat) : ∃ St', (∀ g B, St g B → St' g B) ∧ (∀ g B, St' g B → St g B ∨ Own s ι B) ∧ (∀ B, An St' B → B < w.heap.size) ∧
    (∀ m c l, s.h m = .lst c l → m ∈ cnt → countN m cnt ≠ 1 → ∀ B, blkO (ι m) = some B → St' false B) ∧ (∀ m B, isLst (s.h m) = true → countN m cnt = 1 → blkO (ι m) = some B → ¬ An St' B) := by
  obtain ⟨St', x, g, R', f, p⟩ := fzOf_ok ok (cnt.filter fun m => countN m cnt != 1) (s := s) (Frz.refl _) R (fun n c x h1 h2 => by rw [h1] at h2; cases h2)
  refine ⟨St', x.st, g, R'.stb, fun m c l hm hc hn B hB => p m (by simp [hc, hn]) (by rw [hm]; rfl) B hB false, fun m B hl hc hB => R'.apt m B ?_ hB⟩
  show isLive (upds s.h _ m) = true
  rw [upds_notin]
  · exact lst_live hl
  · intro hmem
    obtain ⟨y, hy, e⟩ := List.mem_map.1 hmem
    have := fzOf_names _ y hy
    rw [e, List.mem_filter] at this
    simp [hc] at this

theorem resV_length (res : List ResultVar) : (resV E s res).length = res.length := by
  induction res with
  | nil => rfl
  | cons r l ih => cases r <;> simp [resV, ih]

theorem Holds.length {l : List (A U)} {vs : List Value} (h : Holds E w St ι l vs) : l.length = vs.length := by
  induction l generalizing vs with
  | nil => cases vs with | nil => rfl | cons _ _ => exact h.elim
  | cons a l ih => cases vs with | nil => exact h.elim | cons v vs => simp [ih h.2]

theorem not_none_of (h : Nat → AObj U) (cnt : List Nat) : ∀ (l : List (A U)), holes (outAs h [] cnt l) = false → ∀ a ∈ l, a ≠ .none
  | [], hh, a, ha => by cases ha
  | q :: l, hh, a, ha => by
    simp only [outAs, holes, Bool.or_eq_false_iff] at hh
    rcases List.mem_cons.1 ha with rfl | ha
    · intro e; subst e; simp [outA, hole] at hh
    · exact not_none_of h cnt l hh.2 a ha

theorem outA_noTup (h : Nat → AObj U) (cnt : List Nat) (a : A U) (ht : noTup a = true) : noTup (outA h [] cnt a) = true := by
  cases a with
  | own m =>
    simp only [outA]
    cases h m with
    | lst c l => simp only []; cases Nat.beq (countN m cnt) 1 <;> rfl
    | _ => rfl
  | clo f l => simp only [outA]; cases (ownss l).isEmpty <;> rfl
  | tup l => simp [noTup] at ht
  | _ => rfl
theorem holeT_eq (x : A U) (h : noTup x = true) : holeT x = hole x := by
  cases x <;> first | rfl | (simp [noTup] at h; done)

theorem vret_sound (ok : EnvOk2 E) (I : Inv E N w0 St0 s tm w ι St) {fn : Func} (hv : vret E fn.results s K) :
    ∃ r v bs St', (results fn tm).run E.P w = .ok v w ∧ Result' E w0 St0 K v w r bs St' := by
  unfold vret at hv
  simp only [] at hv
  generalize hl : resV E s fn.results.toList = l at hv
  have R := I.rel
  cases hb : (!holeT (outA s.h [] (owns (one l)) (one l)) && ((ptrs (one l)).isEmpty && !anyTup l)) with
  | false => rw [hb] at hv; exact hv.elim
  | true =>
    rw [hb] at hv
    simp only [cond_true] at hv
    simp only [Bool.and_eq_true, Bool.not_eq_true', List.isEmpty_iff] at hb
    obtain ⟨b1, b2, b3⟩ := hb
    obtain ⟨St', f1, f2, f3, f4, f5⟩ := fz_all ok R (owns (one l))
    have fin : ∀ (r : A U) (v : Value) (bs : List Nat), K r [] → RTb E w St' r v bs → Out E s ι w St' (owns (one l)) (owns (one l)) bs → Result' E w0 St0 K v w r bs St' := by
      intro r v bs hk hr ho
      refine ⟨hk, hr, I.fr, fun B hB => ?_, ho.nod, fun g B hB => ?_, f3⟩
      · obtain ⟨m, m1, m2, m3, m4⟩ := ho.own B hB
        exact ⟨I.own B ⟨m, lst_live m2, m4⟩, R.lt m B (lst_live m2) m4, f5 m B m2 m3 m4⟩
      · rcases f2 g B hB with h | h
        · exact I.gr g B h
        · exact .inr (I.own B h)
    by_cases h1 : ∃ a, l = [a]
    · obtain ⟨a, rfl⟩ := h1
      have ht : noTup a = true := by cases a <;> first | rfl | (simp [anyTup] at b3; done)
      simp only [one] at *
      have hh : hole (outA s.h [] (owns a) a) = false := by
        rw [← holeT_eq _ (outA_noTup s.h (owns a) a ht)]; exact b1
      have hne : a ≠ .none := fun e => by subst e; simp [outA, hole] at hh
      obtain ⟨vs, r1, r2⟩ := res_run ok R fn.results.toList (by rw [hl]; simpa using hne)
      rw [hl] at r2
      obtain ⟨v, rfl⟩ : ∃ v, vs = [v] := by
        cases vs with
        | nil => exact r2.elim
        | cons v vs => cases vs with | nil => exact ⟨v, rfl⟩ | cons _ _ => exact r2.2.elim
      obtain ⟨c1, c2⟩ := RT.rc r2.1 hne ht
      obtain ⟨bs, o1, o2, o3, o4⟩ := outA_ok ok R f1 (owns a) f4 a c1 hh b2 (fun _ h => h) (fun _ => Nat.le_refl _)
      refine ⟨_, v, bs, St', results_run r1, fin _ v bs hv ?_ o4⟩
      unfold RTb
      split
      · rename_i heq
        rw [heq] at o1
        cases o1
      · exact ⟨o1, c2.trans o2.symm⟩
    · have hone : one l = .tup l := by
        cases l with
        | nil => rfl
        | cons a l => cases l with | nil => exact absurd ⟨a, rfl⟩ h1 | cons _ _ => rfl
      rw [hone] at b1 b2 f4 f5 hv fin
      simp only [outA, holeT, ptrs, owns] at b1 b2 f4 f5 hv fin
      obtain ⟨vs, r1, r2⟩ := res_run ok R fn.results.toList (by rw [hl]; exact not_none_of _ _ l b1)
      rw [hl] at r2
      obtain ⟨bs, o1, o2⟩ := outAs_rvb ok R f1 (ownss l) f4 l r2 b3 b1 b2 (fun _ h => h) (fun _ => Nat.le_refl _)
      have hvs : oneV vs = .tuple vs.toArray := by
        have := r2.length
        cases vs with
        | nil => rfl
        | cons v vs => cases vs with
          | nil => exact absurd (List.length_eq_one_iff.1 (by simpa using this)) h1
          | cons _ _ => rfl
      refine ⟨_, _, bs, St', results_run r1, fin _ _ bs hv ?_ o2⟩
      rw [hvs]
      exact ⟨vs.toArray, rfl, by simpa using o1⟩

-- steps
def Ends (P : Program) (b : Frame) (todo : List Item) (a : Act) (w : World) (R : Ending → World → Prop) : Prop :=
  ∀ cs, ∃ e w' fr, R e w' ∧ Comes P (lone (b.at a todo) cs w) (lone fr cs w') e ∧ fr.fn = b.fn ∧ fr.leaving P w' e

theorem Ends.step {P : Program} {b : Frame} {todo todo' : List Item} {a a' : Act} {w w' : World} {R : Ending → World → Prop} (h : ∀ cs, step P (lone (b.at a todo) cs w) = .next (lone (b.at a' todo') cs w')) (e : Ends P b todo' a' w' R) : Ends P b todo a w R := by
  intro cs
  obtain ⟨x, w2, fr, h1, h2, h3⟩ := e cs
  exact ⟨x, w2, fr, h1, Comes.of_steps (.one (h cs)) h2, h3⟩

def RetPost (E : Env U) (w0 : World) (St0 : Bool → Nat → Prop) (K : A U → List (A U) → Prop) (e : Ending) (w' : World) : Prop :=
  ∃ r v bs St', e = .returned v ∧ Result' E w0 St0 K v w' r bs St'

theorem ends_ret {b : Frame} {todo : List Item} {a : Act} (ok : EnvOk2 E) (I : Inv E N w0 St0 s a.tmps w ι St) {fn : Func} (hfn : E.P.funcs[b.fn]? = some fn) (hk : b.kind = .normal) (hd : a.defers = []) (hv : vret E fn.results s K)
    (hstep : ∀ cs, Go.step E.P (lone (b.at a todo) cs w) = .next (lone { b.at a todo with mode := .returning } cs w)) : Ends E.P b todo a w (RetPost E w0 St0 K) := by
  intro cs
  obtain ⟨r, v, bs, St', h1, h2⟩ := vret_sound ok I hv
  refine ⟨.returned v, w, { b.at a todo with mode := .returning }, ⟨r, v, bs, St', rfl, h2⟩, .one (hstep cs), rfl, rfl, hd, hk, fn, hfn, h1⟩

/-- the regions that are still ahead -/
def ctxsT : List Item → List (Nat × List Item)
  | .code c :: k => ctxs c k ++ ctxsT k
  | .inLoop c :: k => ctxs c (.inLoop c :: k) ++ ctxsT k
  | _ :: k => ctxsT k
  | [] => []

theorem ctxsT_exit {id : Nat} : ∀ {k k' : List Item}, exitTo id k = some k' → ∀ x ∈ ctxsT k', x ∈ ctxsT k
  | [], k', h => by simp [exitTo] at h
  | i :: k, k', h => by
    intro x hx
    have rest : exitTo id k = some k' → x ∈ ctxsT (i :: k) := fun h => by
      have := ctxsT_exit h x hx
      cases i <;> simp only [ctxsT, List.mem_append] <;> first | exact .inr this | exact this
    cases i with
    | inBlock j =>
      simp only [exitTo] at h
      split at h
      · obtain rfl := Option.some.inj h; exact hx
      · exact rest h
    | _ => exact rest (by simpa [exitTo] using h)

def dstsIn (N : Nat) : List Oper → Bool
  | [] => true
  | o :: l => (match o.dst with | some d => Nat.blt d N | .none => true) && dstsIn N l
theorem dstsIn_iff {N : Nat} : ∀ {l : List Oper}, dstsIn N l = true → ∀ o ∈ l, ∀ d, o.dst = some d → d < N
  | [], h, o, ho => by cases ho
  | x :: l, h, o, ho => by
    simp only [dstsIn, Bool.and_eq_true] at h
    intro d hd
    rcases List.mem_cons.1 ho with rfl | ho
    · rw [hd] at h; simpa [Nat.blt_eq] using h.1
    · exact dstsIn_iff h.2 o ho d hd
def okRow (N : Nat) : Nat × List Item → Bool
  | (i, .code (.region j ops d) :: _) => Nat.beq i j && (cond d (stat ops.toList) true && dstsIn N ops.toList)
  | _ => false
def okRows (N : Nat) : List (Nat × List Item) → Bool
  | [] => true
  | x :: l => okRow N x && okRows N l
theorem okRows_iff {N : Nat} : ∀ {l : List (Nat × List Item)}, okRows N l = true → ∀ x ∈ l, okRow N x = true
  | [], h, x, hx => by cases hx
  | y :: l, h, x, hx => by
    simp only [okRows, Bool.and_eq_true] at h
    rcases List.mem_cons.1 hx with rfl | hx
    · exact h.1
    · exact okRows_iff h.2 x hx
def fstN : List (Nat × List Item) → List Nat
  | [] => []
  | x :: l => x.1 :: fstN l
theorem fstN_eq (l : List (Nat × List Item)) : fstN l = l.map (·.1) := by induction l with | nil => rfl | cons x l ih => simp [fstN, ih]
def okBody (N : Nat) (c : Code) : Bool := distinctN (fstN (ctxs c [])) && okRows N (ctxs c [])

theorem ctxOf_mem {id : Nat} {k : List Item} : ∀ {l : List (Nat × List Item)}, (l.map (·.1)).Nodup → (id, k) ∈ l → ctxOf id l = k
  | [], hn, h => by cases h
  | (i, k') :: l, hn, h => by
    simp only [List.map_cons, List.nodup_cons] at hn
    simp only [ctxOf]
    rcases List.mem_cons.1 h with h | h
    · cases h; rw [Nat.beq_refl]; rfl
    · have : i ≠ id := fun e => hn.1 (e ▸ List.mem_map_of_mem (f := (·.1)) h)
      have hb : Nat.beq i id = false := by
        cases hb : Nat.beq i id with
        | false => rfl
        | true => exact absurd (Nat.eq_of_beq_eq_true hb) this
      rw [hb]
      exact ctxOf_mem hn.2 h

/-- what a cut promises -/
def CutOk (E : Env U) (f : FuncId) (id : Nat) (live : List Nat) (nb : Nat) (vals : List (A U)) (objs : List (AObj U)) (K : A U → List (A U) → Prop) : Prop :=
  ∀ (fn : Func) (N : Nat) (w0 : World) (St0 : Bool → Nat → Prop) (b : Frame) (a : Act) (w : World) (ι : Nat → Option Value) (St : Bool → Nat → Prop), E.P.funcs[f]? = some fn → fn.ntmps ≤ N → b.fn = f → b.kind = .normal → a.defers = [] →
    Inv E N w0 St0 (S.ofLay live nb vals objs) a.tmps w ι St → (∀ m, objs.length ≤ m → ι m = none) → Ends E.P b (ctxOf id (ctxs (bodyOf E.P f) [])) a w (RetPost E w0 St0 K)
def CSound (E : Env U) (C : Cut U) : Prop := ∀ f id live nb vals objs K, cutOf f id E.cuts = some live → C f id nb vals objs K → CutOk E f id live nb vals objs K

theorem vgo_sound (ok : EnvOk2 E) {T : Tab U} {C : Cut U} (TS : TSound E T) (CS : CSound E C) (hm : E.P.follows .mixedOrders = true) {f : FuncId} {fn : Func} {body : Code} (hfn : E.P.funcs[f]? = some fn) (hbody : fn.body = some body) (hok : okBody fn.ntmps body = true) (hN : fn.ntmps ≤ N) :
    ∀ (n : Nat) (st : Bool) (todo : List Item) (s : S U) (b : Frame) (a : Act) (w : World) (ι : Nat → Option Value) (St : Bool → Nat → Prop), vgo E T C f fn.results K n st todo s → (∀ x ∈ ctxsT todo, x ∈ ctxs body []) → b.fn = f → b.kind = .normal → a.defers = [] →
      Inv E N w0 St0 s a.tmps w ι St → (∀ m, s.nx ≤ m → ι m = none) → Ends E.P b todo a w (RetPost E w0 St0 K)
  | 0, st, todo, s, b, a, w, ι, St, hv, hc, hb, hk, hd, I, hf => hv.elim
  | n + 1, st, todo, s, b, a, w, ι, St, hv, hc, hb, hk, hd, I, hf => by
    have go := fun st todo s a w ι St h1 h2 h3 h4 h5 => vgo_sound ok TS CS hm hfn hbody hok hN n st todo s b a w ι St h1 h2 hb hk h3 h4 h5
    have hfn' : E.P.funcs[b.fn]? = some fn := by rw [hb]; exact hfn
    cases todo with
    | nil => exact ends_ret ok I hfn' hk hd hv (fun cs => step_end)
    | cons x k =>
      cases x with
      | inBlock j => exact Ends.step (fun cs => step_inBlock) (go _ _ _ _ _ _ _ hv hc hd I hf)
      | inLoop c => exact Ends.step (fun cs => step_inLoop) (go _ _ _ _ _ _ _ hv (fun x hx => hc x (by simp only [ctxsT, List.mem_append] at hx ⊢; rcases hx with h | h; exact .inl h; exact h)) hd I hf)
      | code c =>
        cases c with
        | skip => exact Ends.step (fun cs => step_skip) (go _ _ _ _ _ _ _ hv (fun x hx => hc x (by simpa [ctxsT, ctxs] using hx)) hd I hf)
        | seq x y => exact Ends.step (fun cs => step_seq) (go _ _ _ _ _ _ _ hv (fun z hz => hc z (by simpa [ctxsT, ctxs] using hz)) hd I hf)
        | cond c x y =>
          simp only [vgo] at hv
          cases hev : s.ev E 0 c with
          | bool t =>
            rw [hev] at hv
            have hc' := ev_ok ok I.rel 0 c
            rw [hev] at hc'
            have hcv := RV.bool_inv hc'
            refine Ends.step (fun cs => step_cond hcv) ?_
            cases t with
            | true => exact go _ _ _ _ _ _ _ hv (fun z hz => hc z (by simp only [ctxsT, ctxs, List.mem_append, if_true] at hz ⊢; rcases hz with h | h; exact .inl (.inl h); exact .inr h)) hd I hf
            | false => exact go _ _ _ _ _ _ _ hv (fun z hz => hc z (by simp only [ctxsT, ctxs, List.mem_append, Bool.false_eq_true, if_false] at hz ⊢; rcases hz with h | h; exact .inl (.inr h); exact .inr h)) hd I hf
          | _ => rw [hev] at hv; exact hv.elim
        | block id c => exact Ends.step (fun cs => step_block) (go _ _ _ _ _ _ _ hv (fun z hz => hc z (by simpa [ctxsT, ctxs] using hz)) hd I hf)
        | loop c => exact Ends.step (fun cs => step_loop) (go _ _ _ _ _ _ _ hv (fun z hz => hc z (by simp only [ctxsT, ctxs, List.mem_append] at hz ⊢; rcases hz with h | h | h; exact .inl h; exact .inl h; exact .inr h)) hd I hf)
        | exit id =>
          simp only [vgo] at hv
          cases he : exitTo id k with
          | none => rw [he] at hv; exact hv.elim
          | some k' =>
            rw [he] at hv
            exact Ends.step (fun cs => step_exit he) (go _ _ _ _ _ _ _ hv (fun z hz => hc z (by simp only [ctxsT, ctxs, List.nil_append]; exact ctxsT_exit he z hz)) hd I hf)
        | ret => exact ends_ret ok I hfn' hk hd hv (fun cs => step_ret)
        | region id ops draw =>
          have hmem : (id, .code (.region id ops draw) :: k) ∈ ctxs body [] := hc _ (by simp [ctxsT, ctxs])
          unfold okBody at hok
          simp only [Bool.and_eq_true, fstN_eq, distinctN_iff] at hok
          have hrow := okRows_iff hok.2 _ hmem
          simp only [okRow, Bool.and_eq_true] at hrow
          have hds : ∀ o ∈ ops.toList, ∀ d, o.dst = some d → d < N := fun o ho d hd => Nat.lt_of_lt_of_le (dstsIn_iff hrow.2.2 o ho d hd) hN
          have reg : vregion E T ops draw s (fun s' => vgo E T C f fn.results K n false k s') → Ends E.P b (.code (.region id ops draw) :: k) a w (RetPost E w0 St0 K) := by
            intro hv
            have := vregion_sound ok TS hm (id := id) hds (fun h => by rw [h] at hrow; exact hrow.2.1) I hf hv (Q := fun e a' w' => e = .normal ∧ Ends E.P b k a' w' (RetPost E w0 St0 K))
              (fun s' a' w' ι' St' hk' I' hf' hd' => ⟨rfl, go _ _ _ _ _ _ _ hk' (fun z hz => hc z (by simp only [ctxsT, ctxs, List.mem_append]; exact .inr hz)) (hd'.trans hd) I' hf'⟩)
            intro cs
            obtain ⟨e, a', w', ⟨rfl, hE⟩, harr⟩ := this b k cs
            obtain ⟨x, w2, fr, h1, h2, h3⟩ := hE cs
            exact ⟨x, w2, fr, h1, Comes.of_steps harr h2, h3⟩
          simp only [vgo] at hv
          cases st with
          | true => exact reg hv
          | false =>
            cases hcut : cutOf f id E.cuts with
            | none => rw [hcut] at hv; exact reg hv
            | some live =>
              rw [hcut] at hv
              simp only [] at hv
              cases hl : lay s live with
              | none => rw [hl] at hv; exact hv.elim
              | some x =>
                rw [hl] at hv
                obtain ⟨ι', I', hf'⟩ := lay_sound ok I hf hl
                have := CS f id live s.nb x.1 x.2 K hcut hv fn N w0 St0 b a w ι' St hfn hN hb hk hd I' hf'
                have hbo : bodyOf E.P f = body := by unfold bodyOf; rw [hfn]; simp only [hbody]
                rw [hbo, ctxOf_mem hok.1 hmem] at this
                exact this
        | _ => exact hv.elim
      | _ => exact hv.elim
end
end Go.V
