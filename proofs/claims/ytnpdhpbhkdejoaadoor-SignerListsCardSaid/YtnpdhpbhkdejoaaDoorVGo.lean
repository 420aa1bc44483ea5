/- V: the way through a body. -/
import Derived.Test.YtnpdhpbhkdejoaaDoorVCtl
set_option linter.unusedVariables false
set_option linter.unusedSimpArgs false
namespace Go.V
variable {U : Nat → Type}
section
variable {E : Env U} {w : World} {St : Bool → Nat → Prop} {ι : Nat → Option Value} {s : S U} {N : Nat} {tm : Array Value} {w0 : World} {St0 : Bool → Nat → Prop} {O0 : Nat → Prop} {K : A U → List (AObj U) → Prop}
variable {nb : Nat} {ιi : Nat → Option Value} {H : List (Nat × Obj)} {rnd : Rnd}

theorem run_enterLoop_inner {P : Program} (fn : FuncId) (tmps : Array Value) (ps : Array Tmp) (assign body : Code) {l0 : Nat} {L0 : Loop} (h : w.heap[l0]? = some (.loop L0)) :
    (Instr.enterLoop fn tmps ps assign body (some l0)).run P w = .ok (w.heap.size, []) (w.alloc (.loop { state := .ready, pending := none, fn, tmps, params := ps, assign, body, defers := L0.defers })) := by
  unfold Instr.enterLoop
  simp only [Sem.run_bind, run_getLoop h, run_newObj_alloc, Result.andThen, Sem.run_pure, World.size_alloc]

/-- entering a loop: the record, and (at an outermost one) the block for deferred calls, have no names yet -/
theorem enter_ok {b : Frame} {a : Act} {hb : Bool} (I : Inv E N w0 St0 O0 (nb, ιi, H) s a.tmps w ι St) (hF : FrOk rnd H b a hb) (ps : Array Tmp) (as bd : Code) :
    ∃ l mark w1 H' L, (Instr.enterLoop b.fn a.tmps ps as bd b.roundOf).run E.P w = .ok (l, mark) w1 ∧ L.state = .ready ∧ L.pending = none ∧ L.fn = b.fn ∧ L.tmps = a.tmps ∧ L.params = ps ∧ L.assign = as ∧ L.body = bd ∧ w.heap.size ≤ l ∧
      Inv E N w0 St0 O0 (nb, ιi, (l, .loop L) :: H') s a.tmps w1 ι St ∧ FrOk rnd H' b { a with defers := mark ++ a.defers } hb := by
  cases rnd with
  | none =>
    obtain ⟨h1, h2, h3⟩ := hF
    rw [h1]
    have I1 := I.newH (.deferred (some []))
    refine ⟨_, _, _, (w.heap.size, .deferred (some [])) :: H, { state := .ready, pending := none, fn := b.fn, tmps := a.tmps, params := ps, assign := as, body := bd, defers := w.heap.size }, run_enterLoop_outer (P := E.P) b.fn a.tmps ps as bd, rfl, rfl, rfl, rfl, rfl, rfl, rfl, Nat.le_succ _, ?_, h1, ?_, ?_⟩
    · have I2 := I1.newH (.loop { state := .ready, pending := none, fn := b.fn, tmps := a.tmps, params := ps, assign := as, body := bd, defers := w.heap.size })
      simpa using I2
    · simp [h2, markOf]
    · intro x hx
      rcases List.mem_cons.1 hx with rfl | hx
      · rfl
      · exact h3 x hx
  | some x =>
    obtain ⟨l0, L0⟩ := x
    obtain ⟨h1, h2, rfl⟩ := hF
    rw [h1]
    have hh := (I.hid _ (List.mem_singleton.2 rfl)).1
    simp only [] at hh
    exact ⟨_, _, _, _, { state := .ready, pending := none, fn := b.fn, tmps := a.tmps, params := ps, assign := as, body := bd, defers := L0.defers }, run_enterLoop_inner (P := E.P) b.fn a.tmps ps as bd hh, rfl, rfl, rfl, rfl, rfl, rfl, rfl, Nat.le_refl _, I.newH _, h1, by simpa using h2, rfl⟩

theorem vrange_sound (ok : EnvOk2 E) {T : Tab U} (TS : TSound E T) {b : Frame} {a : Act} {g : Operand} {ps : Array Tmp} {as bd : Code} {k : List Item} {f : FuncId} {hb : Bool} {fn : Func} (hfb : b.fn = f) (I : Inv E N w0 St0 O0 (nb, ιi, H) s a.tmps w ι St)
    (hf : ∀ m, s.nx ≤ m → ι m = none) (hF : FrOk rnd H b a hb) (hloop : ∃ k', ctxAll (lkey as bd) (bodyOf E.P f) = .code (.rangeFunc g ps as bd) :: k') (hfn : E.P.funcs[f]? = some fn) (hN : fn.ntmps ≤ N) {Kc : Nat → S U → Prop} (hv : vrange E T f g as bd s Kc) {R : Ending → World → Prop}
    (next : ∀ j s' (a' : Act) w' ι' St' H', Kc j s' → Inv E N w0 St0 O0 (nb, ιi, H') s' a'.tmps w' ι' St' → (∀ m, s'.nx ≤ m → ι' m = none) → FrOk rnd H' b a' hb → Ends E.P b (((jumpOf j).map Item.code).toList ++ k) a' w' R) :
    Ends E.P b (.code (.rangeFunc g ps as bd) :: k) a w R := by
  unfold vrange at hv
  cases hev : s.ev E 0 g with
  | clo gf caps =>
    rw [hev] at hv
    simp only [] at hv
    cases hpr : (memN gf E.procs && Nat.blt gf 1000000) with
    | false => rw [hpr] at hv; exact hv.elim
    | true =>
    rw [hpr] at hv
    simp only [cond_true] at hv
    simp only [Bool.and_eq_true] at hpr
    cases hlo : loopOf f (lid as bd) E.loops with
    | none => rw [hlo] at hv; exact hv.elim
    | some live =>
    rw [hlo] at hv
    simp only [] at hv
    have hclo := ev_ok ok I.rel 0 g
    rw [hev] at hclo
    obtain ⟨vs, e1, e2, e3⟩ := RV.clo_inv hclo
    obtain ⟨l, mark, w1, H', L, he, L1, L2, L3, L4, L5, L6, L7, hl, I1, hF1⟩ := enter_ok I hF ps as bd
    have hLI : LoopIs E f (lid as bd) live L := ⟨⟨hlo, L3.trans hfb⟩, ⟨g, by rw [L5, L6, L7]; exact hloop⟩, fn, hfn, by rw [L4, I.rel.tsz]; exact hN⟩
    have hvals : RVs E w1 St ι (live.map fun d => untup (s.t d)) (live.map fun d => L.tmps.getD d undef) := by
      rw [L4]
      exact (holds_live I1.rel live).rvs' fun q hq => by
        obtain ⟨d, -, rfl⟩ := List.mem_map.1 hq
        exact noTup_untup _
    obtain ⟨I2, hf2⟩ := I1.nameH hf (Nat.le_trans I.fr.size hl) hLI hvals ⟨L1, L2⟩
    -- the call
    generalize hs1 : ({ s with h := upd s.h s.nx (.lp f (lid as bd) live (live.map fun d => untup (s.t d)) 0), nx := s.nx + 1 } : S U) = s1 at hv I2
    have hs1x : s1.nx = s.nx + 1 := by rw [← hs1]
    have hs1b : s1.nb = s.nb := by rw [← hs1]
    have ext1 : Ext w St ι w1 St (upd ι s.nx (some (.func (.yield l) #[] #[]))) := by
      refine ⟨fun _ _ h => h, fun m u h => ?_, fun B hB => ?_, ?_⟩
      · rw [upd_ne _ _ (fun e => by subst e; rw [hf _ (Nat.le_refl _)] at h; cases h)]; exact h
      · revert he
        cases rnd with
        | none =>
          rw [hF.1, run_enterLoop_outer]
          intro he
          cases he
          have := I.rel.stb B hB
          simp only [World.alloc, Array.getElem?_push, Array.size_push]
          rw [if_neg (by omega), if_neg (by omega)]
        | some x =>
          obtain ⟨l0, L0⟩ := x
          obtain ⟨h1, h2, rfl⟩ := hF
          have hh := (I.hid _ (List.mem_singleton.2 rfl)).1
          simp only [] at hh
          rw [h1, run_enterLoop_inner (P := E.P) b.fn a.tmps ps as bd hh]
          intro he
          cases he
          have := I.rel.stb B hB
          simp only [World.alloc, Array.getElem?_push]
          rw [if_neg (by omega)]
      · revert he
        cases rnd with
        | none => rw [hF.1, run_enterLoop_outer]; intro he; cases he; simp; omega
        | some x =>
          obtain ⟨l0, L0⟩ := x
          obtain ⟨h1, h2, rfl⟩ := hF
          have hh := (I.hid _ (List.mem_singleton.2 rfl)).1
          simp only [] at hh
          rw [h1, run_enterLoop_inner (P := E.P) b.fn a.tmps ps as bd hh]
          intro he
          cases he
          simp
    unfold callP at hv
    cases hkn : (A.yld s.nx :: caps : List (A U)).all known with
    | false => rw [hkn] at hv; exact hv.elim
    | true =>
    rw [hkn] at hv
    simp only [cond_true] at hv
    cases hx : layG s1.h (s.nx + 1) [] (.yld s.nx :: caps) with
    | none => rw [hx] at hv; exact hv.elim
    | some x =>
    rw [hx] at hv
    simp only [] at hv
    cases hbn : (Nat.ble x.n (s.nx + 1 + 100) && x.L.all fun m => Nat.blt m x.n || Nat.ble (s.nx + 1 + 100) m) with
    | false => rw [hbn] at hv; exact hv.elim
    | true =>
    rw [hbn] at hv
    simp only [cond_true] at hv
    simp only [Bool.and_eq_true, Nat.ble_eq, List.all_eq_true, Bool.or_eq_true, Nat.blt_eq] at hbn
    obtain ⟨hn, hL⟩ := hbn
    obtain ⟨⟨fg, f1, f2, f3⟩, f4⟩ := ((TS gf _ _ _ hv).1 hpr.2).2 hpr.1
    obtain ⟨gbody, f2⟩ := Option.isSome_iff_exists.1 f2
    have hyv : RV E w1 St (upd ι s.nx (some (.func (.yield l) #[] #[]))) (.yld s.nx) (.func (.yield l) #[] #[]) := .mk1 (.yld (upd_same _ _ _) .nil) rfl rfl
    have hrv : RVs E w1 St (upd ι s.nx (some (.func (.yield l) #[] #[]))) (.yld s.nx :: caps) (#[Value.func (.yield l) #[] #[]] ++ vs).toList := by
      have h2 := (RVs.of_flat ok.toEnvOk e2 e3).ext ext1
      have h3 : RVs E w1 St (upd ι s.nx (some (.func (.yield l) #[] #[]))) (.yld s.nx :: caps) (Value.func (.yield l) #[] #[] :: vs.toList) := ⟨.inr hyv, h2⟩
      rw [Array.toList_append]
      exact h3
    obtain ⟨ι2, LO⟩ := layG_ok ok I2.rel hx (hrv.holds hkn) (fun q hq => noTup_known (by simpa using (List.all_eq_true.1 hkn) q hq)) (fun m h5 h6 => hf2 m h5)
    have hnt : ∀ q ∈ x.vals, noTup q = true := layG_noTup hx fun q hq => noTup_known (by simpa using (List.all_eq_true.1 hkn) q hq)
    have hcall := f4 w1 St (reι x.L ι2) _ (LO.vals.rvs hnt) LO.heap (fun m hm => LO.out m (by rw [LO.len] at hm; exact hm))
    have hres : (resolve a.eval (rangeCall g l) 0).run E.P w1 = .ok ({ target := .fn (.func gf) vs, args := #[.func (.yield l) #[] #[]] } : Deferred) w1 := by
      have e0 : (rangeCall g l).args.map a.eval = #[.func (.yield l) #[] #[]] := by simp [rangeCall, Act.eval]
      simp only [resolve, e0, e1, Deferred.ofValue, Array.empty_append, Sem.run_pure]
    have hinv : (invoke (Target.fn (Fn.func gf) vs) #[.func (.yield l) #[] #[]]).run E.P w1 = .ok (.enter gf (#[Value.func (.yield l) #[] #[]] ++ vs)) w1 := by
      simp only [invoke]
      exact MuLone.run_callFunc_enter f1 f3 f2 _ _
    refine .of fun cs => ?_
    have s1' := stepR_rangeFunc (P := E.P) (b := b) (a := a) (k := k) (cs := cs) (w := w) he hres hinv
    obtain ⟨e, w3, fr, hR, hcome, -, hleave⟩ := hcall (b.atR { a with defers := mark ++ a.defers } (.inRangeFunc l :: k) :: cs)
    obtain ⟨r, v, objs, ι', St', rfl, q⟩ := hR
    have hkk := q.k
    cases hb2 : (Nat.ble x.L.length objs.length && Nat.ble (x.n + (objs.length - x.L.length)) (s.nx + 1 + 100)) with
    | false => rw [hb2] at hkk; exact hkk.elim
    | true =>
    rw [hb2] at hkk
    simp only [cond_true] at hkk
    simp only [Bool.and_eq_true, Nat.ble_eq] at hb2
    obtain ⟨ι4, St2, hs⟩ := proc_done (a := { a with defers := mark ++ a.defers }) ok I2.rel (fun m h5 h6 => hf2 m h5) none (fun _ h => by cases h) LO hn hL q hb2.1 hb2.2
    have I3 := I2.step (a := { a with defers := mark ++ a.defers }) (by rw [hs1b]; exact Nat.le_succ_of_le I.nbx) hs
    generalize hs2 : (s1.put (x.wr ++ wrP x.L x.n 0 objs) none (mapA (unr x.L x.n) r)) = s2 at hkk I3
    have h2x : s2.nx = s1.nx := by rw [← hs2]; rfl
    have hιn : ι4 s.nx = some (.func (.yield l) #[] #[]) := hs.nm _ _ (upd_same _ _ _)
    cases hsn : s2.h s.nx with
    | lp lf lk live' vals' j =>
      rw [hsn] at hkk
      simp only [] at hkk
      have hobj := I3.rel.obj s.nx
      rw [hsn, hιn] at hobj
      obtain ⟨r', L', q1, q2, q3, q4, q5⟩ := hobj
      obtain rfl : l = r' := by simpa using q1
      have hend : (Instr.endLoop l).run E.P w3 = .ok (jumpOf j) (w3.putObj l (.loop { L' with state := .exhausted })) := by
        rw [run_endLoop (P := E.P) q2 (by rw [q5.1]; split <;> simp), q5.2]
      have I4 := I3.dropL (n := s.nx) (l := l) (.loop { L' with state := .exhausted }) (by rw [hsn]; rfl) (by rw [hιn]; rfl) (s.nx + 101) (by rw [h2x, hs1x]; omega)
      refine ⟨_, { a with defers := mark ++ a.defers }, _, ?_, next j _ { a with defers := mark ++ a.defers } _ ι4 St2 H' hkk I4 (fun m hm => ?_) hF1⟩
      · refine Steps.head s1' (Steps.trans hcome (Steps.head (step_leave_returned hleave) ?_))
        rw [finish_atR_inRangeFunc]
        exact .one (stepR_endRangeFunc hend)
      · have hm' : s.nx + 101 ≤ m := hm
        cases hι : ι4 m with
        | none => rfl
        | some u =>
          rcases hs.new m (by rw [hι]; simp) with h | h
          · exact absurd (hf2 m (by omega)) h
          · omega
    | _ => rw [hsn] at hkk; exact hkk.elim
  | _ => rw [hev] at hv; exact hv.elim

theorem stepR_scope {P : Program} {b : Frame} {a : Act} {k : List Item} {cs : List Frame} {w : World} {c : Code} : step P (lone (b.atR a (.code (.scope c) :: k)) cs w) = .next (lone (b.atR a (.code c :: .inScope c :: k)) cs w) :=
  step_lone_go (by simp [stepG, stepG.exec, Frame.atR])
theorem stepR_inScope {P : Program} {b : Frame} {a : Act} {k : List Item} {cs : List Frame} {w : World} {c : Code} : step P (lone (b.atR a (.inScope c :: k)) cs w) = .next (lone (b.atR a k) cs w) :=
  step_lone_go (by simp [stepG, stepG.exec, Frame.atR])
theorem hasBegin_code (c : Code) (k : List Item) : hasBegin (.code c :: k) = hasBegin k := rfl

theorem vgo_sound (ok : EnvOk2 E) {T : Tab U} {C : Cut U} (TS : TSound E T) (CS : CSound E C) (hm : E.P.follows .mixedOrders = true) {f : FuncId} {fn : Func} {body : Code} (hfn : E.P.funcs[f]? = some fn) (hbody : fn.body = some body) (hok : okBody fn.ntmps body = true) (hN : fn.ntmps ≤ N) (hO : rnd = none → Plain E f O0) :
    ∀ (n : Nat) (st : Bool) (todo : List Item) (s : S U) (b : Frame) (a : Act) (w : World) (ι : Nat → Option Value) (St : Bool → Nat → Prop) (H : List (Nat × Obj)), vgo E T C f fn.results K rnd.isSome n st todo s → (∀ x ∈ ctxsT todo, x ∈ placesOf rnd.isSome body) → b.fn = f → b.kind = .normal → FrOk rnd H b a (hasBegin todo) →
      Inv E N w0 St0 O0 (nb, ιi, H) s a.tmps w ι St → (∀ m, s.nx ≤ m → ι m = none) → Ends E.P b todo a w (FPost E rnd f w0 St0 O0 nb ιi K)
  | 0, st, todo, s, b, a, w, ι, St, H, hv, hc, hb, hk, hF, I, hf => hv.elim
  | n + 1, st, todo, s, b, a, w, ι, St, H, hv, hc, hb, hk, hF, I, hf => by
    have go := fun st todo s a w ι St H h1 h2 h3 h4 h5 => vgo_sound ok TS CS hm hfn hbody hok hN hO n st todo s b a w ι St H h1 h2 hb hk h3 h4 h5
    have hfn' : E.P.funcs[b.fn]? = some fn := by rw [hb]; exact hfn
    have hbo : bodyOf E.P f = body := by unfold bodyOf; rw [hfn]; simp only [hbody]
    unfold okBody at hok
    simp only [Bool.and_eq_true, fstN_eq, distinctN_iff] at hok
    have hro := hF.round
    -- the end, or 'ret'
    have ends : ∀ (j : Nat) (todo : List Item) (hs : Bool), cond rnd.isSome (vend j s K) (vret E f fn.results s K) → FrOk rnd H b a hs → (rnd = none → ∀ cs, Go.step E.P (lone (b.atR a todo) cs w) = .next (lone { b.atR a todo with mode := .returning } cs w)) →
        (∀ l L, rnd = some (l, L) → ∀ c cs v w', (Instr.endRound l (jumpOf j)).run E.P w = .ok v w' → Go.step E.P (lone (b.atR a todo) (c :: cs) w) = .next (lone (c.finish v) cs w')) → Ends E.P b todo a w (FPost E rnd f w0 St0 O0 nb ιi K) := by
      intro j todo hs hv hF h1 h2
      cases hr : rnd with
      | none =>
        subst hr
        exact ends_ret ok I hf (hO rfl) hfn' hk hF hv (h1 rfl)
      | some x =>
        subst hr
        obtain ⟨l, L⟩ := x
        exact ends_round ok I hf hF hv (h2 l L rfl)
    cases todo with
    | nil => exact ends 0 [] _ hv hF (fun h cs => stepR_end (by rw [hro, h]; rfl)) (fun l L h c cs v w' h2 => stepR_round_end (by rw [hro, h]; rfl) hk h2)
    | cons x k =>
      cases x with
      | inBlock j => exact Ends.step (fun cs => stepR_inBlock) (go _ _ _ _ _ _ _ _ hv hc hF I hf)
      | inScope j => exact Ends.step (fun cs => stepR_inScope) (go _ _ _ _ _ _ _ _ hv hc hF I hf)
      | inLoop c => exact Ends.step (fun cs => stepR_inLoop) (go _ _ _ _ _ _ _ _ hv (fun x hx => hc x (by simp only [ctxsT, List.mem_append] at hx ⊢; rcases hx with h | h; exact .inl h; exact h)) hF I hf)
      | beginRound =>
        simp only [vgo] at hv
        cases hr : rnd with
        | none => rw [hr] at hv; exact hv.elim
        | some x =>
          obtain ⟨l, L⟩ := x
          cases hb' : hasBegin k with
          | true => rw [hr, hb'] at hv; exact hv.elim
          | false =>
            rw [hr] at hF
            obtain ⟨h1, h2, rfl⟩ := hF
            have hh := (I.hid _ (List.mem_singleton.2 rfl)).1
            simp only [] at hh
            have hrun := run_beginRound (P := E.P) hh rfl
            have I' := I.putH (o' := .loop { L with state := .busy })
            rw [← hr]
            refine Ends.step (fun cs => stepR_beginRound h1 hrun) (go false _ _ _ _ _ _ _ ?_ hc ?_ I' hf)
            · rw [hr, hb'] at hv; rw [hr]; exact hv
            · rw [hr]
              refine ⟨h1, h2, ?_⟩
              rw [hb']; rfl
      | code c =>
        rw [hasBegin_code] at hF
        cases c with
        | skip => exact Ends.step (fun cs => stepR_skip) (go _ _ _ _ _ _ _ _ hv (fun x hx => hc x (by simpa [ctxsT, ctxs] using hx)) hF I hf)
        | label l => exact Ends.step (fun cs => stepR_label) (go _ _ _ _ _ _ _ _ hv (fun x hx => hc x (by simpa [ctxsT, ctxs] using hx)) hF I hf)
        | scope c => exact Ends.step (fun cs => stepR_scope) (go _ _ _ _ _ _ _ _ hv (fun z hz => hc z (by simpa [ctxsT, ctxs] using hz)) hF I hf)
        | seq x y => exact Ends.step (fun cs => stepR_seq) (go _ _ _ _ _ _ _ _ hv (fun z hz => hc z (by simpa [ctxsT, ctxs] using hz)) hF I hf)
        | cond c x y =>
          simp only [vgo] at hv
          cases hev : s.ev E 0 c with
          | bool t =>
            rw [hev] at hv
            have hc' := ev_ok ok I.rel 0 c
            rw [hev] at hc'
            have hcv := RV.bool_inv hc'
            refine Ends.step (fun cs => stepR_cond hcv) ?_
            cases t with
            | true => exact go _ _ _ _ _ _ _ _ hv (fun z hz => hc z (by simp only [ctxsT, ctxs, List.mem_append, if_true] at hz ⊢; rcases hz with h | h; exact .inl (.inl h); exact .inr h)) hF I hf
            | false => exact go _ _ _ _ _ _ _ _ hv (fun z hz => hc z (by simp only [ctxsT, ctxs, List.mem_append, Bool.false_eq_true, if_false] at hz ⊢; rcases hz with h | h; exact .inl (.inr h); exact .inr h)) hF I hf
          | _ => rw [hev] at hv; exact hv.elim
        | block id c => exact Ends.step (fun cs => stepR_block) (go _ _ _ _ _ _ _ _ hv (fun z hz => hc z (by simpa [ctxsT, ctxs] using hz)) hF I hf)
        | loop c => exact Ends.step (fun cs => stepR_loop) (go _ _ _ _ _ _ _ _ hv (fun z hz => hc z (by simp only [ctxsT, ctxs, List.mem_append] at hz ⊢; rcases hz with h | h | h; exact .inl h; exact .inl h; exact .inr h)) hF I hf)
        | exit id =>
          simp only [vgo] at hv
          cases he : exitTo id k with
          | none =>
            rw [he] at hv
            simp only [] at hv
            cases hr : rnd with
            | none => rw [hr] at hv; exact hv.elim
            | some x =>
              obtain ⟨l, L⟩ := x
              rw [hr] at hv hF
              exact ends_round ok I hf hF hv fun c cs v w' h2 => stepR_round_exit (by rw [hro, hr]; rfl) hk he h2
          | some k' =>
            rw [he] at hv
            simp only [] at hv
            cases hbb : (hasBegin k == hasBegin k') with
            | false => rw [hbb] at hv; exact hv.elim
            | true =>
              rw [hbb] at hv
              rw [beq_iff_eq.1 hbb] at hF
              exact Ends.step (fun cs => stepR_exit he) (go _ _ _ _ _ _ _ _ hv (fun z hz => hc z (by simp only [ctxsT, ctxs, List.nil_append]; exact ctxsT_exit he z hz)) hF I hf)
        | ret => exact ends 1 _ _ hv hF (fun h cs => stepR_ret (by rw [hro, h]; rfl)) (fun l L h c cs v w' h2 => stepR_round_ret (by rw [hro, h]; rfl) hk h2)
        | rangeFunc g ps as bd =>
          simp only [vgo] at hv
          have hmem : (lkey as bd, .code (.rangeFunc g ps as bd) :: k) ∈ placesOf rnd.isSome body := hc _ (by simp [ctxsT, ctxs])
          have hloop : ctxAll (lkey as bd) (bodyOf E.P f) = .code (.rangeFunc g ps as bd) :: k := by
            rw [hbo]; exact ctxOf_mem hok.1 (placesOf_in hmem)
          refine vrange_sound ok TS hb I hf hF ⟨k, hloop⟩ hfn hN hv fun j s' a' w' ι' St' H' hk' I' hf' hF' => ?_
          match j, hk' with
          | 0, hk' => exact go _ _ _ _ _ _ _ _ hk' (fun z hz => hc z (by simp only [ctxsT, ctxs, List.mem_append]; exact .inr hz)) hF' I' hf'
          | 1, hk' => exact go _ _ _ _ _ _ _ _ hk' (fun z hz => hc z (by simp only [ctxsT, ctxs, List.mem_append, List.nil_append] at hz ⊢; exact .inr hz)) hF' I' hf'
          | j + 2, hk' => exact go _ _ _ _ _ _ _ _ hk' (fun z hz => hc z (by simp only [ctxsT, ctxs, List.mem_append, List.nil_append] at hz ⊢; exact .inr hz)) hF' I' hf'
        | region id ops draw =>
          have hmem : (id, .code (.region id ops draw) :: k) ∈ placesOf rnd.isSome body := hc _ (by simp [ctxsT, ctxs])
          have hrow := okRows_iff hok.2 _ (placesOf_in hmem)
          simp only [okRow, Bool.and_eq_true] at hrow
          have hds : ∀ o ∈ ops.toList, ∀ d, o.dst = some d → d < N := fun o ho d hd => Nat.lt_of_lt_of_le (dstsIn_iff hrow.2.2 o ho d hd) hN
          have reg : vregion E T ops draw s (fun s' => vgo E T C f fn.results K rnd.isSome n false k s') → Ends E.P b (.code (.region id ops draw) :: k) a w (FPost E rnd f w0 St0 O0 nb ιi K) := by
            intro hv
            have := vregion_sound (ro := b.roundOf) ok TS hm (id := id) hds (fun h => by rw [h] at hrow; exact hrow.2.1) I hf hv (Q := fun e a' w' => e = .normal ∧ Ends E.P b k a' w' (FPost E rnd f w0 St0 O0 nb ιi K))
              (fun s' a' w' ι' St' hk' I' hf' hd' => ⟨rfl, go _ _ _ _ _ _ _ _ hk' (fun z hz => hc z (by simp only [ctxsT, ctxs, List.mem_append]; exact .inr hz)) (hF.defers hd') I' hf'⟩)
            refine .of fun cs => ?_
            obtain ⟨e, a', w', ⟨rfl, hE⟩, harr⟩ := this b k cs rfl trivial (room_wide _)
            exact ⟨k, a', w', StepsIn.steps harr, hE⟩
          simp only [vgo] at hv
          cases st with
          | true => exact reg hv
          | false =>
            cases hcut : cutOf f id E.cuts with
            | none => rw [hcut] at hv; exact reg hv
            | some live =>
              rw [hcut] at hv
              simp only [] at hv
              cases hl : lay s live with
              | none => rw [hl] at hv; exact hv.elim
              | some x =>
                rw [hl] at hv
                obtain ⟨ι', I', hf'⟩ := lay_sound ok I hf hl
                have hat : ctxAll id body = .code (.region id ops draw) :: k := ctxOf_mem hok.1 (placesOf_in hmem)
                have := CS f id live s.nb x.1 x.2 K hcut hv fn N w0 St0 O0 nb ιi H rnd b a w ι' St hfn hN hb hk (by rw [hbo]; exact placesOf_rd hok.1 hmem) (by rw [hbo, hat]; exact hF) hO I' hf'
                rw [hbo, hat] at this
                exact this
        | _ => exact hv.elim
      | _ => exact hv.elim
end
end Go.V
